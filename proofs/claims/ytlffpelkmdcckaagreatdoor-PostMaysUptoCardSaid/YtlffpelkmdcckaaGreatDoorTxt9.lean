/- 09: post.Text. -/
import Derived.Test.YtlffpelkmdcckaaGreatDoorRec9
namespace Go.Proofs.YtlffpelkmdcckaaGreatDoor
open Go Go.RowKit Go.Sup
set_option maxRecDepth 100000
theorem n9_ok : ∀ n ∈ [n9from, n9to, n9number, n9kind, n9ack, n9deal, n9text, n9party, n9index, n9day, n9sum, n9doc, n9box], nameOk n.data.toList = true := by decide +kernel
theorem digS_le (n : Int) (h0 : -1 ≤ n) (h1 : n ≤ 1048576) : (digS n).size ≤ 4096 := by
  have := digS_len n (by omega) (by omega)
  omega
theorem postN_le (k : Int) : (postN k).size ≤ 4096 := by
  unfold postN
  split
  · rcases h : postL[k.toNat]? with _ | s
    · show (⟨#[]⟩ : ByteArray).size ≤ _; decide
    · have hm : s ∈ postL := List.mem_of_getElem? h
      have : ∀ s ∈ postL, s.size ≤ 4096 := by decide +kernel
      exact this s hm
  · decide
theorem nameOk_le {s : ByteArray} (h : nameOk s.data.toList = true) : s.size ≤ 16 := by
  unfold nameOk at h
  simp only [Bool.and_eq_true, decide_eq_true_eq] at h
  have : s.data.toList.length = s.size := Array.length_toList
  omega
theorem sB_le {s : ByteArray} (h : sB s = true) : s.size ≤ 16 := by
  unfold sB at h
  simp only [Bool.or_eq_true, decide_eq_true_eq] at h
  rcases h with rfl | h
  · decide
  · exact nameOk_le h
theorem mayF_of {n v : ByteArray} (hn : nameOk n.data.toList = true) (hv : v.size ≤ 4096) : mayF (n, v) = true := by
  unfold mayF
  rw [hn]; simp [hv]
theorem letMay_parts {l : LetD} (h : letMay l = true) : kB l = true ∧ nB l = true ∧ tB l = true ∧ mB l = true ∧ rB l = true := by
  unfold letMay at h
  simpa only [Bool.and_eq_true] using h
theorem rec9_may {l : LetD} {ms : ByteArray} (h : letMay l = true) (hm : ms.size ≤ 4096) : (∀ f ∈ rec9 l ms, mayF f = true) ∧ (rec9 l ms).length ≤ 51 ∧ l.docs.length ≤ 8 ∧ l.boxes.length ≤ 32 := by
  obtain ⟨-, hn, ht, -, hr⟩ := letMay_parts h
  obtain ⟨⟨a0, a1⟩, ⟨b0, b1⟩, ⟨c0, c1⟩, ⟨d0, d1⟩⟩ := nB_in hn
  unfold tB at ht
  unfold rB at hr
  simp only [Bool.and_eq_true, decide_eq_true_eq] at ht hr
  obtain ⟨t0, t1, -, t3, t4, t5⟩ := ht
  obtain ⟨r0, r1, r2, r3⟩ := hr
  have N := n9_ok
  simp only [List.forall_mem_cons] at N
  obtain ⟨N0, N1, N2, N3, N4, N5, N6, N7, N8, N9, N10, N11, N12, -⟩ := N
  refine ⟨fun f hf => ?_, ?_, r0, r1⟩
  · unfold rec9 head9 at hf
    simp only [List.mem_append, List.mem_cons, List.mem_map, List.not_mem_nil, or_false] at hf
    rcases hf with ((rfl | rfl | rfl | rfl | rfl | rfl | rfl | rfl | rfl | rfl | rfl) | ⟨d, hd, rfl⟩) | ⟨b, hb, rfl⟩
    · exact mayF_of N0 (by have := nameOk_le t0; omega)
    · exact mayF_of N1 (by have := nameOk_le t1; omega)
    · exact mayF_of N2 (digS_le _ (by omega) (by omega))
    · exact mayF_of N3 (postN_le _)
    · exact mayF_of N4 (digS_le _ (by omega) (by omega))
    · exact mayF_of N5 (by have := sB_le t3; omega)
    · exact mayF_of N6 t5
    · exact mayF_of N7 (by have := sB_le t4; omega)
    · exact mayF_of N8 (digS_le _ (by omega) (by omega))
    · exact mayF_of N9 (digS_le _ (by omega) (by omega))
    · exact mayF_of N10 hm
    · have := List.all_eq_true.1 r2 d hd
      unfold goDoc at this
      simp only [Bool.and_eq_true, decide_eq_true_eq] at this
      exact mayF_of N11 this.2
    · exact mayF_of N12 (by have := nameOk_le (List.all_eq_true.1 r3 b hb); omega)
  · unfold rec9 head9
    simp only [List.length_append, List.length_cons, List.length_map, List.length_nil]
    omega
theorem smallF_of {f : Fld} (h : mayF f = true) : SmallF f := by
  unfold mayF at h
  simp only [Bool.and_eq_true, decide_eq_true_eq] at h
  exact ⟨by have := nameOk_le h.1; omega, by omega⟩
/-- A letter's text. -/
def txt9 (l : LetD) (ms : ByteArray) : ByteArray := if letMay l then textS (rec9 l ms) else ⟨#[]⟩
def txtE (l : LetD) : Nat := if letMay l then 0 else 1
set_option maxHeartbeats 2000000 in
theorem text9_any (l : LetD) (ms : ByteArray) (hl : SmallL l) (hms' : ms.size ≤ 4096) (w : World) (B : Nat) (v : Value) (hv : LetC w B l v) (hB : B ≤ w.heap.size) (hT : TabW w) (hP : Lib.TabIs Tryz.prog w "internal/strconv.uint64pow10" .u64 Lib.pow10Tab)
    (hms : letMay l = true → ∀ W, Below w.heap.size w W → Calls Tryz.prog 74 #[.agg #[.string l.cur, .int .i64 l.amount]] W fun e w' => e = .returned (.string ms) ∧ Below W.heap.size W w') :
    Calls Tryz.prog 23 #[v] w fun e w' => e = .returned (.tuple #[.string (txt9 l ms), .int .i64 (txtE l)]) ∧ Below w.heap.size w w' := by
  have HM : Hid (∀ W, Below w.heap.size w W → Calls Tryz.prog 16 #[v] W fun e w' => e = .returned (.bool (letMay l)) ∧ Below W.heap.size W w') := fun W h => may9_any l hl W B v (hv.below (h.mono hB)) (Nat.le_trans hB h.size) (hT.below h)
  have HR : Hid (letMay l = true → ∀ W, Below w.heap.size w W → Calls Tryz.prog 51 #[v] W fun e w' => ∃ v', e = .returned v' ∧ SlC w' w'.heap.size 2 ((rec9 l ms).map frow) v' ∧ Below W.heap.size W w') := fun hm W h => by
    obtain ⟨-, -, d8, b8⟩ := rec9_may hm hms'
    exact rec9_any l ms hl (letMay_parts hm).2.1 (by omega) (by omega) W B v (hv.below (h.mono hB)) (Nat.le_trans hB h.size) (hT.below h) (var_below hP h) (fun W' h' => hms hm W' (h.trans (h'.mono h.size)))
  have HX : Hid (letMay l = true → ∀ W V, SlC W W.heap.size 2 ((rec9 l ms).map frow) V → Calls Tryz.prog 59 #[V] W fun e w' => e = .returned (.tuple #[.string (textS (rec9 l ms)), .int .i64 0]) ∧ Below W.heap.size W w') := fun hm W V h => by
    obtain ⟨hf, h51, -, -⟩ := rec9_may hm hms'
    have := text_any (rec9 l ms) (fun f hf' => smallF_of (hf f hf')) W _ V h (Nat.le_refl _)
    rw [textE_zero.2 ⟨by omega, hf⟩] at this
    exact this
  have H1 : Hid (txt9 l ms = if letMay l then textS (rec9 l ms) else ⟨#[]⟩) := rfl
  have H2 : Hid (txtE l = if letMay l then 0 else 1) := rfl
  obtain ⟨dv, bv, rfl, da, sa⟩ := hv
  obtain ⟨Ad, cd, rfl, -⟩ := da.form
  obtain ⟨Ab, cb, rfl, -⟩ := id sa
  rw [List.length_map] at HM HR ⊢
  obtain ⟨X, hX⟩ : ∃ X, X = txt9 l ms := ⟨_, rfl⟩
  obtain ⟨E, hE⟩ : ∃ E, E = txtE l := ⟨_, rfl⟩
  obtain ⟨R, hR⟩ : ∃ R, R = rec9 l ms := ⟨_, rfl⟩
  rw [← hX] at H1 ⊢
  rw [← hE] at H2 ⊢
  rw [← hR] at HR HX H1
  clear hX hE hR hms hl hT hP da sa hms' hB
  rcases hm : letMay l with _ | _
  · rw [hm] at HM H1 H2
    have h1 : X = ⟨#[]⟩ := H1.out
    have h2 : E = 1 := H2.out
    subst h1 h2
    clear HR HX H1 H2 hm
    obtain ⟨l0, l1, l2, l3, l4, l5, l6, l7, l8, l9, l10, l11, ld, lb⟩ := l
    simp only [LetD.val] at *
    go_enter Tryz.func23, Tryz.ntmps23
    go_wp2_with fail
    refine (HM.out _ ((Below.refl _ _).alloc (Nat.le_refl _) _)).mono ?_
    rintro e w1 ⟨rfl, hb1⟩
    have HB : Hid (Below w.heap.size w w1) := ((Below.refl _ _).alloc (Nat.le_refl _) _).trans (hb1.mono (by simp))
    clear hb1
    go_wp2
    go_ret2
    exact ⟨rfl, HB.out⟩
  · have HR2 := Lib.hid (HR.out hm)
    have HX2 := Lib.hid (HX.out hm)
    rw [hm] at HM H1 H2
    have h1 : X = textS R := H1.out
    have h2 : E = 0 := H2.out
    subst h2
    rw [← h1] at HX2
    clear HR HX H1 H2 hm h1
    obtain ⟨l0, l1, l2, l3, l4, l5, l6, l7, l8, l9, l10, l11, ld, lb⟩ := l
    simp only [LetD.val] at *
    go_enter Tryz.func23, Tryz.ntmps23
    go_wp2_with fail
    refine (HM.out _ ((Below.refl _ _).alloc (Nat.le_refl _) _)).mono ?_
    rintro e w1 ⟨rfl, hb1⟩
    have HB : Hid (Below w.heap.size w w1) := ((Below.refl _ _).alloc (Nat.le_refl _) _).trans (hb1.mono (by simp))
    obtain ⟨z0, z1⟩ := bcell hb1
    have k0 : w1.cell? ⟨w.heap.size, 0, none⟩ = some (.string l0) := (z0 w.heap.size 0 (by simp)).trans (by go_simp)
    have k1 : w1.cell? ⟨w.heap.size, 1, none⟩ = some (.string l1) := (z0 w.heap.size 1 (by simp)).trans (by go_simp)
    have k2 : w1.cell? ⟨w.heap.size, 2, none⟩ = some (.int .i64 l2) := (z0 w.heap.size 2 (by simp)).trans (by go_simp)
    have k3 : w1.cell? ⟨w.heap.size, 3, none⟩ = some (.int .i64 l3) := (z0 w.heap.size 3 (by simp)).trans (by go_simp)
    have k4 : w1.cell? ⟨w.heap.size, 4, none⟩ = some (.int .i64 l4) := (z0 w.heap.size 4 (by simp)).trans (by go_simp)
    have k5 : w1.cell? ⟨w.heap.size, 5, none⟩ = some (.string l5) := (z0 w.heap.size 5 (by simp)).trans (by go_simp)
    have k6 : w1.cell? ⟨w.heap.size, 6, none⟩ = some (.string l6) := (z0 w.heap.size 6 (by simp)).trans (by go_simp)
    have k7 : w1.cell? ⟨w.heap.size, 7, none⟩ = some (.string l7) := (z0 w.heap.size 7 (by simp)).trans (by go_simp)
    have k8 : w1.cell? ⟨w.heap.size, 8, none⟩ = some (.int .i64 l8) := (z0 w.heap.size 8 (by simp)).trans (by go_simp)
    have k9 : w1.cell? ⟨w.heap.size, 9, none⟩ = some (.int .i64 l9) := (z0 w.heap.size 9 (by simp)).trans (by go_simp)
    have k10 : w1.cell? ⟨w.heap.size, 10, none⟩ = some (.string l10) := (z0 w.heap.size 10 (by simp)).trans (by go_simp)
    have k11 : w1.cell? ⟨w.heap.size, 11, none⟩ = some (.int .i64 l11) := (z0 w.heap.size 11 (by simp)).trans (by go_simp)
    have k12 : w1.cell? ⟨w.heap.size, 12, none⟩ = some (.slice Ad ld.length cd) := (z0 w.heap.size 12 (by simp)).trans (by go_simp)
    have k13 : w1.cell? ⟨w.heap.size, 13, none⟩ = some (.slice Ab lb.length cb) := (z0 w.heap.size 13 (by simp)).trans (by go_simp)
    clear hb1 z0 z1
    go_wp2_with fail
    refine (HR2.out _ HB.out).mono ?_
    rintro e w2 ⟨v', rfl, hs2, hb2⟩
    have HB2 : Hid (Below w.heap.size w w2) := HB.out.trans (hb2.mono HB.out.size)
    obtain ⟨A2, c2, rfl, -⟩ := id hs2
    rw [List.length_map] at hs2 ⊢
    have HS2 := Lib.hid hs2
    clear hb2 hs2
    go_wp2_with fail
    refine (HX2.out _ _ HS2.out).mono ?_
    rintro e w3 ⟨rfl, hb3⟩
    have HB3 : Hid (Below w.heap.size w w3) := HB2.out.trans (hb3.mono HB2.out.size)
    clear hb3
    go_wp2
    go_ret2
    exact ⟨rfl, HB3.out⟩
end Go.Proofs.YtlffpelkmdcckaaGreatDoor
