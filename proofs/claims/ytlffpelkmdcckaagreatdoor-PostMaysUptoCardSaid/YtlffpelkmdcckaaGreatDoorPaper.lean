/- The reference's Paper. -/
import Derived.Test.YtlffpelkmdcckaaGreatDoorDoc
namespace Go.Proofs.YtlffpelkmdcckaaGreatDoor
open Go Go.RowKit Go.Sup
set_option maxRecDepth 100000
def restOk (d : DocD) : Bool := (decide (0 ≤ d.kind) && decide (d.kind ≤ 5)) && (decide (d.number.size ≤ 4096) && (decide (d.issuer.size ≤ 4096) && decide (d.fields.length ≤ 61)))
theorem paperOk_bad {d : DocD} {f : Fld} (h : f ∈ d.fields) (hb : mayF f = false) : paperOk d = false := by
  unfold paperOk
  have : d.fields.all mayF = false := by
    rw [List.all_eq_false]
    exact ⟨f, h, by rw [hb]; decide⟩
  rw [this]; rfl
theorem paperOk_all {d : DocD} (h : ∀ f ∈ d.fields, mayF f = true) : paperOk d = restOk d := by
  unfold paperOk restOk
  rw [List.all_eq_true.2 h]; rfl
theorem kind_test (k : Int) : ((kindS k).toList == (⟨#[]⟩ : ByteArray).toList) = !(decide (0 ≤ k) && decide (k ≤ 5)) := by
  rw [bs_beq]
  by_cases h : k < 0 ∨ 5 < k
  · rw [kindS_out h]
    rcases h with h | h
    · rw [show decide (0 ≤ k) = false by simp; omega]; rfl
    · rw [show decide (k ≤ 5) = false by simp; omega]; simp
  · have h1 := kindS_ne (k := k) (by omega) (by omega)
    rw [show decide (0 ≤ k) = true by simp; omega, show decide (k ≤ 5) = true by simp; omega]
    simp [h1]
set_option maxHeartbeats 2000000 in
theorem refPaper_any (d : DocD) (hd : SmallD d) (w : World) (B : Nat) (v : Value) (hv : SlC w B 2 (d.fields.map frow) v) (hB : B ≤ w.heap.size) (hlen : d.fields.length ≤ 1000000) :
    Calls Tryz.prog 49 #[d.val v] w fun e w' => e = .returned (.bool (paperOk d)) ∧ Below w.heap.size w w' := by
  have HBAD : Hid (∀ f ∈ d.fields, mayF f = false → paperOk d = false) := fun f h hb => paperOk_bad h hb
  have HALL : Hid ((∀ f ∈ d.fields, mayF f = true) → paperOk d = restOk d) := paperOk_all
  have HS : Hid (∀ f ∈ d.fields, SmallF f) := hd.1
  obtain ⟨P, hP⟩ : ∃ P, P = paperOk d := ⟨_, rfl⟩
  rw [← hP] at HBAD HALL ⊢
  clear hP hd
  obtain ⟨kd, nu, is, fs⟩ := d
  simp only [DocD.val, restOk] at HBAD HALL HS hv ⊢
  have Hv := Lib.hid hv
  obtain ⟨A, c, rfl, hn, hc, -⟩ := id hv
  rw [List.length_map] at Hv hn ⊢
  unfold maxLen at hc
  clear hv
  simp only at hlen
  go_enter Tryz.func49, Tryz.ntmps49
  go_wp2
  go_loopw [3] (fun i wr => ∃ k : Nat, k ≤ fs.length ∧ i = .int .i64 k ∧ Hid (∀ f ∈ fs.take k, mayF f = true) ∧ (wr.cell? ⟨w.heap.size, 0, none⟩ = some (.int .i64 kd) ∧ wr.cell? ⟨w.heap.size, 1, none⟩ = some (.string nu) ∧ wr.cell? ⟨w.heap.size, 2, none⟩ = some (.string is) ∧ wr.cell? ⟨w.heap.size, 3, none⟩ = some (.slice A fs.length c)) ∧ w.heap.size < wr.heap.size ∧ Hid (Below w.heap.size w wr)) (fun i _ => fs.length - (intOf i).toNat)
  case atStart => exact ⟨0, Nat.zero_le _, rfl, (by intro f hf; simp at hf), ⟨by go_simp, by go_simp, by go_simp, by go_simp⟩, by simp, (Below.refl _ _).alloc (Nat.le_refl _) _⟩
  case round =>
    obtain ⟨k, hk, rfl, HA, ⟨k0, k1, k2, k3⟩, hz, H⟩ := hrel
    by_cases hlt : k < fs.length
    · have hlk : fs[k]? = some fs[k] := List.getElem?_eq_getElem hlt
      have HL : Hid (SlC wr B 2 (fs.map frow) (.slice A fs.length c)) := Hv.out.keep fun p hp => H.out.cell (by omega)
      obtain ⟨b0, off, rfl, hb0, c0, c1⟩ := fld_at HL.out hlk
      have hlt' : (k : Int) < (fs.length : Int) := by omega
      obtain ⟨f, hf⟩ : ∃ f, f = fs[k] := ⟨_, rfl⟩
      rw [← hf] at c0 c1
      have Hf : Hid (f ∈ fs ∧ f = fs[k]) := ⟨by rw [hf]; exact List.getElem_mem hlt, hf⟩
      clear hf hlk
      go_wp2_with fail
      refine (refMay_any f (by have := (HS.out f Hf.out.1).1; omega) _).mono ?_
      rintro e w1 ⟨rfl, hb1⟩
      have HB1 : Hid (Below w.heap.size w w1) := H.out.trans (hb1.mono (Nat.le_of_lt hz))
      obtain ⟨z0, _⟩ := bcell hb1
      have j0 := (z0 w.heap.size 0 hz).trans k0
      have j1 := (z0 w.heap.size 1 hz).trans k1
      have j2 := (z0 w.heap.size 2 hz).trans k2
      have j3 := (z0 w.heap.size 3 hz).trans k3
      have hz1 := Nat.lt_of_lt_of_le hz hb1.size
      clear hb1 z0
      cases hm : mayF f
      · obtain rfl := HBAD.out f Hf.out.1 hm
        clear hm
        go_wp2
        go_ret
        exact ⟨rfl, HB1.out⟩
      · have HM := Lib.hid hm
        clear hm
        go_wp2
        go_roundw
        case rel =>
          refine ⟨k + 1, hlt, by go_num, ?_, ⟨j0, j1, j2, j3⟩, hz1, HB1.out⟩
          intro g hg
          rw [List.take_succ_eq_append_getElem hlt] at hg
          rcases List.mem_append.1 hg with hg | hg
          · exact HA.out g hg
          · simp at hg; rw [hg, ← Hf.out.2]; exact HM.out
        case measure => simp [intOf]; omega
    · obtain rfl : k = fs.length := by omega
      have HP := HALL.out (by have := HA.out; rw [List.take_length] at this; exact this)
      have HPH := Lib.hid HP
      clear hlt hk HP
      go_wp2_with fail
      refine (refKind_any kd _).mono ?_
      rintro e w1 ⟨rfl, hz1, hb1⟩
      have HB1 : Hid (Below w.heap.size w w1) := H.out.trans (hb1.mono (Nat.le_of_lt hz))
      obtain ⟨z0, _⟩ := bcell hb1
      have j1 := (z0 w.heap.size 1 hz).trans k1
      have j2 := (z0 w.heap.size 2 hz).trans k2
      have j3 := (z0 w.heap.size 3 hz).trans k3
      have hkt := kind_test kd
      have hkt2 : ((kindS kd).toList.isEmpty) = !(decide (0 ≤ kd) && decide (kd ≤ 5)) := by
        rw [← hkt, show (⟨#[]⟩ : ByteArray).toList = [] by rw [ByteArray.toList_eq]]; cases (kindS kd).toList <;> rfl
      obtain ⟨kb, hkb⟩ : ∃ kb, kb = (decide (0 ≤ kd) && decide (kd ≤ 5)) := ⟨_, rfl⟩
      rw [← hkb] at hkt hkt2 HPH
      obtain ⟨ks, hks⟩ : ∃ ks, ks = kindS kd := ⟨_, rfl⟩
      rw [← hks] at hkt hkt2 ⊢
      clear hb1 hz1 z0 k0 k1 k2 k3 hkb hks hkt
      have e1 : (nu.size : Int) ≤ 4096 ∨ ¬ (nu.size : Int) ≤ 4096 := by omega
      have e2 : (is.size : Int) ≤ 4096 ∨ ¬ (is.size : Int) ≤ 4096 := by omega
      have e3 : (fs.length : Int) ≤ 61 ∨ ¬ (fs.length : Int) ≤ 61 := by omega
      cases kb
      · simp only [Bool.not_false] at hkt2
        have hP : Hid (P = false) := by show _ = _; rw [HPH.out]; rfl
        have hl : ks.toList = [] := List.isEmpty_iff.1 hkt2
        go_wp2
        go_ret
        exact ⟨by rw [hP.out]; rfl, HB1.out⟩
      · simp only [Bool.not_true] at hkt2
        have hl : ¬ ks.toList = [] := by intro h; rw [h] at hkt2; cases hkt2
        rcases e1 with e1 | e1
        · rcases e2 with e2 | e2
          · rcases e3 with e3 | e3
            · have hP : Hid (P = true) := by show _ = _; rw [HPH.out]; simp; omega
              go_wp2
              go_ret
              exact ⟨by rw [hP.out]; first | rfl | (simp; done) | (simp; omega), HB1.out⟩
            · have hP : Hid (P = false) := by show _ = _; rw [HPH.out]; simp; omega
              go_wp2
              go_ret
              exact ⟨by rw [hP.out]; first | rfl | (simp; done) | (simp; omega), HB1.out⟩
          · have hP : Hid (P = false) := by show _ = _; rw [HPH.out]; simp; omega
            go_wp2
            go_ret
            exact ⟨by rw [hP.out]; first | rfl | (simp; done) | (simp; omega), HB1.out⟩
        · have hP : Hid (P = false) := by show _ = _; rw [HPH.out]; simp; omega
          go_wp2
          go_ret
          exact ⟨by rw [hP.out]; first | rfl | (simp; done) | (simp; omega), HB1.out⟩
end Go.Proofs.YtlffpelkmdcckaaGreatDoor
