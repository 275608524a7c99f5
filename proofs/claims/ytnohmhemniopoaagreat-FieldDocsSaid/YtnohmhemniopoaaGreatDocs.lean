/- FieldDocs: the walk. -/
import Derived.Test.YtnohmhemniopoaaGreatAwake5
import Derived.Test.YtnohmhemniopoaaGreatLong
import Derived.Test.YtnohmhemniopoaaGreatPaper
import Derived.Test.YtnohmhemniopoaaGreatRead
namespace Go.Proofs.YtnohmhemniopoaaGreat
open Go Go.RowKit Go.Sup
set_option maxRecDepth 100000
theorem readL_record {d : DocD} (h0 : 0 ≤ d.kind) (h5 : d.kind ≤ 5) : readL (recordF d) = (d, 0, 0) := by
  obtain ⟨kd, nu, is, fs⟩ := d
  simp only at h0 h5
  obtain ⟨k, rfl⟩ := Int.eq_ofNat_of_zero_le h0
  have hk : idxS kindL (kindS (k : Int)) = k := kindL_idx (by omega)
  unfold readL
  have e0 : headOk (recordF ⟨(k : Int), nu, is, fs⟩) 0 = true := by
    show (decide (nPaper = headN 0) && (decide ((0 : Nat) ≠ 0) || decide (0 ≤ idxS kindL (kindS (k : Int))))) = true
    rw [hk]
    simp [headN]
  have e1 : headOk (recordF ⟨(k : Int), nu, is, fs⟩) 1 = true := by
    show (decide (nNumber = headN 1) && (decide ((1 : Nat) ≠ 0) || decide (0 ≤ idxS kindL nu))) = true
    simp [headN]
  have e2 : headOk (recordF ⟨(k : Int), nu, is, fs⟩) 2 = true := by
    show (decide (nIssuer = headN 2) && (decide ((2 : Nat) ≠ 0) || decide (0 ≤ idxS kindL is))) = true
    simp [headN]
  rw [if_pos e0, if_pos e1, if_pos e2]
  show ((⟨idxS kindL (kindS (k : Int)), nu, is, fs⟩ : DocD), 0, 0) = _
  rw [hk]
theorem readR_doc {d : DocD} (h : paperOk d = true) : readR (docS d).data.toList = (d, 0, 0) ∧ docS d = textS (recordF d) ∧ docE d = 0 := by
  have hk : 0 ≤ d.kind ∧ d.kind ≤ 5 := by
    unfold paperOk at h
    simp only [Bool.and_eq_true, decide_eq_true_eq] at h
    exact h.2.1
  have he := (textE_record hk.1 hk.2).2 h
  have hs : docS d = textS (recordF d) := by unfold docS; rw [if_pos h]
  refine ⟨?_, hs, by unfold docE; rw [if_pos h]⟩
  have hp : parseR (docS d).data.toList = (recordF d, 0, 0) := by
    rw [hs]; unfold textS; rw [if_pos he, ba_list]
    exact parseR_text he
  unfold readR
  rw [hp]
  exact readL_record hk.1 hk.2
theorem docS_le {d : DocD} (h : SmallD d) : (docS d).size ≤ 1000000000 := by
  unfold docS
  split
  · rename_i hp
    have hk : 0 ≤ d.kind ∧ d.kind ≤ 5 := by
      unfold paperOk at hp
      simp only [Bool.and_eq_true, decide_eq_true_eq] at hp
      exact hp.2.1
    have he := (textE_record hk.1 hk.2).2 hp
    have h1 := textL_le (recordF d) (record_small h)
    have h2 := (textE_zero.1 he).1
    unfold textS
    rw [if_pos he, ba_size]
    omega
  · decide
theorem docEq_refl (d : DocD) : docEq d d = true := by simp [docEq, frowsEq]
set_option maxHeartbeats 2000000 in
theorem fieldDocs_any (d : DocD) (w : World) (v : Value) (hv : SlC w w.heap.size 2 (d.fields.map frow) v) :
    Calls Tryz.prog 3 #[d.val v] w fun e w' => e = .returned (.bool true) ∧ Below w.heap.size w w' := by
  have CF : Hid (∀ W, Below w.heap.size w W → Calls Tryz.prog 4 #[d.val v] W fun e w' => e = .returned (.bool (fewB d)) ∧ Below W.heap.size W w') := fun W h => few_any d W w.heap.size v (hv.below h) h.size
  cases hf : fewB d
  · rw [hf] at CF
    clear hf
    obtain ⟨kd, nu, is, fs⟩ := d
    simp only [DocD.val] at CF hv ⊢
    obtain ⟨A, c, rfl, -⟩ := id hv
    rw [List.length_map] at CF ⊢
    clear hv
    go_enter Tryz.func3, Tryz.ntmps3
    go_wp2_with fail
    refine (CF.out _ ((Below.refl _ _).alloc (Nat.le_refl _) _)).mono ?_
    rintro e w1 ⟨rfl, hb1⟩
    have HB1 : Hid (Below w.heap.size w w1) := ((Below.refl _ _).alloc (Nat.le_refl _) _).trans (hb1.mono (by simp))
    clear hb1
    go_wp2_with fail
    refine (awake_any _).mono ?_
    rintro e w2 ⟨rfl, hb2⟩
    have HB2 : Hid (Below w.heap.size w w2) := HB1.out.trans (hb2.mono HB1.out.size)
    clear hb2
    go_wp2
    go_ret
    exact ⟨rfl, HB2.out⟩
  · rw [hf] at CF
    have hsm := few_small hf
    have hls := long_small hsm.1
    have HSM : Hid (SmallD d) := ⟨fun f hfm => by have := hls.2 f hfm; exact ⟨by omega, by omega⟩, by omega, by omega⟩
    have hlen : d.fields.length ≤ 1000000 := by omega
    have CD : Hid (∀ W, Below w.heap.size w W → Calls Tryz.prog 6 #[d.val v] W fun e w' => e = .returned (.tuple #[.string (docS d), .int .i64 (docE d)]) ∧ Below W.heap.size W w') := fun W h => doc_any d HSM.out W w.heap.size v (hv.below h) h.size hlen
    have CP : Hid (∀ W, Below w.heap.size w W → Calls Tryz.prog 7 #[d.val v] W fun e w' => e = .returned (.bool (paperOk d)) ∧ Below W.heap.size W w') := fun W h => refPaper_any d HSM.out W w.heap.size v (hv.below h) h.size hlen
    have CR : Hid (∀ W, Below w.heap.size w W → Calls Tryz.prog 9 #[d.val v] W fun e w' => ∃ v', e = .returned v' ∧ SlC w' w'.heap.size 2 ((recordF d).map frow) v' ∧ Below W.heap.size W w') := fun W h => refRecord_any d W w.heap.size v (hv.below h) h.size hlen
    have CT : Hid (∀ W v', SlC W W.heap.size 2 ((recordF d).map frow) v' → Calls Tryz.prog 8 #[v'] W fun e w' => e = .returned (.tuple #[.string (textS (recordF d)), .int .i64 (textE (recordF d))]) ∧ Below W.heap.size W w') := fun W v' h => refText_any (recordF d) (record_small HSM.out) W W.heap.size v' h (Nat.le_refl _)
    have CA : Hid (∀ W fv, Below w.heap.size w W → SlC W W.heap.size 2 (d.fields.map frow) fv → Calls Tryz.prog 11 #[d.val fv, d.val v] W fun e w' => e = .returned (.bool true) ∧ Below W.heap.size W w') := fun W fv h hs => by
      have := alike_any d d W W.heap.size fv v hs ((hv.below h).more h.size) (Nat.le_refl _)
      rw [docEq_refl] at this; exact this
    have CS : Hid (∀ W fv, Below w.heap.size w W → SlC W W.heap.size 2 (d.fields.map frow) fv → Calls Tryz.prog 12 #[d.val fv, d.val v] W fun e w' => e = .returned (.bool true) ∧ Below W.heap.size W w') := fun W fv h hs => by
      have := same_any d d W W.heap.size fv v hs ((hv.below h).more h.size) (Nat.le_refl _)
      rw [docEq_refl] at this; exact this
    have HDL := Lib.hid (docS_le HSM.out)
    clear hf hsm hls
    cases hp : paperOk d
    · rw [hp] at CP
      have hE : docE d = 1 := by unfold docE; rw [hp]; rfl
      have hS : docS d = ⟨#[]⟩ := by unfold docS; rw [hp]; rfl
      rw [hE, hS] at CD
      clear hE hS hp CA CS CR CT HSM HDL
      obtain ⟨kd, nu, is, fs⟩ := d
      simp only [DocD.val] at CF CD CP hv ⊢
      obtain ⟨A, c, rfl, -⟩ := id hv
      rw [List.length_map] at CF CD CP ⊢
      clear hv
      go_enter Tryz.func3, Tryz.ntmps3
      go_wp2_with fail
      refine (CF.out _ ((Below.refl _ _).alloc (Nat.le_refl _) _)).mono ?_
      rintro e w1 ⟨rfl, hb1⟩
      have HB1 : Hid (Below w.heap.size w w1) := ((Below.refl _ _).alloc (Nat.le_refl _) _).trans (hb1.mono (by simp))
      have hz1 : w.heap.size < w1.heap.size := by have := hb1.size; simp at this; omega
      obtain ⟨z0, _⟩ := bcell hb1
      have k0 : w1.cell? ⟨w.heap.size, 0, none⟩ = some (.int .i64 kd) := (z0 w.heap.size 0 (by simp)).trans (by go_simp)
      have k1 : w1.cell? ⟨w.heap.size, 1, none⟩ = some (.string nu) := (z0 w.heap.size 1 (by simp)).trans (by go_simp)
      have k2 : w1.cell? ⟨w.heap.size, 2, none⟩ = some (.string is) := (z0 w.heap.size 2 (by simp)).trans (by go_simp)
      have k3 : w1.cell? ⟨w.heap.size, 3, none⟩ = some (.slice A fs.length c) := (z0 w.heap.size 3 (by simp)).trans (by go_simp)
      clear hb1 z0
      go_wp2_with fail
      refine (CD.out _ HB1.out).mono ?_
      rintro e w2 ⟨rfl, hb2⟩
      have HB2 : Hid (Below w.heap.size w w2) := HB1.out.trans (hb2.mono HB1.out.size)
      obtain ⟨z0, _⟩ := bcell hb2
      have k0 := (z0 w.heap.size 0 hz1).trans k0
      have k1 := (z0 w.heap.size 1 hz1).trans k1
      have k2 := (z0 w.heap.size 2 hz1).trans k2
      have k3 := (z0 w.heap.size 3 hz1).trans k3
      clear hb2 z0
      rw [show ((1 : Nat) : Int) = 1 from rfl]
      go_wp2_with fail
      refine (CP.out _ HB2.out).mono ?_
      rintro e w3 ⟨rfl, hb3⟩
      have HB3 : Hid (Below w.heap.size w w3) := HB2.out.trans (hb3.mono HB2.out.size)
      clear hb3
      go_wp2_with fail
      refine (awake_any _).mono ?_
      rintro e w4 ⟨rfl, hb4⟩
      have HB4 : Hid (Below w.heap.size w w4) := HB3.out.trans (hb4.mono HB3.out.size)
      clear hb4
      go_wp2
      go_ret
      exact ⟨rfl, HB4.out⟩
    · rw [hp] at CP
      obtain ⟨hR, hS, hE⟩ := readR_doc hp
      have CRD : Hid (∀ W, Calls Tryz.prog 10 #[.string (docS d)] W fun e w' => ∃ fv, e = .returned (.tuple #[d.val fv, .int .i64 0, .int .i64 0]) ∧ SlC w' w'.heap.size 2 (d.fields.map frow) fv ∧ Below W.heap.size W w') := fun W => by
        have := read_any (docS d) HDL.out W
        rw [hR] at this
        exact this
      rw [hE] at CD
      rw [← hS] at CT
      obtain ⟨ts, hts⟩ : ∃ ts, ts = docS d := ⟨_, rfl⟩
      rw [← hts] at CD CT CRD
      clear hR hS hE hp hts HSM HDL
      obtain ⟨te, hte⟩ : ∃ te, te = textE (recordF d) := ⟨_, rfl⟩
      rw [← hte] at CT
      obtain ⟨rows, hrows⟩ : ∃ rows, rows = (recordF d).map frow := ⟨_, rfl⟩
      rw [← hrows] at CT CR
      clear hte hrows
      obtain ⟨kd, nu, is, fs⟩ := d
      simp only [DocD.val] at CF CD CP CR CA CS CRD hv ⊢
      obtain ⟨A, c, rfl, -⟩ := id hv
      rw [List.length_map] at CF CD CP CR CA CS ⊢
      clear hv
      go_enter Tryz.func3, Tryz.ntmps3
      go_wp2_with fail
      refine (CF.out _ ((Below.refl _ _).alloc (Nat.le_refl _) _)).mono ?_
      rintro e w1 ⟨rfl, hb1⟩
      have HB1 : Hid (Below w.heap.size w w1) := ((Below.refl _ _).alloc (Nat.le_refl _) _).trans (hb1.mono (by simp))
      have hz1 : w.heap.size < w1.heap.size := by have := hb1.size; simp at this; omega
      obtain ⟨z0, _⟩ := bcell hb1
      have k0 : w1.cell? ⟨w.heap.size, 0, none⟩ = some (.int .i64 kd) := (z0 w.heap.size 0 (by simp)).trans (by go_simp)
      have k1 : w1.cell? ⟨w.heap.size, 1, none⟩ = some (.string nu) := (z0 w.heap.size 1 (by simp)).trans (by go_simp)
      have k2 : w1.cell? ⟨w.heap.size, 2, none⟩ = some (.string is) := (z0 w.heap.size 2 (by simp)).trans (by go_simp)
      have k3 : w1.cell? ⟨w.heap.size, 3, none⟩ = some (.slice A fs.length c) := (z0 w.heap.size 3 (by simp)).trans (by go_simp)
      clear hb1 z0
      go_wp2_with fail
      refine (CD.out _ HB1.out).mono ?_
      rintro e w2 ⟨rfl, hb2⟩
      have HB2 : Hid (Below w.heap.size w w2) := HB1.out.trans (hb2.mono HB1.out.size)
      have hz2 := Nat.lt_of_lt_of_le hz1 hb2.size
      obtain ⟨z0, _⟩ := bcell hb2
      have k0 := (z0 w.heap.size 0 hz1).trans k0
      have k1 := (z0 w.heap.size 1 hz1).trans k1
      have k2 := (z0 w.heap.size 2 hz1).trans k2
      have k3 := (z0 w.heap.size 3 hz1).trans k3
      clear hb2 z0
      rw [show ((0 : Nat) : Int) = 0 from rfl]
      go_wp2_with fail
      refine (CP.out _ HB2.out).mono ?_
      rintro e w3 ⟨rfl, hb3⟩
      have HB3 : Hid (Below w.heap.size w w3) := HB2.out.trans (hb3.mono HB2.out.size)
      have hz3 := Nat.lt_of_lt_of_le hz2 hb3.size
      obtain ⟨z0, _⟩ := bcell hb3
      have k0 := (z0 w.heap.size 0 hz2).trans k0
      have k1 := (z0 w.heap.size 1 hz2).trans k1
      have k2 := (z0 w.heap.size 2 hz2).trans k2
      have k3 := (z0 w.heap.size 3 hz2).trans k3
      clear hb3 z0
      go_wp2_with fail
      refine (CR.out _ HB3.out).mono ?_
      rintro e w4 ⟨v4, rfl, hs4, hb4⟩
      have HB4 : Hid (Below w.heap.size w w4) := HB3.out.trans (hb4.mono HB3.out.size)
      have HS4 := Lib.hid hs4
      have hz4 := Nat.lt_of_lt_of_le hz3 hb4.size
      obtain ⟨z0, _⟩ := bcell hb4
      have k0 := (z0 w.heap.size 0 hz3).trans k0
      have k1 := (z0 w.heap.size 1 hz3).trans k1
      have k2 := (z0 w.heap.size 2 hz3).trans k2
      have k3 := (z0 w.heap.size 3 hz3).trans k3
      clear hb4 z0 hs4
      go_wp2_with fail
      refine (CT.out _ _ HS4.out).mono ?_
      rintro e w5 ⟨rfl, hb5⟩
      have HB5 : Hid (Below w.heap.size w w5) := HB4.out.trans (hb5.mono HB4.out.size)
      have hz5 := Nat.lt_of_lt_of_le hz4 hb5.size
      obtain ⟨z0, _⟩ := bcell hb5
      have k0 := (z0 w.heap.size 0 hz4).trans k0
      have k1 := (z0 w.heap.size 1 hz4).trans k1
      have k2 := (z0 w.heap.size 2 hz4).trans k2
      have k3 := (z0 w.heap.size 3 hz4).trans k3
      clear hb5 z0
      go_wp2_with fail
      refine (CRD.out _).mono ?_
      rintro e w6 ⟨fv, rfl, hs6, hb6⟩
      obtain ⟨A6, c6, hv6, -⟩ := id hs6
      rw [List.length_map] at hv6
      subst hv6
      have HB6 : Hid (Below w.heap.size w w6) := HB5.out.trans (hb6.mono HB5.out.size)
      have hz6 := Nat.lt_of_lt_of_le hz5 hb6.size
      have HS6 := Lib.hid hs6
      obtain ⟨z0, _⟩ := bcell hb6
      have k0 := (z0 w.heap.size 0 hz5).trans k0
      have k1 := (z0 w.heap.size 1 hz5).trans k1
      have k2 := (z0 w.heap.size 2 hz5).trans k2
      have k3 := (z0 w.heap.size 3 hz5).trans k3
      clear hb6 z0 hs6
      go_wp2_with fail
      refine (CA.out _ _ (HB6.out.alloc HB6.out.size _) ((HS6.out.alloc (Nat.le_refl _) _).more (by simp))).mono ?_
      rintro e w7 ⟨rfl, hb7⟩
      have HB7 : Hid (Below w.heap.size w w7) := (HB6.out.alloc HB6.out.size _).trans (hb7.mono (by simp; omega))
      have HS7 : Hid (SlC w7 w7.heap.size 2 (fs.map frow) (.slice A6 fs.length c6)) := (((HS6.out.alloc (Nat.le_refl _) _).more (by simp)).below hb7).more hb7.size
      obtain ⟨z0, _⟩ := bcell hb7
      have k0 : w7.cell? ⟨w.heap.size, 0, none⟩ = some (.int .i64 kd) := (z0 w.heap.size 0 (by simp; omega)).trans (by go_simp)
      have k1 : w7.cell? ⟨w.heap.size, 1, none⟩ = some (.string nu) := (z0 w.heap.size 1 (by simp; omega)).trans (by go_simp)
      have k2 : w7.cell? ⟨w.heap.size, 2, none⟩ = some (.string is) := (z0 w.heap.size 2 (by simp; omega)).trans (by go_simp)
      have k3 : w7.cell? ⟨w.heap.size, 3, none⟩ = some (.slice A fs.length c) := (z0 w.heap.size 3 (by simp; omega)).trans (by go_simp)
      have j0 : w7.cell? ⟨w6.heap.size, 0, none⟩ = some (.int .i64 kd) := (z0 w6.heap.size 0 (by simp)).trans (by go_simp)
      have j1 : w7.cell? ⟨w6.heap.size, 1, none⟩ = some (.string nu) := (z0 w6.heap.size 1 (by simp)).trans (by go_simp)
      have j2 : w7.cell? ⟨w6.heap.size, 2, none⟩ = some (.string is) := (z0 w6.heap.size 2 (by simp)).trans (by go_simp)
      have j3 : w7.cell? ⟨w6.heap.size, 3, none⟩ = some (.slice A6 fs.length c6) := (z0 w6.heap.size 3 (by simp)).trans (by go_simp)
      clear hb7 z0
      go_wp2_with fail
      refine (CS.out _ _ HB7.out HS7.out).mono ?_
      rintro e w8 ⟨rfl, hb8⟩
      have HB8 : Hid (Below w.heap.size w w8) := HB7.out.trans (hb8.mono HB7.out.size)
      clear hb8
      go_wp2_with fail
      refine (awake_any _).mono ?_
      rintro e w9 ⟨rfl, hb9⟩
      have HB9 : Hid (Below w.heap.size w w9) := HB8.out.trans (hb9.mono HB8.out.size)
      clear hb9
      go_wp2
      go_ret
      exact ⟨rfl, HB9.out⟩
end Go.Proofs.YtnohmhemniopoaaGreat
