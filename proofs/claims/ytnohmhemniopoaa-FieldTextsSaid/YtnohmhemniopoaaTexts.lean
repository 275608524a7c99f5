/- FieldTexts: the walk. -/
import Derived.Test.YtnohmhemniopoaaAwake5
import Derived.Test.YtnohmhemniopoaaLong
import Derived.Test.YtnohmhemniopoaaRefText
namespace Go.Proofs.Ytnohmhemniopoaa
open Go Go.RowKit Go.Sup
set_option maxRecDepth 100000
theorem textE_3 (l : List Fld) : textE l = 0 ∨ textE l = 1 ∨ textE l = 7 := by
  unfold textE
  split
  · simp
  · split <;> simp
theorem textS_le {l : List Fld} (hs : ∀ f ∈ l, SmallF f) : (textS l).size ≤ 1000000000 := by
  unfold textS
  split
  · rename_i h
    have h1 := textL_le l hs
    have h2 := (textE_zero.1 h).1
    rw [ba_size]
    omega
  · decide
set_option maxHeartbeats 2000000 in
theorem fieldTexts_any (l : List Fld) (w : World) (v : Value) (hv : SlC w w.heap.size 2 (l.map frow) v) :
    Calls Try.prog 3 #[v] w fun e w' => e = .returned (.bool true) ∧ Below w.heap.size w w' := by
  have CL : Hid (∀ W, Below w.heap.size w W → Calls Try.prog 6 #[v] W fun e w' => e = .returned (.bool (longB l)) ∧ Below W.heap.size W w') := fun W h => long_any l W w.heap.size v (hv.below h) h.size
  have CT : Hid ((∀ f ∈ l, SmallF f) → ∀ W, Below w.heap.size w W → Calls Try.prog 8 #[v] W fun e w' => e = .returned (.tuple #[.string (textS l), .int .i64 (textE l)]) ∧ Below W.heap.size W w') := fun hs W h => text_any l hs W w.heap.size v (hv.below h) h.size
  have CR : Hid ((∀ f ∈ l, SmallF f) → ∀ W, Below w.heap.size w W → Calls Try.prog 9 #[v] W fun e w' => e = .returned (.tuple #[.string (textS l), .int .i64 (textE l)]) ∧ Below W.heap.size W w') := fun hs W h => refText_any l hs W w.heap.size v (hv.below h) h.size
  have HV := Lib.hid hv
  obtain ⟨A, c, rfl, -⟩ := id hv
  rw [List.length_map] at CL CT CR HV ⊢
  clear hv
  cases hl : longB l
  · rw [hl] at CL
    have HS : Hid (∀ f ∈ l, SmallF f) := fun f hf => by
      have := (long_small hl).2 f hf
      exact ⟨by omega, by omega⟩
    have HZ := Lib.hid (textS_le HS.out)
    clear hl
    obtain ⟨ts, hts⟩ : ∃ ts, ts = textS l := ⟨_, rfl⟩
    rw [← hts] at CT CR HZ
    have HTS := Lib.hid hts
    clear hts
    go_enter Try.func3, Try.ntmps3
    go_wp2_with fail
    refine (CL.out _ (Below.refl _ _)).mono ?_
    rintro e w1 ⟨rfl, hb1⟩
    have HB1 := Lib.hid hb1
    clear hb1
    go_wp2_with fail
    refine (CT.out HS.out _ HB1.out).mono ?_
    rintro e w2 ⟨rfl, hb2⟩
    have HB2 : Hid (Below w.heap.size w w2) := HB1.out.trans (hb2.mono HB1.out.size)
    clear hb2
    go_wp2_with fail
    refine (CR.out HS.out _ HB2.out).mono ?_
    rintro e w3 ⟨rfl, hb3⟩
    have HB3 : Hid (Below w.heap.size w w3) := HB2.out.trans (hb3.mono HB2.out.size)
    clear hb3
    have hw : ts.toList.isEmpty = false ∨ ts.toList.isEmpty = true := by cases ts.toList.isEmpty <;> simp
    rcases Nat.eq_zero_or_pos (textE l) with h0 | h0
    · have HE := Lib.hid h0
      rw [h0, show ((0 : Nat) : Int) = 0 from rfl]
      clear h0 hw
      go_wp2_with fail
      refine (parse_any ts HZ.out _).mono ?_
      have HP : Hid (parseR ts.data.toList = (l, 0, 0)) := by
        show _ = _
        rw [HTS.out]
        unfold textS
        rw [if_pos HE.out, ba_list]
        exact parseR_text HE.out
      rw [HP.out]
      rintro e w4 ⟨vp, rfl, ho4, hb4⟩
      have HB4 : Hid (Below w.heap.size w w4) := HB3.out.trans (hb4.mono HB3.out.size)
      have HO := Lib.hid ho4.sl
      clear hb4 ho4
      rw [show ((0 : Nat) : Int) = 0 from rfl]
      go_wp2_with fail
      refine (refSame_any l l _ w4.heap.size _ _ HO.out ((HV.out.below HB4.out).more HB4.out.size)).mono ?_
      rintro e w5 ⟨rfl, q, rfl⟩
      have he : frowsEq l l = true := by simp [frowsEq]
      rw [he]
      go_wp2_with fail
      refine (awake_any _).mono ?_
      rintro e w6 ⟨rfl, hb6⟩
      have HB6 : Hid (Below w.heap.size w w6) := (below_drewN HB4.out q).trans (hb6.mono HB4.out.size)
      clear hb6
      go_wp2
      go_ret
      exact ⟨rfl, HB6.out⟩
    · obtain ⟨n, hn⟩ : ∃ n : Nat, n = textE l := ⟨_, rfl⟩
      rw [← hn] at h0 ⊢
      have hne : ((n : Int) != 0) = true := by simp; omega
      clear hn
      go_wp2_with fail
      refine (awake_any _).mono ?_
      rintro e w4 ⟨rfl, hb4⟩
      have HB4 : Hid (Below w.heap.size w w4) := HB3.out.trans (hb4.mono HB3.out.size)
      clear hb4
      go_wp2
      go_ret
      exact ⟨rfl, HB4.out⟩
  · rw [hl] at CL
    clear hl
    go_enter Try.func3, Try.ntmps3
    go_wp2_with fail
    refine (CL.out _ (Below.refl _ _)).mono ?_
    rintro e w1 ⟨rfl, hb1⟩
    have HB1 := Lib.hid hb1
    clear hb1
    go_wp2_with fail
    refine (awake_any _).mono ?_
    rintro e w2 ⟨rfl, hb2⟩
    have HB2 : Hid (Below w.heap.size w w2) := HB1.out.trans (hb2.mono HB1.out.size)
    clear hb2
    go_wp2
    go_ret
    exact ⟨rfl, HB2.out⟩
end Go.Proofs.Ytnohmhemniopoaa
