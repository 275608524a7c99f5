/- PostNames: the walk. -/
import Derived.Test.YtlffpelkmdcckaaGreatDoorKind9
import Derived.Test.YtlffpelkmdcckaaGreatDoorAwake9
namespace Go.Sup
open Go Go.RowKit
theorem postL_apart : ∀ k < 29, ∀ j < k, postL[j]? ≠ postL[k]? := by decide +kernel
theorem idxS_snoc {x s : ByteArray} (h : ¬ s = x) : ∀ l : List ByteArray, idxS (l ++ [s]) x = idxS l x
  | [] => by simp [idxS, h]
  | g :: l => by
    simp only [List.cons_append, idxS]
    rw [idxS_snoc h l]
/-- Where the law's loop has found a name. -/
def foundS (x : ByteArray) (k : Nat) : Int := idxS (postL.take k) x
theorem foundS_hit {x : ByteArray} {k : Nat} (h : postL[k]? = some x) : foundS x (k + 1) = k := by
  obtain ⟨hk, he⟩ := List.getElem?_eq_some_iff.1 h
  have hk' : k < 29 := hk
  unfold foundS
  refine idxS_at (by rw [List.getElem?_take]; rw [if_pos (by omega)]; exact h) fun g hg hx => ?_
  subst hx
  rw [List.take_take, Nat.min_eq_left (by omega)] at hg
  obtain ⟨j, hj⟩ := List.getElem?_of_mem hg
  rw [List.getElem?_take] at hj
  split at hj
  · rename_i hlt
    exact postL_apart k hk' j hlt (hj.trans h.symm)
  · cases hj
theorem foundS_miss {x s : ByteArray} {k : Nat} (h : postL[k]? = some s) (hn : ¬ s = x) : foundS x (k + 1) = foundS x k := by
  obtain ⟨hk, he⟩ := List.getElem?_eq_some_iff.1 h
  unfold foundS
  rw [List.take_succ_eq_append_getElem hk, he]
  exact idxS_snoc hn _
theorem foundS_end (x : ByteArray) : foundS x 29 = idxS postL x := rfl
theorem foundS_start (x : ByteArray) : foundS x 0 = -1 := rfl
end Go.Sup
namespace Go.Proofs.YtlffpelkmdcckaaGreatDoor
open Go Go.RowKit Go.Sup
set_option maxRecDepth 100000
set_option maxHeartbeats 4000000 in
theorem postNames_any (k : Int) (x : ByteArray) (w : World) (hW : W9 w) : Calls Tryz.prog 3 #[.int .i64 k, .string x] w fun e w' => e = .returned (.bool true) ∧ Below w.heap.size w w' := by
  have HA : Hid (∀ W, W9 W → Calls Tryz.prog 9 #[] W fun e w' => e = .returned (.bool true) ∧ Below W.heap.size W w') := fun W h => awake9_any W h
  have HW := Lib.hid hW
  by_cases h100 : 100 < x.size
  · have h100' : (100 : Int) < (x.size : Int) := by omega
    clear hW
    go_enter Tryz.func3, Tryz.ntmps3
    go_wp2_with (go_at_call 9; refine (HA.out _ HW.out).mono ?_; rintro e w1 ⟨rfl, hb1⟩; have HB := Lib.hid hb1; clear hb1)
    go_ret
    exact ⟨rfl, HB.out⟩
  have h100' : ¬ (100 : Int) < (x.size : Int) := by omega
  obtain ⟨s, hs⟩ : ∃ s, s = postN k := ⟨_, rfl⟩
  obtain ⟨q, hq⟩ : ∃ q, q = idxS postL x := ⟨_, rfl⟩
  have HN : Hid (∀ W, W9 W → Calls Tryz.prog 12 #[.int .i64 k] W fun e w' => e = .returned (.string s) ∧ Below W.heap.size W w') := fun W h => by rw [hs]; exact postName_any k W h.tab
  have HK : Hid (∀ W, W9 W → Calls Tryz.prog 11 #[.string x] W fun e w' => e = .returned (.tuple #[.int .i64 (if 0 ≤ q then q else 0), .bool (decide (0 ≤ q))]) ∧ Below W.heap.size W w') := fun W h => by rw [hq]; exact postKind_any x W h.tab
  have HG : Hid (-1 ≤ q ∧ q < 29) := by rw [hq]; exact idxS_ge postL x
  have HE : Hid (foundS x 29 = q) := by rw [hq]; exact foundS_end x
  have HI : Hid (∀ n : Nat, n < 29 → k = n → postL[n]? = some s) := fun n hn hk => by
    have := postN_in (k := k) (by omega) (by omega)
    rw [hs]
    simpa [hk] using this
  have HO : Hid (k < 0 ∨ 28 < k → s = ⟨#[]⟩) := fun h => by rw [hs]; exact postN_out h
  obtain ⟨r, hr⟩ : ∃ r, r = if 0 ≤ q then q else 0 := ⟨_, rfl⟩
  obtain ⟨bo, hbo⟩ : ∃ b, b = decide (0 ≤ q) := ⟨_, rfl⟩
  rw [← hr, ← hbo] at HK
  have HR := Lib.hid hr
  have HBO := Lib.hid hbo
  clear hs hq hW h100 hr hbo
  have hc : k < 0 ∨ (0 ≤ k ∧ k < 29) ∨ 29 ≤ k := by omega
  rcases hc with hc | ⟨hc, hc2⟩ | hc
  · have hse := HO.out (by omega)
    subst hse
    clear HI HO
    go_enter Tryz.func3, Tryz.ntmps3
    go_wp2_with fail
    refine (refNames_any _).mono ?_
    rintro e w1 ⟨v, rfl, hv, hb1⟩
    have HB := Lib.hid hb1
    have HW1 := Lib.hid (HW.out.below hb1)
    obtain ⟨A, c, rfl, -⟩ := id hv
    rw [List.length_map, postL_len] at hv ⊢
    have HV := Lib.hid hv
    clear hv hb1
    go_wp2_with fail
    refine (HK.out _ HW1.out).mono ?_
    rintro e w2 ⟨rfl, hb2⟩
    have HB2 := Lib.hid (HB.out.trans (hb2.mono HB.out.size))
    have HW2 := Lib.hid (HW1.out.below hb2)
    have HV2 := Lib.hid (HV.out.below hb2)
    clear hb2
    go_wp2
    go_loop [9, 36] (fun f i => ∃ j : Nat, j ≤ 29 ∧ i = .int .i64 j ∧ ∃ fv : Int, f = .int .i64 fv ∧ Hid (foundS x j = fv)) (fun _ i => 29 - (intOf i).toNat)
    case atStart => exact ⟨0, Nat.zero_le _, rfl, -1, rfl, foundS_start x⟩
    case round =>
      obtain ⟨j, hj, rfl, fv, rfl, HF⟩ := hrel
      by_cases hlt : j < 29
      · obtain ⟨t, ht⟩ : ∃ t, postL[j]? = some t := ⟨_, List.getElem?_eq_getElem hlt⟩
        obtain ⟨b2, o2, rfl, _, x0⟩ := str_at HV2.out ht
        have hlI : (j : Int) < 29 := by omega
        by_cases he : t = x
        · have HX := Lib.hid (foundS_hit (x := x) (k := j) (by rw [ht, he]))
          subst he
          clear ht
          go_wp2
          go_round
          case rel => exact ⟨j + 1, hlt, by go_num, _, rfl, HX.out⟩
          case measure => simp [intOf]; omega
        · have HX := Lib.hid ((foundS_miss ht he).trans HF.out)
          have e1 := bs_ne he
          have e2 := bs_ne' he
          clear ht he
          go_wp2
          go_round
          case rel => exact ⟨j + 1, hlt, by go_num, _, rfl, HX.out⟩
          case measure => simp [intOf]; omega
      · obtain rfl : j = 29 := by omega
        have hfq : fv = q := HF.out.symm.trans HE.out
        subst hfq
        clear hlt hj HF HE
        rcases Int.lt_or_le fv 0 with hn | hn
        · have hf1 : fv = -1 := by have := HG.out; omega
          subst hf1
          have hr0 : r = 0 := HR.out
          have hb0 : bo = false := HBO.out
          subst hr0 hb0
          have hmx : max (-1 : Int) 0 = 0 := by decide
          go_wp2_with (first | (go_at_call 12; refine (HN.out _ HW2.out).mono ?_; rintro e w3 ⟨rfl, hb3⟩; have HB3 := Lib.hid (HB2.out.trans (hb3.mono HB2.out.size)); have HW3 := Lib.hid (HW2.out.below hb3); clear hb3) | (go_at_call 9; refine (HA.out _ HW3.out).mono ?_; rintro e w4 ⟨rfl, hb4⟩; have HB4 := Lib.hid (HB3.out.trans (hb4.mono HB3.out.size)); clear hb4))
          go_ret
          exact ⟨rfl, HB4.out⟩
        · have hr0 : r = fv := by rw [HR.out, if_pos hn]
          have hb0 : bo = true := by rw [HBO.out]; simp [hn]
          subst hr0 hb0
          have hmx : max r 0 = r := by omega
          go_wp2_with (first | (go_at_call 12; refine (HN.out _ HW2.out).mono ?_; rintro e w3 ⟨rfl, hb3⟩; have HB3 := Lib.hid (HB2.out.trans (hb3.mono HB2.out.size)); have HW3 := Lib.hid (HW2.out.below hb3); clear hb3) | (go_at_call 9; refine (HA.out _ HW3.out).mono ?_; rintro e w4 ⟨rfl, hb4⟩; have HB4 := Lib.hid (HB3.out.trans (hb4.mono HB3.out.size)); clear hb4))
          go_ret
          exact ⟨rfl, HB4.out⟩
  · obtain ⟨n, rfl⟩ := Int.eq_ofNat_of_zero_le hc
    have hn29 : n < 29 := by omega
    have HI2 := Lib.hid (HI.out n hn29 rfl)
    have hn0 : (0 : Int) ≤ n := by omega
    have hn1 : (n : Int) < 29 := by omega
    clear HI HO hc hc2
    go_enter Tryz.func3, Tryz.ntmps3
    go_wp2_with fail
    refine (refNames_any _).mono ?_
    rintro e w1 ⟨v, rfl, hv, hb1⟩
    have HB := Lib.hid hb1
    have HW1 := Lib.hid (HW.out.below hb1)
    obtain ⟨A, c, rfl, -⟩ := id hv
    rw [List.length_map, postL_len] at hv ⊢
    have HV := Lib.hid hv
    obtain ⟨b1, o1, rfl, hb1', y0⟩ := str_at HV.out HI2.out
    clear hb1' HI2
    clear hv hb1
    go_wp2_with fail
    refine (HK.out _ HW1.out).mono ?_
    rintro e w2 ⟨rfl, hb2⟩
    have HB2 := Lib.hid (HB.out.trans (hb2.mono HB.out.size))
    have HW2 := Lib.hid (HW1.out.below hb2)
    have HV2 := Lib.hid (HV.out.below hb2)
    clear hb2
    go_wp2
    go_loop [9, 36] (fun f i => ∃ j : Nat, j ≤ 29 ∧ i = .int .i64 j ∧ ∃ fv : Int, f = .int .i64 fv ∧ Hid (foundS x j = fv)) (fun _ i => 29 - (intOf i).toNat)
    case atStart => exact ⟨0, Nat.zero_le _, rfl, -1, rfl, foundS_start x⟩
    case round =>
      obtain ⟨j, hj, rfl, fv, rfl, HF⟩ := hrel
      by_cases hlt : j < 29
      · obtain ⟨t, ht⟩ : ∃ t, postL[j]? = some t := ⟨_, List.getElem?_eq_getElem hlt⟩
        obtain ⟨b2, o2, hbo2, _, x0⟩ := str_at HV2.out ht
        injection hbo2 with hbo2
        injection hbo2 with hbo2 hbo3
        subst hbo2 hbo3
        have hlI : (j : Int) < 29 := by omega
        by_cases he : t = x
        · have HX := Lib.hid (foundS_hit (x := x) (k := j) (by rw [ht, he]))
          subst he
          clear ht
          go_wp2
          go_round
          case rel => exact ⟨j + 1, hlt, by go_num, _, rfl, HX.out⟩
          case measure => simp [intOf]; omega
        · have HX := Lib.hid ((foundS_miss ht he).trans HF.out)
          have e1 := bs_ne he
          have e2 := bs_ne' he
          clear ht he
          go_wp2
          go_round
          case rel => exact ⟨j + 1, hlt, by go_num, _, rfl, HX.out⟩
          case measure => simp [intOf]; omega
      · obtain rfl : j = 29 := by omega
        have hfq : fv = q := HF.out.symm.trans HE.out
        subst hfq
        clear hlt hj HF HE
        rcases Int.lt_or_le fv 0 with hn | hn
        · have hf1 : fv = -1 := by have := HG.out; omega
          subst hf1
          have hr0 : r = 0 := HR.out
          have hb0 : bo = false := HBO.out
          subst hr0 hb0
          have hmx : max (-1 : Int) 0 = 0 := by decide
          go_wp2_with (first | (go_at_call 12; refine (HN.out _ HW2.out).mono ?_; rintro e w3 ⟨rfl, hb3⟩; have HB3 := Lib.hid (HB2.out.trans (hb3.mono HB2.out.size)); have HW3 := Lib.hid (HW2.out.below hb3); clear hb3) | (go_at_call 9; refine (HA.out _ HW3.out).mono ?_; rintro e w4 ⟨rfl, hb4⟩; have HB4 := Lib.hid (HB3.out.trans (hb4.mono HB3.out.size)); clear hb4))
          go_ret
          exact ⟨rfl, HB4.out⟩
        · have hr0 : r = fv := by rw [HR.out, if_pos hn]
          have hb0 : bo = true := by rw [HBO.out]; simp [hn]
          subst hr0 hb0
          have hmx : max r 0 = r := by omega
          go_wp2_with (first | (go_at_call 12; refine (HN.out _ HW2.out).mono ?_; rintro e w3 ⟨rfl, hb3⟩; have HB3 := Lib.hid (HB2.out.trans (hb3.mono HB2.out.size)); have HW3 := Lib.hid (HW2.out.below hb3); clear hb3) | (go_at_call 9; refine (HA.out _ HW3.out).mono ?_; rintro e w4 ⟨rfl, hb4⟩; have HB4 := Lib.hid (HB3.out.trans (hb4.mono HB3.out.size)); clear hb4))
          go_ret
          exact ⟨rfl, HB4.out⟩
  · have hse := HO.out (by omega)
    subst hse
    have hk0 : (0 : Int) ≤ k := by omega
    have hk29 : ¬ k < 29 := by omega
    clear HI HO
    go_enter Tryz.func3, Tryz.ntmps3
    go_wp2_with fail
    refine (refNames_any _).mono ?_
    rintro e w1 ⟨v, rfl, hv, hb1⟩
    have HB := Lib.hid hb1
    have HW1 := Lib.hid (HW.out.below hb1)
    obtain ⟨A, c, rfl, -⟩ := id hv
    rw [List.length_map, postL_len] at hv ⊢
    have HV := Lib.hid hv
    clear hv hb1
    go_wp2_with fail
    refine (HK.out _ HW1.out).mono ?_
    rintro e w2 ⟨rfl, hb2⟩
    have HB2 := Lib.hid (HB.out.trans (hb2.mono HB.out.size))
    have HW2 := Lib.hid (HW1.out.below hb2)
    have HV2 := Lib.hid (HV.out.below hb2)
    clear hb2
    go_wp2
    go_loop [9, 36] (fun f i => ∃ j : Nat, j ≤ 29 ∧ i = .int .i64 j ∧ ∃ fv : Int, f = .int .i64 fv ∧ Hid (foundS x j = fv)) (fun _ i => 29 - (intOf i).toNat)
    case atStart => exact ⟨0, Nat.zero_le _, rfl, -1, rfl, foundS_start x⟩
    case round =>
      obtain ⟨j, hj, rfl, fv, rfl, HF⟩ := hrel
      by_cases hlt : j < 29
      · obtain ⟨t, ht⟩ : ∃ t, postL[j]? = some t := ⟨_, List.getElem?_eq_getElem hlt⟩
        obtain ⟨b2, o2, rfl, _, x0⟩ := str_at HV2.out ht
        have hlI : (j : Int) < 29 := by omega
        by_cases he : t = x
        · have HX := Lib.hid (foundS_hit (x := x) (k := j) (by rw [ht, he]))
          subst he
          clear ht
          go_wp2
          go_round
          case rel => exact ⟨j + 1, hlt, by go_num, _, rfl, HX.out⟩
          case measure => simp [intOf]; omega
        · have HX := Lib.hid ((foundS_miss ht he).trans HF.out)
          have e1 := bs_ne he
          have e2 := bs_ne' he
          clear ht he
          go_wp2
          go_round
          case rel => exact ⟨j + 1, hlt, by go_num, _, rfl, HX.out⟩
          case measure => simp [intOf]; omega
      · obtain rfl : j = 29 := by omega
        have hfq : fv = q := HF.out.symm.trans HE.out
        subst hfq
        clear hlt hj HF HE
        rcases Int.lt_or_le fv 0 with hn | hn
        · have hf1 : fv = -1 := by have := HG.out; omega
          subst hf1
          have hr0 : r = 0 := HR.out
          have hb0 : bo = false := HBO.out
          subst hr0 hb0
          have hmx : max (-1 : Int) 0 = 0 := by decide
          go_wp2_with (first | (go_at_call 12; refine (HN.out _ HW2.out).mono ?_; rintro e w3 ⟨rfl, hb3⟩; have HB3 := Lib.hid (HB2.out.trans (hb3.mono HB2.out.size)); have HW3 := Lib.hid (HW2.out.below hb3); clear hb3) | (go_at_call 9; refine (HA.out _ HW3.out).mono ?_; rintro e w4 ⟨rfl, hb4⟩; have HB4 := Lib.hid (HB3.out.trans (hb4.mono HB3.out.size)); clear hb4))
          go_ret
          exact ⟨rfl, HB4.out⟩
        · have hr0 : r = fv := by rw [HR.out, if_pos hn]
          have hb0 : bo = true := by rw [HBO.out]; simp [hn]
          subst hr0 hb0
          have hmx : max r 0 = r := by omega
          go_wp2_with (first | (go_at_call 12; refine (HN.out _ HW2.out).mono ?_; rintro e w3 ⟨rfl, hb3⟩; have HB3 := Lib.hid (HB2.out.trans (hb3.mono HB2.out.size)); have HW3 := Lib.hid (HW2.out.below hb3); clear hb3) | (go_at_call 9; refine (HA.out _ HW3.out).mono ?_; rintro e w4 ⟨rfl, hb4⟩; have HB4 := Lib.hid (HB3.out.trans (hb4.mono HB3.out.size)); clear hb4))
          go_ret
          exact ⟨rfl, HB4.out⟩
end Go.Proofs.YtlffpelkmdcckaaGreatDoor
