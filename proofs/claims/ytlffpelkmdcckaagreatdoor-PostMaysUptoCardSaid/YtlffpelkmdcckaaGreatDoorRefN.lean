/- The referee's Number: the walk. -/
import Derived.Test.YtlffpelkmdcckaaGreatDoorDig
import Derived.Test.YtlffpelkmdcckaaGreatDoorFieldP
import Derived.Deep.RegionHeld3
namespace Go.Sup
open Go Go.RowKit Go.Lib
theorem refNum_step {l : List UInt8} {a : Int} {k : Nat} (hk : k < l.length) (h : refLoop 0 (behind l) = refLoop a (l.drop k)) (h1 : 48 ≤ l[k].toNat) (h2 : l[k].toNat ≤ 57) (h3 : a ≤ 461168601842738790) :
    refLoop 0 (behind l) = refLoop (10 * a + l[k].toNat - 48) (l.drop (k + 1)) := by
  rw [h, List.drop_eq_getElem_cons hk, refLoop, if_neg (by omega)]
theorem refNum_bad {l : List UInt8} {a : Int} {k : Nat} (hk : k < l.length) (h : refLoop 0 (behind l) = refLoop a (l.drop k)) (h1 : l[k].toNat < 48 ∨ 57 < l[k].toNat ∨ 461168601842738790 < a) : refNum l = none := by
  have : refLoop 0 (behind l) = none := by rw [h, List.drop_eq_getElem_cons hk, refLoop, if_pos h1]
  unfold refNum
  split
  · rfl
  · rw [this]; rfl
theorem refNum_end {l : List UInt8} {a : Int} (h0 : l ≠ []) (h20 : l.length ≤ 20) (h : refLoop 0 (behind l) = refLoop a (l.drop l.length)) : refNum l = if inN (Go.Sup.signed l a) && decide (itoa (Go.Sup.signed l a) = l) then some (Go.Sup.signed l a) else none := by
  rw [List.drop_length] at h
  unfold refNum
  rw [if_neg (by intro hx; rcases hx with hx | hx; exact h0 hx; omega), h]; rfl
end Go.Sup
namespace Go.Proofs.YtlffpelkmdcckaaGreatDoor
open Go Go.RowKit Go.Sup Go.Lib
set_option maxRecDepth 100000
theorem digS_eq {v : Int} {s : ByteArray} (h : digS v = s) : itoa v = s.data.toList := by rw [← h]; rfl
theorem digS_ne {v : Int} {s : ByteArray} (h : ¬ digS v = s) : ¬ itoa v = s.data.toList := by
  intro hx
  apply h
  unfold digS
  rw [hx]
set_option maxHeartbeats 2000000 in
theorem refNumber_any (s : ByteArray) (w : World) : Calls Tryz.prog 89 #[.string s] w fun e w' => e = .returned (numV (refNum s.data.toList)) ∧ Below w.heap.size w w' := by
  have hl : s.data.toList.length = s.size := Array.length_toList
  rcases Nat.eq_zero_or_pos s.size with h0 | h0
  · have hs : s = ⟨#[]⟩ := by
      apply ByteArray.ext
      exact Array.eq_empty_of_size_eq_zero h0
    subst hs
    clear hl h0
    go_enter Tryz.func89, Tryz.ntmps89
    go_wp2_with fail
    go_ret2
    exact ⟨rfl, Below.refl _ _⟩
  · have hse : s.toList.isEmpty = false := by
      rw [ByteArray.toList_eq]
      cases h : s.data.toList with
      | nil => rw [h] at hl; simp at hl; omega
      | cons a b => rfl
    have hse2 : ¬ s.toList = [] := by intro h; rw [h] at hse; cases hse
    have HNE : Hid (s.data.toList ≠ []) := by
      show s.data.toList ≠ []
      rw [← ByteArray.toList_eq]; exact hse2
    by_cases h20 : 20 < s.size
    · have H : Hid (refNum s.data.toList = none) := by
        show refNum s.data.toList = none
        unfold refNum; rw [if_pos (Or.inr (by omega))]
      have h20' : (20 : Int) < (s.size : Int) := by omega
      clear hl
      go_enter Tryz.func89, Tryz.ntmps89
      go_wp2_with fail
      go_ret2
      exact ⟨by rw [H.out]; rfl, Below.refl _ _⟩
    · have h20' : ¬ (20 : Int) < (s.size : Int) := by omega
      have HL : Hid (s.data.toList.length = s.size) := hl
      have HH : Hid (s.data.toList.head? = some s[0]) := by
        show s.data.toList.head? = some s[0]
        rw [List.head?_eq_getElem?, List.getElem?_eq_getElem (by omega)]; rfl
      clear hl
      by_cases hm : s[0].toNat = 45
      · have HS : Hid ((∀ n, Sup.signed s.data.toList n = -n) ∧ behind s.data.toList = s.data.toList.drop 1) := by
          have e : s.data.toList.head? = some 45 := by rw [HH.out]; exact congrArg some (UInt8.toNat_inj.1 hm)
          refine ⟨fun n => ?_, ?_⟩
          · unfold Go.Sup.signed; rw [if_pos e]
          · unfold behind; rw [if_pos e, List.drop_one]
        have hm1 : ((s[0].toNat : Int) == 45) = true := by simp [hm]
        have hm2 : (s[0].toNat : Int) = 45 := by omega
        have H0 : Hid (refLoop 0 (behind s.data.toList) = refLoop 0 (s.data.toList.drop 1)) := by
          show refLoop 0 (behind s.data.toList) = _
          rw [HS.out.2]
        clear hm
        go_enter Tryz.func89, Tryz.ntmps89
        go_wp2_with fail
        go_loop [4, 6] (fun n i => ∃ (k : Nat) (a : Int), k ≤ s.size ∧ n = .int .i64 a ∧ i = .int .i64 k ∧ 0 ≤ a ∧ a ≤ 4611686018427387909 ∧ Hid (refLoop 0 (behind s.data.toList) = refLoop a (s.data.toList.drop k))) (fun _ i => s.size - (intOf i).toNat)
        case atStart => exact ⟨1, 0, by omega, rfl, rfl, by omega, by omega, H0.out⟩
        case round =>
          obtain ⟨k, a, hk, rfl, rfl, ha0, ha1, HA⟩ := hrel
          by_cases hlt : k < s.size
          · have hlt' : (k : Int) < (s.size : Int) := by omega
            have HB : Hid (s[k].toNat < 48 ∨ 57 < s[k].toNat ∨ 461168601842738790 < a → refNum s.data.toList = none) := fun h => refNum_bad (by rw [HL.out]; exact hlt) HA.out h
            have HG : Hid (48 ≤ s[k].toNat → s[k].toNat ≤ 57 → a ≤ 461168601842738790 → refLoop 0 (behind s.data.toList) = refLoop (10 * a + s[k].toNat - 48) (s.data.toList.drop (k + 1))) := fun h1 h2 h3 => refNum_step (by rw [HL.out]; exact hlt) HA.out h1 h2 h3
            have hu := UInt8.toNat_lt s[k]
            by_cases c1 : s[k].toNat < 48
            · have H := Lib.hid (HB.out (Or.inl c1))
              have c1' : (s[k].toNat : Int) < 48 := by omega
              clear c1
              go_wp2_with fail
              go_ret2
              exact ⟨by rw [H.out]; rfl, Below.refl _ _⟩
            · by_cases c2 : 57 < s[k].toNat
              · have H := Lib.hid (HB.out (Or.inr (Or.inl c2)))
                have c1' : ¬ (s[k].toNat : Int) < 48 := by omega
                have c2' : (57 : Int) < (s[k].toNat : Int) := by omega
                clear c1 c2
                go_wp2_with fail
                go_ret2
                exact ⟨by rw [H.out]; rfl, Below.refl _ _⟩
              · by_cases c3 : 461168601842738790 < a
                · have H := Lib.hid (HB.out (Or.inr (Or.inr c3)))
                  have c1' : ¬ (s[k].toNat : Int) < 48 := by omega
                  have c2' : ¬ (57 : Int) < (s[k].toNat : Int) := by omega
                  clear c1 c2
                  go_wp2_with fail
                  go_ret2
                  exact ⟨by rw [H.out]; rfl, Below.refl _ _⟩
                · have H := Lib.hid (HG.out (by omega) (by omega) (by omega))
                  have c1' : ¬ (s[k].toNat : Int) < 48 := by omega
                  have c2' : ¬ (57 : Int) < (s[k].toNat : Int) := by omega
                  have k1 : IntKind.i64.wrap (10 * a) = 10 * a := by rw [IntKind.wrap_i64]; omega
                  have k2 : IntKind.i64.wrap (s[k].toNat : Int) = s[k].toNat := by rw [IntKind.wrap_i64]; omega
                  have k3 : IntKind.i64.wrap (10 * a + s[k].toNat) = 10 * a + s[k].toNat := by rw [IntKind.wrap_i64]; omega
                  have k4 : IntKind.i64.wrap (10 * a + s[k].toNat - 48) = 10 * a + s[k].toNat - 48 := by rw [IntKind.wrap_i64]; omega
                  have HQ : Hid (0 ≤ 10 * a + (s[k].toNat : Int) - 48 ∧ 10 * a + (s[k].toNat : Int) - 48 ≤ 4611686018427387909) := by
                    show 0 ≤ 10 * a + (s[k].toNat : Int) - 48 ∧ 10 * a + (s[k].toNat : Int) - 48 ≤ 4611686018427387909
                    omega
                  clear c1 c2
                  go_wp2_with fail
                  go_round
                  case rel => exact ⟨k + 1, 10 * a + s[k].toNat - 48, hlt, rfl, by go_num, HQ.out.1, HQ.out.2, H.out⟩
                  case measure => simp [intOf]; omega
          · obtain rfl : k = s.size := by omega
            obtain ⟨v, hv⟩ : ∃ v, v = -a := ⟨_, rfl⟩
            have HE : Hid (refNum s.data.toList = if inN v && decide (itoa v = s.data.toList) then some v else none) := by
              have := refNum_end HNE.out (by rw [HL.out]; omega) (by rw [HL.out]; exact HA.out)
              rw [HS.out.1, ← hv] at this
              exact this
            have HV : Hid (-9223372036854775808 ≤ v ∧ v ≤ 9223372036854775807) := by
              show -9223372036854775808 ≤ v ∧ v ≤ 9223372036854775807
              omega
            have kn : IntKind.i64.wrap (-a) = v := by rw [hv, IntKind.wrap_i64]; omega
            have HD : Hid (∀ W, Calls Tryz.prog 77 #[.int .i64 v] W fun e w' => e = .returned (.string (digS v)) ∧ Below W.heap.size W w') := fun W => digits_any v.natAbs v W (Nat.le_refl _) HV.out.1 HV.out.2
            clear hlt hk
            have hv2 : -a = v := hv.symm
            clear hv
            by_cases g1 : 4611686018427387904 < v
            · have H : Hid (refNum s.data.toList = none) := by
                show refNum s.data.toList = none
                rw [HE.out, if_neg]
                intro hx
                simp only [Bool.and_eq_true, inN_iff] at hx
                omega
              go_wp2_with fail
              go_ret2
              exact ⟨by rw [H.out]; rfl, Below.refl _ _⟩
            · by_cases g2 : v < -4611686018427387904
              · have H : Hid (refNum s.data.toList = none) := by
                  show refNum s.data.toList = none
                  rw [HE.out, if_neg]
                  intro hx
                  simp only [Bool.and_eq_true, inN_iff] at hx
                  omega
                go_wp2_with fail
                go_ret2
                exact ⟨by rw [H.out]; rfl, Below.refl _ _⟩
              · have HI : Hid (inN v = true) := by
                  show inN v = true
                  rw [inN_iff]; omega
                by_cases he : digS v = s
                · have H : Hid (refNum s.data.toList = some v) := by
                    show refNum s.data.toList = some v
                    rw [HE.out, HI.out, digS_eq he]; simp
                  have e1 : ((digS v).toList == s.toList) = true := by rw [he]; simp
                  have e2 : (digS v).toList = s.toList := by rw [he]
                  clear he
                  go_wp2_with (go_at_call 77; refine (HD.out _).mono ?_; rintro e w1 ⟨rfl, hb1⟩; have HB1 := Lib.hid hb1; clear hb1)
                  go_ret2
                  exact ⟨by rw [H.out]; rfl, HB1.out⟩
                · have H : Hid (refNum s.data.toList = none) := by
                    show refNum s.data.toList = none
                    rw [HE.out, if_neg]
                    intro hx
                    simp only [Bool.and_eq_true, decide_eq_true_eq] at hx
                    exact digS_ne he hx.2
                  have e1 : ((digS v).toList == s.toList) = false := by rw [bs_beq]; simp [he]
                  have e2 : ¬ (digS v).toList = s.toList := (fun hx => he (bs_ext hx))
                  clear he
                  go_wp2_with (go_at_call 77; refine (HD.out _).mono ?_; rintro e w1 ⟨rfl, hb1⟩; have HB1 := Lib.hid hb1; clear hb1)
                  go_ret2
                  exact ⟨by rw [H.out]; rfl, HB1.out⟩
      · have HS : Hid ((∀ n, Sup.signed s.data.toList n = n) ∧ behind s.data.toList = s.data.toList.drop 0) := by
          have e : ¬ s.data.toList.head? = some 45 := by
            rw [HH.out]
            intro hx
            apply hm
            rw [Option.some.inj hx]; rfl
          refine ⟨fun n => ?_, ?_⟩
          · unfold Go.Sup.signed; rw [if_neg e]
          · unfold behind; rw [if_neg e, List.drop_zero]
        have hm1 : ((s[0].toNat : Int) == 45) = false := by simp; omega
        have hm2 : ¬ (s[0].toNat : Int) = 45 := by omega
        have H0 : Hid (refLoop 0 (behind s.data.toList) = refLoop 0 (s.data.toList.drop 0)) := by
          show refLoop 0 (behind s.data.toList) = _
          rw [HS.out.2]
        clear hm
        go_enter Tryz.func89, Tryz.ntmps89
        go_wp2_with fail
        go_loop [4, 6] (fun n i => ∃ (k : Nat) (a : Int), k ≤ s.size ∧ n = .int .i64 a ∧ i = .int .i64 k ∧ 0 ≤ a ∧ a ≤ 4611686018427387909 ∧ Hid (refLoop 0 (behind s.data.toList) = refLoop a (s.data.toList.drop k))) (fun _ i => s.size - (intOf i).toNat)
        case atStart => exact ⟨0, 0, by omega, rfl, rfl, by omega, by omega, H0.out⟩
        case round =>
          obtain ⟨k, a, hk, rfl, rfl, ha0, ha1, HA⟩ := hrel
          by_cases hlt : k < s.size
          · have hlt' : (k : Int) < (s.size : Int) := by omega
            have HB : Hid (s[k].toNat < 48 ∨ 57 < s[k].toNat ∨ 461168601842738790 < a → refNum s.data.toList = none) := fun h => refNum_bad (by rw [HL.out]; exact hlt) HA.out h
            have HG : Hid (48 ≤ s[k].toNat → s[k].toNat ≤ 57 → a ≤ 461168601842738790 → refLoop 0 (behind s.data.toList) = refLoop (10 * a + s[k].toNat - 48) (s.data.toList.drop (k + 1))) := fun h1 h2 h3 => refNum_step (by rw [HL.out]; exact hlt) HA.out h1 h2 h3
            have hu := UInt8.toNat_lt s[k]
            by_cases c1 : s[k].toNat < 48
            · have H := Lib.hid (HB.out (Or.inl c1))
              have c1' : (s[k].toNat : Int) < 48 := by omega
              clear c1
              go_wp2_with fail
              go_ret2
              exact ⟨by rw [H.out]; rfl, Below.refl _ _⟩
            · by_cases c2 : 57 < s[k].toNat
              · have H := Lib.hid (HB.out (Or.inr (Or.inl c2)))
                have c1' : ¬ (s[k].toNat : Int) < 48 := by omega
                have c2' : (57 : Int) < (s[k].toNat : Int) := by omega
                clear c1 c2
                go_wp2_with fail
                go_ret2
                exact ⟨by rw [H.out]; rfl, Below.refl _ _⟩
              · by_cases c3 : 461168601842738790 < a
                · have H := Lib.hid (HB.out (Or.inr (Or.inr c3)))
                  have c1' : ¬ (s[k].toNat : Int) < 48 := by omega
                  have c2' : ¬ (57 : Int) < (s[k].toNat : Int) := by omega
                  clear c1 c2
                  go_wp2_with fail
                  go_ret2
                  exact ⟨by rw [H.out]; rfl, Below.refl _ _⟩
                · have H := Lib.hid (HG.out (by omega) (by omega) (by omega))
                  have c1' : ¬ (s[k].toNat : Int) < 48 := by omega
                  have c2' : ¬ (57 : Int) < (s[k].toNat : Int) := by omega
                  have k1 : IntKind.i64.wrap (10 * a) = 10 * a := by rw [IntKind.wrap_i64]; omega
                  have k2 : IntKind.i64.wrap (s[k].toNat : Int) = s[k].toNat := by rw [IntKind.wrap_i64]; omega
                  have k3 : IntKind.i64.wrap (10 * a + s[k].toNat) = 10 * a + s[k].toNat := by rw [IntKind.wrap_i64]; omega
                  have k4 : IntKind.i64.wrap (10 * a + s[k].toNat - 48) = 10 * a + s[k].toNat - 48 := by rw [IntKind.wrap_i64]; omega
                  have HQ : Hid (0 ≤ 10 * a + (s[k].toNat : Int) - 48 ∧ 10 * a + (s[k].toNat : Int) - 48 ≤ 4611686018427387909) := by
                    show 0 ≤ 10 * a + (s[k].toNat : Int) - 48 ∧ 10 * a + (s[k].toNat : Int) - 48 ≤ 4611686018427387909
                    omega
                  clear c1 c2
                  go_wp2_with fail
                  go_round
                  case rel => exact ⟨k + 1, 10 * a + s[k].toNat - 48, hlt, rfl, by go_num, HQ.out.1, HQ.out.2, H.out⟩
                  case measure => simp [intOf]; omega
          · obtain rfl : k = s.size := by omega
            obtain ⟨v, hv⟩ : ∃ v, v = a := ⟨_, rfl⟩
            have HE : Hid (refNum s.data.toList = if inN v && decide (itoa v = s.data.toList) then some v else none) := by
              have := refNum_end HNE.out (by rw [HL.out]; omega) (by rw [HL.out]; exact HA.out)
              rw [HS.out.1, ← hv] at this
              exact this
            have HV : Hid (-9223372036854775808 ≤ v ∧ v ≤ 9223372036854775807) := by
              show -9223372036854775808 ≤ v ∧ v ≤ 9223372036854775807
              omega
            have HD : Hid (∀ W, Calls Tryz.prog 77 #[.int .i64 v] W fun e w' => e = .returned (.string (digS v)) ∧ Below W.heap.size W w') := fun W => digits_any v.natAbs v W (Nat.le_refl _) HV.out.1 HV.out.2
            clear hlt hk
            subst hv
            by_cases g1 : 4611686018427387904 < v
            · have H : Hid (refNum s.data.toList = none) := by
                show refNum s.data.toList = none
                rw [HE.out, if_neg]
                intro hx
                simp only [Bool.and_eq_true, inN_iff] at hx
                omega
              go_wp2_with fail
              go_ret2
              exact ⟨by rw [H.out]; rfl, Below.refl _ _⟩
            · by_cases g2 : v < -4611686018427387904
              · have H : Hid (refNum s.data.toList = none) := by
                  show refNum s.data.toList = none
                  rw [HE.out, if_neg]
                  intro hx
                  simp only [Bool.and_eq_true, inN_iff] at hx
                  omega
                go_wp2_with fail
                go_ret2
                exact ⟨by rw [H.out]; rfl, Below.refl _ _⟩
              · have HI : Hid (inN v = true) := by
                  show inN v = true
                  rw [inN_iff]; omega
                by_cases he : digS v = s
                · have H : Hid (refNum s.data.toList = some v) := by
                    show refNum s.data.toList = some v
                    rw [HE.out, HI.out, digS_eq he]; simp
                  have e1 : ((digS v).toList == s.toList) = true := by rw [he]; simp
                  have e2 : (digS v).toList = s.toList := by rw [he]
                  clear he
                  go_wp2_with (go_at_call 77; refine (HD.out _).mono ?_; rintro e w1 ⟨rfl, hb1⟩; have HB1 := Lib.hid hb1; clear hb1)
                  go_ret2
                  exact ⟨by rw [H.out]; rfl, HB1.out⟩
                · have H : Hid (refNum s.data.toList = none) := by
                    show refNum s.data.toList = none
                    rw [HE.out, if_neg]
                    intro hx
                    simp only [Bool.and_eq_true, decide_eq_true_eq] at hx
                    exact digS_ne he hx.2
                  have e1 : ((digS v).toList == s.toList) = false := by rw [bs_beq]; simp [he]
                  have e2 : ¬ (digS v).toList = s.toList := (fun hx => he (bs_ext hx))
                  clear he
                  go_wp2_with (go_at_call 77; refine (HD.out _).mono ?_; rintro e w1 ⟨rfl, hb1⟩; have HB1 := Lib.hid hb1; clear hb1)
                  go_ret2
                  exact ⟨by rw [H.out]; rfl, HB1.out⟩
end Go.Proofs.YtlffpelkmdcckaaGreatDoor
