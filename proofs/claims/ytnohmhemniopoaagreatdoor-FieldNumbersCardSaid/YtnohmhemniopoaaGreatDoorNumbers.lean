/- FieldNumbers: the walk. -/
import Derived.Test.YtnohmhemniopoaaGreatDoorNumb
import Derived.Test.YtnohmhemniopoaaGreatDoorAwake5
namespace Go.Proofs.YtnohmhemniopoaaGreatDoor
open Go Go.RowKit Go.Sup Go.Lib
set_option maxRecDepth 100000
set_option maxHeartbeats 2000000 in
theorem fieldNumbers_any (s : ByteArray) (n : Int) (h0 : -9223372036854775808 ≤ n) (h1 : n ≤ 9223372036854775807) (w : World) (hW : NumW w) :
    Calls Tryz.prog 3 #[.string s, .int .i64 n] w fun e w' => e = .returned (.bool true) ∧ Below w.heap.size w w' := by
  by_cases hs : 100 < s.size
  · have hs' : (100 : Int) < (s.size : Int) := by omega
    clear hW
    go_enter Tryz.func3, Tryz.ntmps3
    go_wp2_with (go_at_call 4; refine (awake_any _).mono ?_; rintro e w1 ⟨rfl, hb1⟩; have HB1 := Lib.hid hb1; clear hb1)
    go_ret
    exact ⟨rfl, HB1.out⟩
  · have hs' : ¬ (100 : Int) < (s.size : Int) := by omega
    have HW := Lib.hid hW
    obtain ⟨o, ho⟩ : ∃ o, o = numOf s.data.toList := ⟨_, rfl⟩
    have HN : Hid (∀ W, NumW W → Calls Tryz.prog 5 #[.string s] W fun e w' => e = .returned (.tuple #[.int .i64 (o.getD 0), .bool o.isSome]) ∧ Below W.heap.size W w') := fun W h => by
      rw [ho]; exact number_any s (by omega) W h
    have HR : Hid (∀ W, Calls Tryz.prog 6 #[.string s] W fun e w' => e = .returned (.tuple #[.int .i64 (o.getD 0), .bool o.isSome]) ∧ Below W.heap.size W w') := fun W => by
      rw [ho, ← refNum_eq]; exact refNumber_any s W
    have HD : Hid (∀ W, Calls Tryz.prog 7 #[.int .i64 n] W fun e w' => e = .returned (.string (digS n)) ∧ Below W.heap.size W w') := fun W => digits_any n.natAbs n W (Nat.le_refl _) h0 h1
    have HM : Hid (∀ W, NumW W → Calls Tryz.prog 5 #[.string (digS n)] W fun e w' => e = .returned (.tuple #[.int .i64 (if inN n then n else 0), .bool (inN n)]) ∧ Below W.heap.size W w') := fun W h => by
      have := number_any (digS n) (by have := digS_len n h0 h1; omega) W h
      rw [show (digS n).data.toList = itoa n from rfl, numOf_itoa h0 h1] at this
      cases hi : inN n <;> simpa [hi, numV] using this
    obtain ⟨x, hx⟩ : ∃ x, x = o.getD 0 := ⟨_, rfl⟩
    obtain ⟨b, hb⟩ : ∃ b, b = o.isSome := ⟨_, rfl⟩
    rw [← hx, ← hb] at HN HR
    have HE : Hid (inN n = true ↔ -4611686018427387904 ≤ n ∧ n ≤ 4611686018427387904) := inN_iff
    obtain ⟨i, hi⟩ : ∃ i, i = inN n := ⟨_, rfl⟩
    rw [← hi] at HM HE
    clear hx hb ho hW hs hi
    by_cases g : i = true
    · have g1 : -4611686018427387904 ≤ n := (HE.out.1 g).1
      have g2 : n ≤ 4611686018427387904 := (HE.out.1 g).2
      subst g
      rw [if_pos rfl] at HM
      go_enter Tryz.func3, Tryz.ntmps3
      go_wp2_with fail
      refine (HN.out _ HW.out).mono ?_
      rintro e w1 ⟨rfl, hb1⟩
      have HB1 := Lib.hid hb1
      clear hb1
      go_wp2_with fail
      refine (HR.out _).mono ?_
      rintro e w2 ⟨rfl, hb2⟩
      have HB2 := Lib.hid (HB1.out.trans (hb2.mono HB1.out.size))
      clear hb2
      go_wp2_with fail
      refine (HD.out _).mono ?_
      rintro e w3 ⟨rfl, hb3⟩
      have HB3 := Lib.hid (HB2.out.trans (hb3.mono HB2.out.size))
      clear hb3
      go_wp2_with fail
      refine (HM.out _ (HW.out.below HB3.out)).mono ?_
      rintro e w4 ⟨rfl, hb4⟩
      have HB4 := Lib.hid (HB3.out.trans (hb4.mono HB3.out.size))
      clear hb4
      go_wp2_with (go_at_call 4; refine (awake_any _).mono ?_; rintro e w5 ⟨rfl, hb5⟩; have HB5 := Lib.hid (HB4.out.trans (hb5.mono HB4.out.size)); clear hb5)
      go_ret
      exact ⟨rfl, HB5.out⟩
    · have g' : i = false := by simpa using g
      have g1 : n < -4611686018427387904 ∨ 4611686018427387904 < n := by
        by_cases a1 : n < -4611686018427387904
        · exact Or.inl a1
        · by_cases a2 : 4611686018427387904 < n
          · exact Or.inr a2
          · exact absurd (HE.out.2 ⟨by omega, by omega⟩) g
      subst g'
      clear g HE
      simp only [Bool.false_eq_true, if_false] at HM
      rcases g1 with g1 | g1
      all_goals
        go_enter Tryz.func3, Tryz.ntmps3
        go_wp2_with fail
        refine (HN.out _ HW.out).mono ?_
        rintro e w1 ⟨rfl, hb1⟩
        have HB1 := Lib.hid hb1
        clear hb1
        go_wp2_with fail
        refine (HR.out _).mono ?_
        rintro e w2 ⟨rfl, hb2⟩
        have HB2 := Lib.hid (HB1.out.trans (hb2.mono HB1.out.size))
        clear hb2
        go_wp2_with fail
        refine (HD.out _).mono ?_
        rintro e w3 ⟨rfl, hb3⟩
        have HB3 := Lib.hid (HB2.out.trans (hb3.mono HB2.out.size))
        clear hb3
        go_wp2_with fail
        refine (HM.out _ (HW.out.below HB3.out)).mono ?_
        rintro e w4 ⟨rfl, hb4⟩
        have HB4 := Lib.hid (HB3.out.trans (hb4.mono HB3.out.size))
        clear hb4
        go_wp2_with (go_at_call 4; refine (awake_any _).mono ?_; rintro e w5 ⟨rfl, hb5⟩; have HB5 := Lib.hid (HB4.out.trans (hb5.mono HB4.out.size)); clear hb5)
        go_ret
        exact ⟨rfl, HB5.out⟩
end Go.Proofs.YtnohmhemniopoaaGreatDoor
