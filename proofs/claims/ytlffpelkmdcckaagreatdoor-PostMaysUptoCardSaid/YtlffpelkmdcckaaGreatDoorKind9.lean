/- 09: within, Name, Kind of post; the referee's Names. -/
import Derived.Test.YtlffpelkmdcckaaGreatDoorNames9
namespace Go.Proofs.YtlffpelkmdcckaaGreatDoor
open Go Go.RowKit Go.Sup
set_option maxRecDepth 100000
set_option maxHeartbeats 400000 in
theorem within_any (n a b : Int) (w : World) : Calls Tryz.prog 29 #[.int .i64 n, .int .i64 a, .int .i64 b] w fun e w' => e = .returned (.bool (decide (a ≤ n) && decide (n ≤ b))) ∧ w' = w := by
  by_cases h1 : a ≤ n
  · by_cases h2 : n ≤ b
    · go_enter Tryz.func29, Tryz.ntmps29
      go_wp2
      go_ret
      exact ⟨by simp [h1, h2], rfl⟩
    · go_enter Tryz.func29, Tryz.ntmps29
      go_wp2
      go_ret
      exact ⟨by simp; omega, rfl⟩
  · go_enter Tryz.func29, Tryz.ntmps29
    go_wp2
    go_ret
    exact ⟨by simp; omega, rfl⟩
set_option maxHeartbeats 800000 in
theorem postName_any (k : Int) (w : World) (hT : TabW w) : Calls Tryz.prog 12 #[.int .i64 k] w fun e w' => e = .returned (.string (postN k)) ∧ Below w.heap.size w w' := by
  have HN := Lib.hid (names_any w hT)
  clear hT
  by_cases h0 : 0 ≤ k ∧ k ≤ 28
  · have hd : (decide (0 ≤ k) && decide (k ≤ 28)) = true := by simp [h0.1, h0.2]
    have HP := Lib.hid (postN_in h0.1 h0.2)
    obtain ⟨n, rfl⟩ := Int.eq_ofNat_of_zero_le h0.1
    have hn : n < 29 := by omega
    clear h0
    go_enter Tryz.func12, Tryz.ntmps12
    go_wp2_with fail
    refine HN.out.mono ?_
    rintro e w1 ⟨v, rfl, hv, hb⟩
    have hlk : postL[n]? = some (postN n) := by simpa using HP.out
    obtain ⟨A, c, rfl, -⟩ := id hv
    obtain ⟨b0, off, rfl, hb0, c0⟩ := str_at hv hlk
    rw [List.length_map, postL_len]
    have HB := Lib.hid hb
    have hn0 : (0 : Int) ≤ n := by omega
    have hn1 : (n : Int) < 29 := by omega
    have hn2 : (n : Int) ≤ 28 := by omega
    clear hv hb
    go_wp2
    go_ret
    exact ⟨rfl, HB.out⟩
  · have HP := Lib.hid (postN_out (k := k) (by omega))
    have hd : (decide (0 ≤ k) && decide (k ≤ 28)) = false := by
      cases h : (decide (0 ≤ k) && decide (k ≤ 28)) with
      | false => rfl
      | true => simp at h; exact absurd h h0
    have hx : k < 0 ∨ 28 < k := by omega
    clear h0 hd
    rcases hx with hx | hx
    all_goals
      try have hx2 : decide (k ≤ 28) = false := by simp; omega
      go_enter Tryz.func12, Tryz.ntmps12
      go_wp2_with fail
      refine HN.out.mono ?_
      rintro e w1 ⟨v, rfl, hv, hb⟩
      obtain ⟨A, c, rfl, -⟩ := id hv
      rw [List.length_map, postL_len]
      have HB := Lib.hid hb
      clear hv hb
      go_wp2
      go_ret
      exact ⟨by rw [HP.out]; rfl, HB.out⟩
set_option maxHeartbeats 800000 in
theorem postKind_any (x : ByteArray) (w : World) (hT : TabW w) : Calls Tryz.prog 11 #[.string x] w fun e w' => e = .returned (.tuple #[.int .i64 (if 0 ≤ idxS postL x then idxS postL x else 0), .bool (decide (0 ≤ idxS postL x))]) ∧ Below w.heap.size w w' := by
  have HN := Lib.hid (names_any w hT)
  clear hT
  obtain ⟨i, hi⟩ : ∃ i, i = idxS postL x := ⟨_, rfl⟩
  have HX : Hid (∀ W v, SlC W W.heap.size 1 (postL.map srow) v → Calls Tryz.prog 27 #[v, .string x] W fun e w' => e = .returned (.int .i64 i) ∧ w' = W) := fun W v h => by
    rw [hi]; exact index_any postL x W W.heap.size v h
  have HG : Hid (-1 ≤ i ∧ i < 29) := by rw [hi]; exact idxS_ge postL x
  rw [← hi]
  clear hi
  by_cases h0 : 0 ≤ i
  · rw [if_pos h0]
    go_enter Tryz.func11, Tryz.ntmps11
    go_wp2_with fail
    refine HN.out.mono ?_
    rintro e w1 ⟨v, rfl, hv, hb⟩
    have HV := Lib.hid hv
    have HB := Lib.hid hb
    clear hv hb
    go_wp2_with fail
    refine (HX.out _ v HV.out).mono ?_
    rintro e w2 ⟨rfl, rfl⟩
    go_wp2
    go_ret2
    exact ⟨by simp [h0]; omega, HB.out⟩
  · rw [if_neg h0]
    go_enter Tryz.func11, Tryz.ntmps11
    go_wp2_with fail
    refine HN.out.mono ?_
    rintro e w1 ⟨v, rfl, hv, hb⟩
    have HV := Lib.hid hv
    have HB := Lib.hid hb
    clear hv hb
    go_wp2_with fail
    refine (HX.out _ v HV.out).mono ?_
    rintro e w2 ⟨rfl, rfl⟩
    go_wp2
    go_ret2
    exact ⟨by simp; omega, HB.out⟩
set_option maxHeartbeats 800000 in
theorem refNames_any (w : World) : Calls Tryz.prog 10 #[] w fun e w' => ∃ v, e = .returned v ∧ SlC w' w'.heap.size 1 (postL.map srow) v ∧ Below w.heap.size w w' := by
  go_enter Tryz.func10, Tryz.ntmps10
  go_wp2
  go_ret
  refine ⟨_, rfl, ?_, (Below.refl _ _).alloc (Nat.le_refl _) _⟩
  exact SlC.litN (postL.map srow) (srow_len _) (by rw [flat_srow]; rfl) 9 w.heap.size 29 _ rfl rfl (by simp) (by decide)
end Go.Proofs.YtlffpelkmdcckaaGreatDoor
