/- 09: the referee's small ones: between, none. -/
import Derived.Test.YtlffpelkmdcckaaGreatDoorLetter
namespace Go.Proofs.YtlffpelkmdcckaaGreatDoor
open Go Go.RowKit Go.Sup
set_option maxRecDepth 100000
set_option maxHeartbeats 400000 in
theorem between_any (n a b : Int) (w : World) : Calls Tryz.prog 45 #[.int .i64 n, .int .i64 a, .int .i64 b] w fun e w' => e = .returned (.bool (decide (a ≤ n) && decide (n ≤ b))) ∧ w' = w := by
  by_cases h1 : a ≤ n
  · by_cases h2 : n ≤ b
    · go_enter Tryz.func45, Tryz.ntmps45
      go_wp2
      go_ret
      exact ⟨by simp [h1, h2], rfl⟩
    · go_enter Tryz.func45, Tryz.ntmps45
      go_wp2
      go_ret
      exact ⟨by simp; omega, rfl⟩
  · go_enter Tryz.func45, Tryz.ntmps45
    go_wp2
    go_ret
    exact ⟨by simp; omega, rfl⟩
def noSum (c : ByteArray) (n : Int) : Bool := decide (c = ⟨#[]⟩) && decide (n = 0)
set_option maxHeartbeats 400000 in
theorem none_any (c : ByteArray) (n : Int) (w : World) : Calls Tryz.prog 47 #[.agg #[.string c, .int .i64 n]] w fun e w' => e = .returned (.bool (noSum c n)) ∧ Below w.heap.size w w' := by
  have HN : Hid (noSum c n = (decide (c = ⟨#[]⟩) && decide (n = 0))) := rfl
  by_cases h1 : c = ⟨#[]⟩
  · subst h1
    by_cases h2 : n = 0
    · subst h2
      go_enter Tryz.func47, Tryz.ntmps47
      go_wp2
      go_ret
      exact ⟨by rw [HN.out]; rfl, (Below.refl _ _).alloc (Nat.le_refl _) _⟩
    · have e1 : (n == 0) = false := by simp [h2]
      go_enter Tryz.func47, Tryz.ntmps47
      go_wp2
      go_ret
      exact ⟨by rw [HN.out]; simp [h2], (Below.refl _ _).alloc (Nat.le_refl _) _⟩
  · have hz : (⟨#[]⟩ : ByteArray).toList = [] := by rw [ByteArray.toList_eq]
    have e2 : ¬ c.toList = [] := fun hx => h1 (bs_ext (hx.trans hz.symm))
    have e1 : (c.toList == []) = false := by simp [e2]
    clear hz
    go_enter Tryz.func47, Tryz.ntmps47
    go_wp2
    go_ret
    exact ⟨by rw [HN.out]; simp [h1], (Below.refl _ _).alloc (Nat.le_refl _) _⟩
end Go.Proofs.YtlffpelkmdcckaaGreatDoor
