/- 09: the referee's some. -/
import Derived.Test.YtlffpelkmdcckaaGreatDoorPName
import Derived.Test.YtlffpelkmdcckaaGreatDoorRefText
namespace Go.Proofs.YtlffpelkmdcckaaGreatDoor
open Go Go.RowKit Go.Sup
set_option maxRecDepth 100000
def someOk (s : ByteArray) : Bool := decide (s = ⟨#[]⟩) || nameOk s.data.toList
set_option maxHeartbeats 400000 in
theorem some_any (s : ByteArray) (hs : s.size ≤ 1000000000) (w : World) : Calls Tryz.prog 46 #[.string s] w fun e w' => e = .returned (.bool (someOk s)) ∧ w' = w := by
  have HN : Hid (someOk s = (decide (s = ⟨#[]⟩) || nameOk s.data.toList)) := rfl
  by_cases h1 : s = ⟨#[]⟩
  · subst h1
    go_enter Tryz.func46, Tryz.ntmps46
    go_wp2_with fail
    go_ret
    exact ⟨rfl, rfl⟩
  · have hz : (⟨#[]⟩ : ByteArray).toList = [] := by rw [ByteArray.toList_eq]
    have e2 : ¬ s.toList = [] := fun hx => h1 (bs_ext (hx.trans hz.symm))
    have e1 : (s.toList == []) = false := by simp [e2]
    have HX : Hid (someOk s = nameOk s.data.toList) := by
      show someOk s = nameOk s.data.toList
      rw [HN.out]; simp [h1]
    have HC := Lib.hid (fun W => refName_any s hs W)
    clear hz h1
    go_enter Tryz.func46, Tryz.ntmps46
    go_wp2_with (go_at_call 44; refine (HC.out _).mono ?_; rintro e w1 ⟨rfl, rfl⟩)
    go_ret
    exact ⟨by rw [HX.out]; rfl, rfl⟩
end Go.Proofs.YtlffpelkmdcckaaGreatDoor
