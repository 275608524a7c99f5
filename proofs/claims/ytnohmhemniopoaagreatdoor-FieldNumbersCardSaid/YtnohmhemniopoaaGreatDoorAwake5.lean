/- The chapter's example (layer 5) answers true. -/
import Derived.Test.YtnohmhemniopoaaGreatDoorParse
namespace Go.Proofs.YtnohmhemniopoaaGreatDoor
open Go Go.RowKit Go.Sup
set_option maxRecDepth 100000
def awL : List Fld := [(⟨#[97]⟩, ⟨#[120]⟩), (⟨#[98]⟩, ⟨#[10]⟩)]
theorem awE : textE awL = 0 := by decide
theorem awS : textS awL = ⟨#[97, 61, 120, 10, 98, 61, 92, 110, 10]⟩ := by
  unfold textS; rw [if_pos awE]; rfl
theorem awP : parseR (⟨#[97]⟩ : ByteArray).data.toList = ([], 1, 2) := by decide
set_option maxHeartbeats 1000000 in
theorem awake_any (w : World) : Calls Tryz.prog 4 #[] w fun e w' => e = .returned (.bool true) ∧ Below w.heap.size w w' := by
  go_enter Tryz.func4, Tryz.ntmps4
  go_wp2_with fail
  refine (text_any awL (by intro f hf; simp [awL] at hf; rcases hf with rfl | rfl <;> exact ⟨by decide, by decide⟩) _ (w.heap.size + 1) _ (SlC.litN (awL.map frow) (frow_len _) rfl 31 w.heap.size 2 (w.heap.size + 1) rfl rfl (by omega) (by decide)) (by simp)).mono ?_
  rintro e w1 ⟨rfl, hb1⟩
  rw [awS, awE, show ((0 : Nat) : Int) = 0 from rfl]
  have Hb1 : Hid (Below w.heap.size w w1) := ((Below.refl _ _).alloc (Nat.le_refl _) _).trans (hb1.mono (by simp))
  clear hb1
  go_wp2_with fail
  refine (parse_any ⟨#[97]⟩ (by decide) _).mono ?_
  rw [awP]
  rintro e w2 ⟨v, rfl, ho, hb2⟩
  have Hb2 : Hid (Below w.heap.size w w2) := Hb1.out.trans (hb2.mono Hb1.out.size)
  clear hb2 ho
  go_wp2
  go_ret
  exact ⟨rfl, Hb2.out⟩
end Go.Proofs.YtnohmhemniopoaaGreatDoor
