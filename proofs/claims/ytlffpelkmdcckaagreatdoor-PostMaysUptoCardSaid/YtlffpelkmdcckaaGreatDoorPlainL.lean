/- 09: is a letter an ack alone (post.plain). -/
import Derived.Test.YtlffpelkmdcckaaGreatDoorPlain9
namespace Go.Proofs.YtlffpelkmdcckaaGreatDoor
open Go Go.RowKit Go.Sup
set_option maxRecDepth 100000
/-- An ack alone. -/
def ackOf (l : LetD) : LetD := ⟨l.src, l.dst, 0, l.kind, l.ack, ⟨#[]⟩, ⟨#[]⟩, ⟨#[]⟩, 0, 0, ⟨#[]⟩, 0, [], []⟩
theorem ackOf_let (l : LetD) (w : World) (B : Nat) : LetC w B (ackOf l) ((ackOf l).val (.slice none 0 0) (.slice none 0 0)) := ⟨_, _, rfl, DocsC.nil_ _ _, SlC.nil_ _ _ _⟩
set_option maxHeartbeats 800000 in
theorem plain9_any (l : LetD) (w : World) (B : Nat) (v : Value) (hv : LetC w B l v) (hB : B ≤ w.heap.size) :
    Calls Tryz.prog 36 #[v] w fun e w' => e = .returned (.bool (letEq l (ackOf l))) ∧ Below w.heap.size w w' := by
  have HS : Hid (∀ W, Below w.heap.size w W → Calls Tryz.prog 14 #[v, (ackOf l).val (.slice none 0 0) (.slice none 0 0)] W fun e w' => e = .returned (.bool (letEq l (ackOf l))) ∧ Below W.heap.size W w') := fun W h => same9_any l (ackOf l) W B _ _ (hv.below (h.mono hB)) (ackOf_let l W B) (Nat.le_trans hB h.size)
  obtain ⟨G, hG⟩ : ∃ G, G = letEq l (ackOf l) := ⟨_, rfl⟩
  rw [← hG] at HS ⊢
  obtain ⟨dv, bv, rfl, da, sa⟩ := hv
  obtain ⟨A, c, rfl, -⟩ := da.form
  obtain ⟨A2, c2, rfl, -⟩ := id sa
  rw [List.length_map] at HS ⊢
  clear hG da sa
  obtain ⟨l0, l1, l2, l3, l4, l5, l6, l7, l8, l9, l10, l11, ld, lb⟩ := l
  simp only [LetD.val, ackOf] at HS ⊢
  go_enter Tryz.func36, Tryz.ntmps36
  go_wp2_with fail
  refine (HS.out _ ((Below.refl _ _).alloc (Nat.le_refl _) _)).mono ?_
  rintro e w1 ⟨rfl, hb1⟩
  have HB : Hid (Below w.heap.size w w1) := ((Below.refl _ _).alloc (Nat.le_refl _) _).trans (hb1.mono (by simp))
  clear hb1
  go_wp2
  go_ret
  exact ⟨rfl, HB.out⟩
theorem names9_any (w : World) (hT : TabW w) : Calls Tryz.prog 28 #[] w fun e w' => ∃ A c, e = .returned (.slice A 29 c) ∧ Below w.heap.size w w' := by
  refine (names_any w hT).mono ?_
  rintro e w1 ⟨v, rfl, ⟨A, c, rfl, -⟩, hb⟩
  exact ⟨A, c, rfl, hb⟩
/-- Is a number from one to another one? -/
def inR (n a b : Int) : Bool := decide (a ≤ n) && decide (n ≤ b)
theorem inR_any (n a b : Int) (w : World) : Calls Tryz.prog 29 #[.int .i64 n, .int .i64 a, .int .i64 b] w fun e w' => e = .returned (.bool (inR n a b)) ∧ w' = w := within_any n a b w
end Go.Proofs.YtlffpelkmdcckaaGreatDoor
