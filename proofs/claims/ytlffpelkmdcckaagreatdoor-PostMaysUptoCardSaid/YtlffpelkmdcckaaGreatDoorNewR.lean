/- strings.NewReplacer at field.line's four strings. -/
import Derived.Test.YtlffpelkmdcckaaGreatDoorOnceB
namespace Go.Proofs.YtlffpelkmdcckaaGreatDoor
open Go Go.RowKit Go.Sup
set_option maxRecDepth 100000
def four : List (List Value) := [[.string ⟨#[92]⟩], [.string ⟨#[92, 92]⟩], [.string ⟨#[10]⟩], [.string ⟨#[92, 110]⟩]]
set_option maxHeartbeats 800000 in
theorem newRep_any (w : World) (v : Value) (hv : SlC w w.heap.size 1 four v) :
    Calls Tryz.prog 110 #[v] w fun e w' => ∃ b o c, e = .returned (.pointer (some ⟨b, 0, none⟩)) ∧ w.heap.size ≤ b ∧ RepCells w' b o c ∧ OnceNew w' b ∧ w.heap.size ≤ o ∧ o ≠ b ∧ Below w.heap.size w w' := by
  obtain ⟨A, c, rfl, hn, hc, -⟩ := id hv
  have h4 : four.length = 4 := rfl
  rw [h4] at hn hv ⊢
  have Hv := Lib.hid hv
  unfold maxLen at hc
  have e1 : ((4 : Int) % 2 == 1) = false := by decide
  clear hv h4
  go_enter Tryz.func110, Tryz.ntmps110
  go_wp2_with (at_builtin; go_must (refine wpList_appN _ rfl (.const (.slice none 0 0)) (.tmp 8) 23 rfl elStrs w.heap.size [] (.slice none 0 0) rfl (OwnC.nil_ _ _ _ _) w.heap.size four _ rfl Hv.out (by simp [four]) (by simp [four, Value.oneCell']) (by simp [four]) (by simp [four, maxLen]) (Nat.le_refl _) ?_))
  intro v1 w1 hov hgr hbl hob
  have hov' : OwnC w1 w.heap.size 9 1 four v1 := hov
  obtain ⟨g, cap, hv1, hg1, hg2, hg3, hg4, hfz⟩ := hov'.form (by decide)
  have h4 : four.length = 4 := rfl
  rw [h4] at hv1 hg3
  subst hv1
  have r : ∀ k s, four[k]? = some [.string s] → w1.cell? ⟨g, k, none⟩ = some (.string s) := fun k s h => by
    have := hov'.cellAt (k := k) (j := 0) h rfl
    simpa using this
  have Hr := Lib.hid r
  have Hb := Lib.hid hbl
  clear hov hov' hgr hbl hob hfz r h4
  go_wp2
  go_ret
  have hs := Hb.out.size
  have hold : ∀ (o : Obj) k, (w1.alloc o).cell? ⟨g, k, none⟩ = w1.cell? ⟨g, k, none⟩ := fun o k => World.cell?_alloc_lt w1 o ⟨g, k, none⟩ hg2
  refine ⟨w1.heap.size, g, cap, rfl, hs, ⟨⟨.nilIface, by simp⟩, by simp, fun i => by simp, hg3, hg4, (hold _ 0).trans (Hr.out 0 _ rfl), (hold _ 1).trans (Hr.out 1 _ rfl), (hold _ 2).trans (Hr.out 2 _ rfl), (hold _ 3).trans (Hr.out 3 _ rfl)⟩, ⟨by simp, by simp, by simp, by simp⟩, hg1, by omega, Hb.out.alloc hs _⟩
end Go.Proofs.YtlffpelkmdcckaaGreatDoor
