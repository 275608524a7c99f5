/- buildOnce, Replace's first part: the Replacer is built once. -/
import Derived.Test.YtlffpelkmdcckaaGreatDoorRepl
namespace Go.Proofs.YtlffpelkmdcckaaGreatDoor
open Go Go.RowKit Go.Sup
set_option maxRecDepth 100000
/-- The Replacer's cells ahead of its building, whatever its lock's state. -/
structure RepCells (w : World) (b o c : Nat) : Prop where
  h3 : ∃ v, w.cell? ⟨b, 3, none⟩ = some v
  h4 : w.cell? ⟨b, 4, none⟩ = some (.slice (some ⟨o, 0, none⟩) 4 c)
  fz : ∀ i, w.frozen? ⟨b, i, none⟩ = false
  lo : 4 ≤ c
  hi : c ≤ maxLen
  s0 : w.cell? ⟨o, 0, none⟩ = some (.string ⟨#[92]⟩)
  s1 : w.cell? ⟨o, 1, none⟩ = some (.string ⟨#[92, 92]⟩)
  s2 : w.cell? ⟨o, 2, none⟩ = some (.string ⟨#[10]⟩)
  s3 : w.cell? ⟨o, 3, none⟩ = some (.string ⟨#[92, 110]⟩)
/-- What building leaves: only block b has turned of what was there. -/
def Built (w0 : World) (b : Nat) (w' : World) : Prop :=
  ∃ t g10 c10 g92 c92 tv Z, w'.cell? ⟨b, 3, none⟩ = some (.iface 229 (.pointer (some ⟨t, 0, none⟩))) ∧ TabAt w0.heap.size t w' g10 c10 g92 c92 tv Z ∧ w0.heap.size ≤ w'.heap.size ∧ (∀ j, j < w0.heap.size → j ≠ b → w'.heap[j]? = w0.heap[j]?) ∧ w'.os = w0.os ∧ w'.tape = w0.tape ∧ w'.output = w0.output

set_option maxHeartbeats 2000000 in
theorem buildOnce_any (w : World) (b o c : Nat) (H : RepCells w b o c) :
    Calls Tryz.prog 127 #[.pointer (some ⟨b, 0, none⟩)] w fun e w' => e = .returned (.tuple #[]) ∧ Built w b w' ∧ (∀ i, i < 3 → w'.cell? ⟨b, i, none⟩ = w.cell? ⟨b, i, none⟩) ∧ ∀ i, w'.frozen? ⟨b, i, none⟩ = false := by
  obtain ⟨⟨u3, h3⟩, h4, fz, lo, hi, s0, s1, s2, s3⟩ := H
  have hbl := lt_of_cell h4
  have Hc := Lib.hid (build_any w b o c lo hi h4 s0 s1 s2 s3)
  have Hfz := Lib.hid fz
  have H34 := Lib.hid (And.intro h3 h4)
  clear lo hi s0 s1 s2 s3 fz h3 h4
  go_enter Tryz.func127, Tryz.ntmps127
  go_wp2_with fail
  refine Hc.out.mono ?_
  rintro e w1 ⟨t, g10, c10, g92, c92, tv, Z, rfl, T⟩
  obtain ⟨z0, z1⟩ := bcell T.below
  have k3 : w1.cell? ⟨b, 3, none⟩ = some u3 := (z0 b 3 hbl).trans H34.out.1
  have k4 : w1.cell? ⟨b, 4, none⟩ = some (.slice (some ⟨o, 0, none⟩) 4 c) := (z0 b 4 hbl).trans H34.out.2
  have f3 : w1.frozen? ⟨b, 3, none⟩ = false := (z1 b 3 hbl).trans (Hfz.out 3)
  have f4 : w1.frozen? ⟨b, 4, none⟩ = false := (z1 b 4 hbl).trans (Hfz.out 4)
  have Hz0 := Lib.hid z0
  have Hz1 := Lib.hid z1
  have HT := Lib.hid T
  clear z0 z1 T
  go_wp2
  go_end0
  have ne : ∀ i j : Nat, i ≠ j → (⟨b, i, none⟩ : Addr) ≠ ⟨b, j, none⟩ := fun i j h e => by injection e; contradiction
  have hs : ∀ j, j ≠ b → ((w1.setCell ⟨b, 3, none⟩ (.iface 229 (.pointer (some ⟨t, 0, none⟩)))).setCell ⟨b, 4, none⟩ (.slice none 0 0)).heap[j]? = w1.heap[j]? := fun j hj => (heap_set_ne _ hj).trans (heap_set_ne _ hj)
  have hsz : ((w1.setCell ⟨b, 3, none⟩ (.iface 229 (.pointer (some ⟨t, 0, none⟩)))).setCell ⟨b, 4, none⟩ (.slice none 0 0)).heap.size = w1.heap.size := by simp [World.setCell]
  refine ⟨rfl, ⟨t, g10, c10, g92, c92, tv, Z, ?_, HT.out.whole.keep (by rw [hsz]; exact Nat.le_refl _) (fun j hj _ => hs j (by omega)), by rw [hsz]; exact HT.out.below.size, fun j hj hjb => (hs j hjb).trans (HT.out.below.block j hj), HT.out.below.os, HT.out.below.tape, HT.out.below.output⟩, fun i hi => ?_, fun i => ?_⟩
  · rw [World.cell?_setCell_other _ _ _ _ (ne 4 3 (by decide)), World.cell?_setCell_same _ _ _ k3]
  · rw [World.cell?_setCell_other _ _ _ _ (ne 4 i (by omega)), World.cell?_setCell_other _ _ _ _ (ne 3 i (by omega))]
    exact Hz0.out b i hbl
  · simp [Hz1.out b i hbl, Hfz.out i]
end Go.Proofs.YtlffpelkmdcckaaGreatDoor
