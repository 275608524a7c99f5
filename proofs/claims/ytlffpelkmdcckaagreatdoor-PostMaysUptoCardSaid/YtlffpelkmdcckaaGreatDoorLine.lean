/- field.line: the text of a field. -/
import Derived.Test.YtlffpelkmdcckaaGreatDoorBsr
import Derived.Deep.RegionHeld3
import Derived.Deep.DeepMust
namespace Go.Proofs.YtlffpelkmdcckaaGreatDoor
open Go Go.RowKit Go.Sup
set_option maxRecDepth 100000
def lineS (f : Fld) : ByteArray := ⟨(lineL f).toArray⟩
theorem lineS_eq (f : Fld) : f.1 ++ ⟨#[61]⟩ ++ esc f.2 ++ ⟨#[10]⟩ = lineS f := by
  apply ByteArray.ext
  simp only [ByteArray.data_append]
  apply Array.toList_inj.1
  simp [lineS, lineL, esc]
theorem two_new {w w2 : World} {c1 c2 : Array Value} {t1 t2 : TypeId} {i : Nat} {x : Value} (hbl : Below ((w.alloc (.cells c1 t1)).alloc (.cells c2 t2)).drew.heap.size ((w.alloc (.cells c1 t1)).alloc (.cells c2 t2)).drew w2) (h : c1[i]? = some x) : w2.cell? ⟨w.heap.size, i, none⟩ = some x := by
  refine ((bcell hbl).1 w.heap.size _ ?_).trans ?_
  · simp [World.drew]; omega
  · go_simp
set_option maxHeartbeats 1000000 in
theorem line_any (f : Fld) (w : World) (hmax : f.2.size ≤ 1000000) (h1 : f.1.size ≤ 1000000) :
    Calls Tryz.prog 92 #[.agg #[.string f.1, .string f.2]] w fun e w' => e = .returned (.string (lineS f)) ∧ Below w.heap.size w w' := by
  obtain ⟨n, v⟩ := f
  simp only at hmax h1
  have HE := Lib.hid (lineS_eq (n, v))
  have hes : (esc v).size ≤ 2000000 := by
    have : (esc v).size = (escL v.data.toList).length := rfl
    rw [this, escL_len, Array.length_toList]
    have h2 : v.data.toList.countP special ≤ v.data.toList.length := List.countP_le_length
    rw [Array.length_toList] at h2
    have : v.data.size = v.size := rfl
    omega
  have hb1 : ¬ 9223372036854775807 < n.size + 1 := by omega
  have hb2 : ¬ 9223372036854775807 < n.size + 1 + (esc v).size := by omega
  have hb3 : ¬ 9223372036854775807 < n.size + 1 + (esc v).size + 1 := by omega
  clear hes
  go_enter Tryz.func92, Tryz.ntmps92
  go_wp2
  go_region_held3 (fun W => W.cell? ⟨w.heap.size, 0, none⟩ = some (.string n) ∧ W.cell? ⟨w.heap.size, 1, none⟩ = some (.string v)) (go_keep) (first | (go_at_call 110; go_must ((refine (newRep_any _ _ ?_).mono ?_; exact (SlC.litN four (by simp [four]) rfl 9 (w.heap.size + 1) 4 _ rfl (by simp) (by simp [World.drew]) (by decide)).drew; rintro e w2 ⟨b, o, c, rfl, hb, hC, hO, ho, hob, hbl⟩; have hbw : w.heap.size + 2 ≤ b := (by simpa [World.drew] using hb); have k0 : w2.cell? ⟨w.heap.size, 0, none⟩ = some (.string n) := two_new hbl rfl; have k1 : w2.cell? ⟨w.heap.size, 1, none⟩ = some (.string v) := two_new hbl rfl; have hz2 : w.heap.size < w2.heap.size := (by have := lt_of_cell hC.h4; omega); have HC := Lib.hid (And.intro hC (And.intro hO (And.intro hob hbl))); clear hC hO hob hbl hb ho))) | (go_at_call 111; refine (rep33_any _ _ _ _ HC.out.1 HC.out.2.1 HC.out.2.2.1 v (esc v) (fun W t g10 c10 g92 c92 tv Z T => bsr_any W _ t g10 c10 g92 c92 tv Z T v hmax)).mono ?_; rintro e w3 ⟨rfl, q1, q2, q3, q4, q5⟩; have j0 : w3.cell? ⟨w.heap.size, 0, none⟩ = some (.string n) := ((World.cell?_of_block (q2 w.heap.size hz2 (by omega))).trans k0); have j1 : w3.cell? ⟨w.heap.size, 1, none⟩ = some (.string v) := ((World.cell?_of_block (q2 w.heap.size hz2 (by omega))).trans k1); have HQ := Lib.hid (And.intro q1 (And.intro q2 (And.intro q3 (And.intro q4 q5)))); clear q1 q2 q3 q4 q5))
  all_goals
    go_wp2
    go_ret
    have hB : Below w.heap.size w w2 := (Go.Sup.below_drewN (((Below.refl _ _).alloc (Nat.le_refl _) _).alloc (by simp) _) 1).trans (HC.out.2.2.2.mono (by simp [World.drew]; omega))
    obtain ⟨q1, q2, q3, q4, q5⟩ := HQ.out
    refine ⟨?_, q3.trans hB.os, q4.trans hB.tape, q5.trans hB.output, Nat.le_trans hB.size q1, fun j hj => (q2 j (by omega) (by omega)).trans (hB.block j hj)⟩
    rw [← HE.out]; rfl
end Go.Proofs.YtlffpelkmdcckaaGreatDoor
