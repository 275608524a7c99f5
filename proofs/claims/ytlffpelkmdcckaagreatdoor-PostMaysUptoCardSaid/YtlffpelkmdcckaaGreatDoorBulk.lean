/- Arguments opened as rows of cells, with the bulk of what they read as (for an Upto form). -/
import Derived.Test.YtlffpelkmdcckaaGreatDoorRows
import Derived.Test.YtlffpelkmdcckaaGreatDoorOpen
namespace Go.Proofs.YtlffpelkmdcckaaGreatDoor
open Go Go.RowKit Go.ChangeShapes Go.WideShapes Go.Deep Go.Sup
section
variable {H : Type} {enc : TypeId × Value → H} {P : Program} {w : World} {base : Nat} {spare : Nat → Bool} {held : Bool}
theorem bulk_app (l r : List (DataW H)) : Rows.uptoBulkAll (l ++ r) = Rows.uptoBulkAll l + Rows.uptoBulkAll r := by
  induction l with
  | nil => simp [Rows.uptoBulkAll]
  | cons x l ih => simp only [List.cons_append, Rows.uptoBulkAll, ih]; omega
theorem bulk_str (s : ByteArray) : s.size ≤ Rows.uptoBulk (DataW.lit (H := H) (.string s.data.toList)) := by
  have e : s.data.toList.length = s.size := Array.length_toList
  simp only [Rows.uptoBulk]
  omega
/-- A slice of anything, opened: its elements' cells as rows, and what each reads as. -/
theorem open_rowsB {t e : TypeId} {size : Nat} {a : Option Addr} {len cap : Nat} {d : DataW H} {p : List MemPlace} {fuel : Nat} (ht : P.underlying t = some (.slice e)) (hC : P.cellsOf e = size) (pos : 0 < size) (h : DataW.trod enc P w base (fun _ => true) held fuel t [.slice a len cap] = some (d, p)) :
    ∃ (rows : List (List Value)) (es : List (DataW H)), SlC w w.heap.size size rows (.slice a len cap) ∧ es.length = rows.length ∧ Rows.uptoBulkAll es + 1 ≤ Rows.uptoBulk d ∧
      ∀ (i : Nat) r y, rows[i]? = some r → es[i]? = some y → r.length = size ∧ ∃ n q, DataW.trod enc P w base (fun _ => true) held n e r = some (y, q) := by
  rcases open_slice ht h with ⟨hcs, hx⟩ | ⟨x, l, c, m, n, D, Pl, hcs, _, hl, hm, hmm, hx, hi⟩
  · simp at hcs
    obtain ⟨rfl, rfl, rfl⟩ := hcs
    obtain ⟨rfl, rfl⟩ := Prod.mk.inj hx
    exact ⟨[], [], SlC.nil_ _ _ _, rfl, by simp [Rows.uptoBulkAll, Rows.uptoBulk], by simp⟩
  · simp at hcs
    obtain ⟨rfl, rfl, rfl⟩ := hcs
    simp at hmm
    rw [hC] at hi
    obtain ⟨rfl, -⟩ := Prod.mk.inj hx
    obtain ⟨rows, hrl, hq⟩ := list_of_ex (Q := fun i (r : List Value) => r.length = size ∧ (∀ j u, r[j]? = some u → w.cell? (x.add (i * size + j)) = some u) ∧ DataW.trod enc P w base (fun _ => true) held n e r = some (D i, Pl i)) len (fun i hil => by
      obtain ⟨cs', hc, htr⟩ := hi i (by omega)
      obtain ⟨_, hcl, hat⟩ := World.cells?_some hc
      refine ⟨cs', hcl, fun j u hu => ?_, htr⟩
      have hj : j < size := by rw [← hcl]; exact (List.getElem?_eq_some_iff.1 hu).1
      have := hat j hj
      rw [← Go.Deep.add_add, this, hu])
    refine ⟨rows, (List.range len).map D, SlC.of_cells hl hm hrl pos (fun r hr => ?_) (fun i r hr => (hq i r hr).2.1), by simp [hrl], by simp only [Rows.uptoBulk]; omega, fun i r y hr hy => ?_⟩
    · obtain ⟨i, hi'⟩ := List.getElem?_of_mem hr
      exact (hq i r hi').1
    · obtain ⟨h1, _, h3⟩ := hq i r hr
      rw [List.getElem?_map] at hy
      have hil : i < len := by rw [← hrl]; exact (List.getElem?_eq_some_iff.1 hr).1
      rw [List.getElem?_range hil] at hy
      simp at hy
      subst hy
      exact ⟨h1, _, _, h3⟩
/-- Rows that are all of one form. -/
theorem rows_mapB {α : Type} {row : α → List Value} {bulk : α → Nat} {Ok : α → Prop} : ∀ (rows : List (List Value)) (es : List (DataW H)), es.length = rows.length → (∀ (i : Nat) r y, rows[i]? = some r → es[i]? = some y → ∃ m, r = row m ∧ bulk m ≤ Rows.uptoBulk y ∧ Ok m) →
    ∃ ms : List α, rows = ms.map row ∧ (ms.map bulk).sum ≤ Rows.uptoBulkAll es ∧ ∀ m ∈ ms, Ok m
  | [], [], _, _ => ⟨[], rfl, by simp, by simp⟩
  | [], _ :: _, h, _ => by simp at h
  | _ :: _, [], h, _ => by simp at h
  | r :: rows, y :: es, hl, h => by
    obtain ⟨m, e, hb, hm⟩ := h 0 r y rfl rfl
    obtain ⟨ms, e2, hb2, hms⟩ := rows_mapB rows es (by simpa using hl) fun i r y hr hy => h (i + 1) r y (by simpa using hr) (by simpa using hy)
    refine ⟨m :: ms, by simp [e, e2], by simp only [List.map_cons, List.sum_cons, Rows.uptoBulkAll]; omega, fun x hx => ?_⟩
    simp at hx
    rcases hx with rfl | hx
    · exact hm
    · exact hms x hx
/-- The fields of a row that reads as a struct of one-cell fields, and what it reads as. -/
theorem row_fieldsB {e : TypeId} {fs : Array Field} {n : Nat} {r : List Value} {x : DataW H × List MemPlace} (he : P.underlying e = some (.struct fs)) (hone : oneCellFields P fs = true) (hl : r.length = fs.size)
    (h : DataW.trod enc P w base spare held n e r = some x) : ∃ ys : List (DataW H × List MemPlace), x.1 = .agg (ys.map (·.1)) ∧ ys.length = fs.size ∧ ∀ (j : Nat) (f : Field), fs[j]? = some f → ∃ (u : Value) (y : DataW H × List MemPlace) (n' : Nat), r[j]? = some u ∧ ys[j]? = some y ∧ DataW.trod enc P w base spare held n' f.type [u] = some y := by
  obtain ⟨ys, n', hn', hy, hlen, hyl, hf⟩ := DataW.trod_struct he h
  refine ⟨ys, by rw [hy], hyl, fun j f hj => ?_⟩
  obtain ⟨ho, hk⟩ := hone_of hone j f hj
  have hjl : j < fs.size := (Array.getElem?_eq_some_iff.1 hj).1
  have h1 := hf j f hj
  rw [ho, hk] at h1
  have hone' : (r.drop j).take 1 = [r[j]'(by omega)] := by
    rw [List.drop_eq_getElem_cons (by omega)]
    rfl
  rw [hone'] at h1
  have hys : ys[j]? = some (ys[j]'(by omega)) := List.getElem?_eq_getElem (by omega)
  exact ⟨_, _, _, List.getElem?_eq_getElem (by omega), hys, h1.trans hys⟩
end
end Go.Proofs.YtlffpelkmdcckaaGreatDoor
