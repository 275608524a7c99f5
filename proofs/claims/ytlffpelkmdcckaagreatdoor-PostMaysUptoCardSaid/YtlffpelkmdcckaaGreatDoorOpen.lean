/- Arguments opened as rows of cells; what a law that returns true and writes nothing that was there owes (plain). -/
import Derived.Test.YtlffpelkmdcckaaGreatDoorMem
import Derived.ProofKit
import Derived.OpenShut
import Derived.Deep.Slices
import Derived.Deep.Fields
import Derived.Carry
import Derived.ChangeArms
namespace Go.Sup
open Go Go.RowKit Go.ChangeShapes Go.WideShapes Go.Deep
section
variable {H : Type} {enc : TypeId × Value → H} {P : Program} {w : World} {base : Nat} {spare : Nat → Bool} {held : Bool}
/-- Data behind each of the first n numbers: as a list. -/
theorem list_of_ex {α : Type} {Q : Nat → α → Prop} : ∀ n : Nat, (∀ i, i < n → ∃ a, Q i a) → ∃ l : List α, l.length = n ∧ ∀ i a, l[i]? = some a → Q i a
  | 0, _ => ⟨[], rfl, by simp⟩
  | n + 1, h => by
    obtain ⟨l, hl, hq⟩ := list_of_ex n fun i hi => h i (by omega)
    obtain ⟨a, ha⟩ := h n (by omega)
    refine ⟨l ++ [a], by simp [hl], fun i b hb => ?_⟩
    rcases Nat.lt_or_ge i n with hi | hi
    · rw [List.getElem?_append_left (by omega)] at hb; exact hq i b hb
    · have : i = n := by
        have := (List.getElem?_eq_some_iff.1 hb).1
        simp at this; omega
      subst this
      rw [List.getElem?_append_right (by omega)] at hb
      simp [hl] at hb
      subst hb; exact ha
/-- Rows that are all of one form. -/
theorem rows_map {α : Type} {row : α → List Value} {Ok : α → Prop} : ∀ rows : List (List Value), (∀ r ∈ rows, ∃ m, r = row m ∧ Ok m) → ∃ ms : List α, rows = ms.map row ∧ ∀ m ∈ ms, Ok m
  | [], _ => ⟨[], rfl, by simp⟩
  | r :: rows, h => by
    obtain ⟨m, e, hm⟩ := h r (by simp)
    obtain ⟨ms, e2, hms⟩ := rows_map rows fun r hr => h r (by simp [hr])
    refine ⟨m :: ms, by simp [e, e2], fun x hx => ?_⟩
    simp at hx
    rcases hx with rfl | hx
    · exact hm
    · exact hms x hx
theorem cell_plain {w : World} {a : Addr} {v : Value} (h : w.cell? a = some v) : ∃ b o, a = ⟨b, o, none⟩ ∧ b < w.heap.size := by
  obtain ⟨b, o, sp⟩ := a
  unfold World.cell? at h
  split at h
  · rename_i c e f hb
    have hlt := (Array.getElem?_eq_some_iff.1 hb).1
    cases sp with
    | none => exact ⟨b, o, rfl, hlt⟩
    | some s => simp at h
  · cases h
theorem SlC.of_cells {a : Addr} {len cap size : Nat} {rows : List (List Value)} (hl : len ≤ cap) (hm : cap ≤ maxLen) (hn : rows.length = len) (pos : 0 < size) (hr : ∀ r ∈ rows, r.length = size)
    (hc : ∀ i r, rows[i]? = some r → ∀ j u, r[j]? = some u → w.cell? (a.add (i * size + j)) = some u) : SlC w w.heap.size size rows (.slice (some a) len cap) := by
  subst hn
  refine ⟨some a, cap, rfl, hl, hm, fun h0 => ?_⟩
  have h1 : rows[0]? = some rows[0] := List.getElem?_eq_getElem h0
  have hl0 := hr _ (List.getElem_mem h0)
  have h2 := hc 0 _ h1 0 (rows[0][0]'(by omega)) (List.getElem?_eq_getElem _)
  rw [show 0 * size + 0 = 0 by omega, show a.add 0 = a by unfold Addr.add; simp] at h2
  obtain ⟨b, o, rfl, hb⟩ := cell_plain h2
  refine ⟨b, o, rfl, hb, fun k r hk j u hu => ?_⟩
  have := hc k r hk j u hu
  rwa [add_at, ← Nat.add_assoc] at this
/-- A slice of anything, opened: its elements' cells as rows, each of which reads as data. -/
theorem open_rows {t e : TypeId} {size : Nat} {a : Option Addr} {len cap : Nat} {d : DataW H} {p : List MemPlace} (ht : P.underlying t = some (.slice e)) (hC : P.cellsOf e = size) (pos : 0 < size) (h : DataW.Trod enc P w base (fun _ => true) held t (.slice a len cap) d p) :
    ∃ rows : List (List Value), SlC w w.heap.size size rows (.slice a len cap) ∧ ∀ r ∈ rows, r.length = size ∧ ∃ n x, DataW.trod enc P w base (fun _ => true) held n e r = some x := by
  obtain ⟨fuel, hf⟩ := h
  rcases open_slice ht hf with ⟨hcs, _⟩ | ⟨x, l, c, m, n, D, Pl, hcs, _, hl, hm, hmm, _, hi⟩
  · simp [Value.cells] at hcs
    obtain ⟨rfl, rfl, rfl⟩ := hcs
    exact ⟨[], SlC.nil_ _ _ _, by simp⟩
  · simp [Value.cells] at hcs
    obtain ⟨rfl, rfl, rfl⟩ := hcs
    simp at hmm
    rw [hC] at hi
    obtain ⟨rows, hrl, hq⟩ := list_of_ex (Q := fun i (r : List Value) => r.length = size ∧ (∀ j u, r[j]? = some u → w.cell? (x.add (i * size + j)) = some u) ∧ ∃ n y, DataW.trod enc P w base (fun _ => true) held n e r = some y) len (fun i hil => by
      obtain ⟨cs', hc, htr⟩ := hi i (by omega)
      obtain ⟨_, hcl, hat⟩ := World.cells?_some hc
      refine ⟨cs', hcl, fun j u hu => ?_, _, _, htr⟩
      have hj : j < size := by rw [← hcl]; exact (List.getElem?_eq_some_iff.1 hu).1
      have := hat j hj
      rw [← Go.Deep.add_add, this, hu])
    have hall : ∀ r ∈ rows, r.length = size ∧ ∃ n x, DataW.trod enc P w base (fun _ => true) held n e r = some x := fun r hr => by
      obtain ⟨i, hi'⟩ := List.getElem?_of_mem hr
      obtain ⟨h1, _, h3⟩ := hq i r hi'
      exact ⟨h1, h3⟩
    exact ⟨rows, SlC.of_cells hl hm hrl pos (fun r hr => (hall r hr).1) (fun i r hr => (hq i r hr).2.1), hall⟩
/-- The fields of a row that reads as a struct of one-cell fields. -/
theorem row_fields {e : TypeId} {fs : Array Field} {n : Nat} {r : List Value} {x : DataW H × List MemPlace} (he : P.underlying e = some (.struct fs)) (hone : oneCellFields P fs = true) (hl : r.length = fs.size)
    (h : DataW.trod enc P w base spare held n e r = some x) : ∀ (j : Nat) (f : Field), fs[j]? = some f → ∃ (u : Value) (y : DataW H × List MemPlace) (n' : Nat), r[j]? = some u ∧ DataW.trod enc P w base spare held n' f.type [u] = some y := by
  intro j f hj
  obtain ⟨ys, n', hn', hy, hlen, hyl, hf⟩ := DataW.trod_struct he h
  obtain ⟨ho, hk⟩ := hone_of hone j f hj
  have hjl : j < fs.size := (Array.getElem?_eq_some_iff.1 hj).1
  have h1 := hf j f hj
  rw [ho, hk] at h1
  have hone' : (r.drop j).take 1 = [r[j]'(by omega)] := by
    rw [List.drop_eq_getElem_cons (by omega)]
    rfl
  rw [hone'] at h1
  have hys : ys[j]? = some (ys[j]'(by omega)) := List.getElem?_eq_getElem (by omega)
  exact ⟨_, _, _, List.getElem?_eq_getElem (by omega), h1.trans hys⟩

theorem trodAll_below (hl : laidOutB P = true) {W W' : World} (hb : Below W.heap.size W W') : ∀ {ts : List TypeId} {vs : List Value} {ds : List (DataW H)} {ps : List MemPlace}, (∀ t ∈ ts, P.readableRec t = true ∧ t < P.types.size) →
    DataW.TrodAll enc P W 0 (fun _ => true) true ts vs ds ps → (∀ p ∈ ps, p.block < W.heap.size) → DataW.TrodAll enc P W' 0 (fun b => decide (b < W.heap.size)) true ts vs ds ps
  | [], [], [], _, _, h, _ => h
  | _ :: _, _ :: _, _ :: _, _, hT, ⟨p, q, h1, h2, e⟩, hs =>
    ⟨p, q, Below.trod hl (hT _ (by simp)).1 (hT _ (by simp)).2 h1 hb (fun x hx => hs x (by rw [e]; exact List.mem_append_left _ hx)),
      trodAll_below hl hb (fun t ht => hT t (by simp [ht])) h2 (fun x hx => hs x (by rw [e]; exact List.mem_append_right _ hx)), e⟩
/-- The row's last step: true is returned, and nothing that was there has turned. -/
theorem post_true {f : Func} {s : ChangeSpec} {tb : TypeId} (hl : laidOutB P = true) (hvars : s.vars = []) (hres : f.resultTypes = #[tb]) (htb : P.underlying tb = some .bool) (hT : ∀ t ∈ f.params.toList, P.readableRec t = true ∧ t < P.types.size)
    {W W' : World} {args : Array Value} {ds gs : List (DataW H)} {before : List MemPlace} (hW : DataW.Whole enc P f.params.toList s.vars false W args.toList ds gs before)
    (hfn : s.fn H ds = { results := [.lit (.bool true)], args := ds }) (hb : Below W.heap.size W W') : s.post enc P f false true false false W args (.bool true) W' := by
  have hW' := hW
  obtain ⟨p, q, hA, hV, rfl, hfz, hnd⟩ := hW
  rw [hvars] at hV
  obtain ⟨rfl, rfl⟩ := trodVars_none hV
  have hlt : ∀ x ∈ p, x.block < W.heap.size := fun x hx => hW'.lt x (by simp [hx])
  refine ⟨ds, [], p ++ [], [], p, [], hW', ?_, ?_, ?_, hb.frame _, fun h => by cases h⟩
  · rw [List.append_nil, hfn, hres]
    exact trodAll_mk1 (shut_bool htb true)
  · rw [List.append_nil, hfn]
    exact trodAll_below hl hb hT hA hlt
  · rw [List.append_nil, hfn, hvars]; rfl
end
end Go.Sup
