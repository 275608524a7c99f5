/- Plain lemmas on maps of the model: a block that is a map with a list of entries; look-up, store, range. No program is in sight. -/
import Derived.Test.YtmjkkmfjpppehaaDoorMem
import Derived.Maps.Own
import Derived.Maps.OwnOps
import Derived.Laws.IdiomRangeMap
import Derived.Maps.OwnSet
import Derived.Maps.RangeWalk
namespace Go.Sup
set_option linter.unusedSectionVars false
open Go.RowKit

section
variable {κ β : Type} [DecidableEq κ]

/-! ### lists of pairs -/
def getL (l : List (κ × β)) (x : κ) : Option β := (l.find? fun p => decide (p.1 = x)).map (·.2)
def putL (l : List (κ × β)) (x : κ) (v : β) : List (κ × β) := if l.any (fun p => decide (p.1 = x)) then l.map (fun p => if p.1 = x then (x, v) else p) else l ++ [(x, v)]
def delL (l : List (κ × β)) (x : κ) : List (κ × β) := l.filter fun p => !decide (p.1 = x)

theorem getL_nil (x : κ) : getL ([] : List (κ × β)) x = none := rfl
theorem getL_cons (p : κ × β) (l : List (κ × β)) (x : κ) : getL (p :: l) x = if p.1 = x then some p.2 else getL l x := by
  unfold getL
  rw [List.find?_cons]
  by_cases h : p.1 = x <;> simp [h]
theorem getL_none {l : List (κ × β)} {x : κ} (h : ∀ p ∈ l, p.1 ≠ x) : getL l x = none := by
  induction l with
  | nil => rfl
  | cons p l ih => rw [getL_cons, if_neg (h p (by simp)), ih (fun q hq => h q (by simp [hq]))]
theorem getL_none_iff {l : List (κ × β)} {x : κ} : getL l x = none ↔ ∀ p ∈ l, p.1 ≠ x := by
  refine ⟨fun h => ?_, getL_none⟩
  induction l with
  | nil => simp
  | cons p l ih =>
    rw [getL_cons] at h
    by_cases hp : p.1 = x
    · rw [if_pos hp] at h; cases h
    · rw [if_neg hp] at h
      intro q hq
      rcases List.mem_cons.1 hq with rfl | hq
      · exact hp
      · exact ih h q hq
theorem getL_mem {l : List (κ × β)} {x : κ} {v : β} (h : getL l x = some v) : (x, v) ∈ l := by
  induction l with
  | nil => cases h
  | cons p l ih =>
    rw [getL_cons] at h
    by_cases hp : p.1 = x
    · rw [if_pos hp] at h
      cases h
      subst hp
      simp
    · rw [if_neg hp] at h
      exact List.mem_cons_of_mem _ (ih h)
theorem getL_at {l : List (κ × β)} (hn : (l.map (·.1)).Nodup) {j : Nat} {x : κ} {v : β} (h : l[j]? = some (x, v)) : getL l x = some v := by
  induction l generalizing j with
  | nil => simp at h
  | cons p l ih =>
    rw [List.map_cons, List.nodup_cons] at hn
    rw [getL_cons]
    cases j with
    | zero => simp at h; subst h; simp
    | succ j =>
      simp at h
      have hx : p.1 ≠ x := fun e => hn.1 (by rw [e]; exact List.mem_map.2 ⟨(x, v), List.mem_of_getElem? h, rfl⟩)
      rw [if_neg hx]
      exact ih hn.2 h
theorem getL_of_mem {l : List (κ × β)} (hn : (l.map (·.1)).Nodup) {x : κ} {v : β} (h : (x, v) ∈ l) : getL l x = some v := by
  obtain ⟨j, hj⟩ := List.getElem?_of_mem h
  exact getL_at hn hj
theorem putL_new {l : List (κ × β)} {x : κ} (v : β) (h : ∀ p ∈ l, p.1 ≠ x) : putL l x v = l ++ [(x, v)] := by
  unfold putL
  rw [if_neg]
  simp only [List.any_eq_true, decide_eq_true_eq, not_exists, not_and]
  exact fun p hp => h p hp
theorem set_eq_map {l : List (κ × β)} (hn : (l.map (·.1)).Nodup) {j : Nat} {x : κ} {u : β} (v : β) (h : l[j]? = some (x, u)) : l.set j (x, v) = l.map (fun p => if p.1 = x then (x, v) else p) := by
  induction l generalizing j with
  | nil => simp at h
  | cons p l ih =>
    rw [List.map_cons, List.nodup_cons] at hn
    cases j with
    | zero =>
      simp at h
      subst h
      have : l.map (fun p => if p.1 = x then (x, v) else p) = l := by
        conv => rhs; rw [← List.map_id l]
        refine List.map_congr_left fun q hq => ?_
        have : q.1 ≠ x := fun e => hn.1 (List.mem_map.2 ⟨q, hq, e⟩)
        simp [this]
      simp [this]
    | succ j =>
      simp at h
      have hx : p.1 ≠ x := fun e => hn.1 (by rw [e]; exact List.mem_map.2 ⟨(x, u), List.mem_of_getElem? h, rfl⟩)
      simp [hx, ih hn.2 h]
theorem putL_set {l : List (κ × β)} (hn : (l.map (·.1)).Nodup) {j : Nat} {x : κ} {u : β} (v : β) (h : l[j]? = some (x, u)) : putL l x v = l.set j (x, v) := by
  unfold putL
  rw [if_pos (by simp only [List.any_eq_true, decide_eq_true_eq]; exact ⟨_, List.mem_of_getElem? h, rfl⟩), set_eq_map hn v h]
theorem putL_keys {l : List (κ × β)} {x : κ} (v : β) : (putL l x v).map (·.1) = if l.any (fun p => decide (p.1 = x)) then l.map (·.1) else l.map (·.1) ++ [x] := by
  unfold putL
  split
  · rw [List.map_map]
    refine List.map_congr_left fun q hq => ?_
    by_cases h : q.1 = x <;> simp [h]
  · simp
theorem putL_nodup {l : List (κ × β)} (hn : (l.map (·.1)).Nodup) (x : κ) (v : β) : ((putL l x v).map (·.1)).Nodup := by
  rw [putL_keys]
  split
  · exact hn
  · rename_i h
    rw [List.nodup_append]
    refine ⟨hn, by simp, fun a ha b hb => ?_⟩
    simp at hb
    subst hb
    intro e
    subst e
    obtain ⟨q, hq, e⟩ := List.mem_map.1 ha
    exact h (List.any_eq_true.2 ⟨q, hq, by simp [e]⟩)
theorem putL_mem {l : List (κ × β)} {x : κ} {v : β} {p : κ × β} (h : p ∈ putL l x v) : p ∈ l ∨ p = (x, v) := by
  unfold putL at h
  split at h
  · obtain ⟨q, hq, e⟩ := List.mem_map.1 h
    by_cases hx : q.1 = x
    · rw [if_pos hx] at e; exact .inr e.symm
    · rw [if_neg hx] at e; exact .inl (e ▸ hq)
  · simpa using h
theorem getL_app (l : List (κ × β)) (x y : κ) (v : β) (h : ∀ p ∈ l, p.1 ≠ x) : getL (l ++ [(x, v)]) y = if x = y then some v else getL l y := by
  induction l with
  | nil => rw [List.nil_append, getL_cons, getL_nil]
  | cons p l ih =>
    have hp : p.1 ≠ x := h p (by simp)
    rw [List.cons_append, getL_cons, getL_cons, ih (fun q hq => h q (by simp [hq]))]
    by_cases hy : p.1 = y
    · rw [if_pos hy, if_pos hy, if_neg (by intro e; exact hp (by rw [hy, e]))]
    · rw [if_neg hy, if_neg hy]
theorem getL_rep (l : List (κ × β)) (x y : κ) (v : β) : getL (l.map (fun p => if p.1 = x then (x, v) else p)) y = if x = y then (getL l x).map (fun _ => v) else getL l y := by
  induction l with
  | nil => simp [getL_nil]
  | cons p l ih =>
    rw [List.map_cons, getL_cons, ih]
    by_cases hp : p.1 = x
    · by_cases hy : x = y
      · simp [hp, hy, getL_cons]
      · have h3 : ¬ p.1 = y := fun e => hy (by rw [← hp, e])
        simp [hp, hy, getL_cons]
    · by_cases hy : x = y
      · subst hy
        simp [hp, getL_cons]
      · simp [hp, hy, getL_cons]
theorem any_key {l : List (κ × β)} {x : κ} : l.any (fun p => decide (p.1 = x)) = (getL l x).isSome := by
  induction l with
  | nil => rfl
  | cons p l ih => rw [List.any_cons, ih, getL_cons]; by_cases h : p.1 = x <;> simp [h]
theorem getL_putL (l : List (κ × β)) (x y : κ) (v : β) : getL (putL l x v) y = if x = y then some v else getL l y := by
  unfold putL
  by_cases h : l.any (fun p => decide (p.1 = x)) = true
  · rw [if_pos h, getL_rep]
    by_cases hy : x = y
    · rw [any_key] at h
      obtain ⟨u, hu⟩ := Option.isSome_iff_exists.1 h
      rw [if_pos hy, if_pos hy, hu]; rfl
    · rw [if_neg hy, if_neg hy]
  · rw [if_neg h, getL_app]
    intro p hp e
    exact h (List.any_eq_true.2 ⟨p, hp, by simp [e]⟩)

/-! ### a block that is a map -/
/-- How keys of type k stand as values. -/
structure KeyEnc (P : Program) (k : TypeId) (encK : κ → Value) (ok : κ → Prop) : Prop where
  keyed : Maps.Keyed P k
  key : ∀ x, ok x → ∃ l, keyOf P k (encK x) = some l
  inj : ∀ x y, encK x = encK y → x = y

/-- Block b of w is a map whose entries are l, in order. -/
def MapOf (encK : κ → Value) (encV : β → Value) (ok : κ → Prop) (w : World) (b : Nat) (l : List (κ × β)) : Prop :=
  ∃ es clock, w.heap[b]? = some (.map es clock) ∧ es.toList.map (fun e => (e.key, e.val)) = l.map (fun p => (encK p.1, encV p.2)) ∧ (l.map (·.1)).Nodup ∧ (∀ p ∈ l, ok p.1) ∧
    (es.toList.map (·.born)).Nodup ∧ ∀ e ∈ es.toList, e.born < clock

/-- Only block b has turned. -/
structure OnlyB (w w' : World) (b : Nat) : Prop where
  os : w'.os = w.os
  tape : w'.tape = w.tape
  output : w'.output = w.output
  size : w'.heap.size = w.heap.size
  block : ∀ i, i ≠ b → w'.heap[i]? = w.heap[i]?

section
variable {P : Program} {k e t : TypeId} {encK : κ → Value} {encV : β → Value} {ok : κ → Prop} {w w' : World} {b : Nat} {l : List (κ × β)}

theorem MapOf.keep (h : MapOf encK encV ok w b l) (hb : w'.heap[b]? = w.heap[b]?) : MapOf encK encV ok w' b l := by
  obtain ⟨es, clock, h0, r⟩ := h
  exact ⟨es, clock, hb.trans h0, r⟩
theorem MapOf.lt (h : MapOf encK encV ok w b l) : b < w.heap.size := by
  obtain ⟨es, clock, h0, r⟩ := h
  exact (Array.getElem?_eq_some_iff.1 h0).1
theorem MapOf.alloc (h : MapOf encK encV ok w b l) (o : Obj) : MapOf encK encV ok (w.alloc o) b l := h.keep (Below.heap_alloc w o b h.lt)
theorem MapOf.drew (h : MapOf encK encV ok w b l) : MapOf encK encV ok w.drew b l := h
theorem MapOf.drewN (h : MapOf encK encV ok w b l) (n : Nat) : MapOf encK encV ok (w.drewN n) b l := h
theorem MapOf.below {B : Nat} (h : MapOf encK encV ok w b l) (hb : Below B w w') (hB : b < B) : MapOf encK encV ok w' b l := h.keep (hb.block b hB)
theorem MapOf.only {c : Nat} (h : MapOf encK encV ok w b l) (ho : OnlyB w w' c) (hc : b ≠ c) : MapOf encK encV ok w' b l := h.keep (ho.block b hc)
theorem MapOf.setCell (h : MapOf encK encV ok w b l) (p : Addr) (u : Value) : MapOf encK encV ok (w.setCell p u) b l := by
  by_cases hp : b = p.block
  · obtain ⟨es, clock, h0, r⟩ := h
    refine ⟨es, clock, ?_, r⟩
    simp only [World.setCell, Array.getElem?_modify]
    rw [if_pos hp.symm, h0]; rfl
  · exact h.keep (Below.heap_setCell w p u b hp)
theorem MapOf.made (w : World) : MapOf encK encV ok (w.alloc (.map #[] 0)) w.heap.size ([] : List (κ × β)) :=
  ⟨#[], 0, heap_alloc_new w _, by simp, by simp, by simp, by simp, by simp⟩

theorem OnlyB.cell {p : Addr} (ho : OnlyB w w' b) (hp : p.block ≠ b) : w'.cell? p = w.cell? p := World.cell?_of_block (ho.block _ hp)
theorem OnlyB.frozen {p : Addr} (ho : OnlyB w w' b) (hp : p.block ≠ b) : w'.frozen? p = w.frozen? p := World.frozen?_of_block (ho.block _ hp)
theorem OnlyB.below {B : Nat} (ho : OnlyB w w' b) (hB : B ≤ b) : Below B w w' := ⟨ho.os, ho.tape, ho.output, by rw [ho.size]; exact Nat.le_refl _, fun i hi => ho.block i (by omega)⟩

theorem MapOf.find (h : MapOf encK encV ok w b l) (K : KeyEnc P k encK ok) {es : Array MapEntry} {clock : Nat} (h0 : w.heap[b]? = some (.map es clock)) (x : κ) (hx : ok x) (W : World) :
    ((∀ p ∈ l, p.1 ≠ x) ∧ (Instr.findKey k (encK x) es.toList).run P W = .ok none W) ∨
    ∃ j v, l[j]? = some (x, v) ∧ (Instr.findKey k (encK x) es.toList).run P W = .ok (some (j, encV v)) W ∧ ∃ en, es.toList[j]? = some en ∧ en.key = encK x := by
  obtain ⟨es', clock', h0', hl, hn, ho, _⟩ := h
  rw [h0] at h0'
  injection h0' with h0'
  injection h0' with h1 h2
  subst h1
  obtain ⟨lx, hlx⟩ := K.key x hx
  have hall : ∀ en ∈ es.toList, ∃ l, keyOf P k en.key = some l := by
    intro en hen
    have : (en.key, en.val) ∈ l.map (fun p => (encK p.1, encV p.2)) := by rw [← hl]; exact List.mem_map.2 ⟨en, hen, rfl⟩
    obtain ⟨p, hp, e⟩ := List.mem_map.1 this
    injection e with e1 e2
    rw [← e1]
    exact K.key _ (ho p hp)
  rcases K.keyed.find W hlx es.toList hall with ⟨hr, hne⟩ | ⟨j, en, hr, hj, hk⟩
  · refine .inl ⟨fun p hp e => ?_, hr⟩
    have : (encK p.1, encV p.2) ∈ es.toList.map (fun e => (e.key, e.val)) := by rw [hl]; exact List.mem_map.2 ⟨p, hp, rfl⟩
    obtain ⟨en, hen, e2⟩ := List.mem_map.1 this
    injection e2 with e3 e4
    exact hne en hen (by rw [e3, e])
  · have h1 : (es.toList.map (fun e => (e.key, e.val)))[j]? = some (en.key, en.val) := by rw [List.getElem?_map, hj]; rfl
    rw [hl, List.getElem?_map] at h1
    obtain ⟨p, hp, e2⟩ := Option.map_eq_some_iff.1 h1
    injection e2 with e3 e4
    have : p.1 = x := K.inj _ _ (by rw [e3, hk])
    refine .inr ⟨j, p.2, by rw [hp, ← this], by rw [hr, e4], en, hj, hk⟩

theorem run_getObj_map' {es : Array MapEntry} {clock : Nat} (h0 : w.heap[b]? = some (.map es clock)) : (getObj b).run P w = .ok (.map es clock) w := MapKept.run_getObj_map h0

/-- 'm[k]', with 'ok' or without. -/
theorem MapOf.lookup (h : MapOf encK encV ok w b l) (K : KeyEnc P k encK ok) (ht : P.underlying t = some (.map k e)) {z : Value} (hz : (zeroValue e).run P w = .ok z w) (x : κ) (hx : ok x) (c : Bool) :
    (Instr.lookup t (.map (some b)) (encK x) c).run P w = .ok (if c then .tuple #[((getL l x).map encV).getD z, .bool (getL l x).isSome] else ((getL l x).map encV).getD z) w := by
  obtain ⟨es, clock, h0, hl, hn, ho, hb⟩ := id h
  obtain ⟨lx, hlx⟩ := K.key x hx
  have hc := K.keyed.check w es.isEmpty hlx
  unfold Instr.lookup
  rcases h.find K h0 x hx w with ⟨hne, hr⟩ | ⟨j, v, hj, hr, _⟩
  · simp [run_underlying ht, run_getObj_map' h0, hc, hr, hz, getL_none hne]
  · simp [run_underlying ht, run_getObj_map' h0, hc, hr, getL_at hn hj]

/-- The world with another object in block b. -/
def putObj (w : World) (b : Nat) (o : Obj) : World := { w with heap := w.heap.setIfInBounds b o }
theorem putObj_same (hlt : b < w.heap.size) (o : Obj) : (putObj w b o).heap[b]? = some o := by simp [putObj, hlt]
theorem putObj_only (w : World) (b : Nat) (o : Obj) : OnlyB w (putObj w b o) b := ⟨rfl, rfl, rfl, by simp [putObj], fun i hi => by simp [putObj, Ne.symm hi]⟩
theorem run_setObj_map' {es : Array MapEntry} {clock : Nat} (o : Obj) (h0 : w.heap[b]? = some (.map es clock)) : (setObj b o).run P w = .ok () (putObj w b o) := MapKept.run_setObj_map o h0

theorem map_modify {α γ : Type} (f : α → γ) (g : α → α) (g' : γ → γ) (h : ∀ a, f (g a) = g' (f a)) : ∀ (l : List α) (j : Nat), (l.modify j g).map f = (l.map f).modify j g' := by
  intro l
  induction l with
  | nil => intro j; cases j <;> simp
  | cons a l ih => intro j; cases j <;> simp [h, ih]
theorem modify_set {α : Type} : ∀ (l : List α) (j : Nat) (a b : α) (g : α → α), l[j]? = some a → g a = b → l.modify j g = l.set j b := by
  intro l
  induction l with
  | nil => intro j a b g h; simp at h
  | cons x l ih =>
    intro j a b g h hg
    cases j with
    | zero => simp at h; subst h; simp [hg]
    | succ j => simp at h; simp [ih j a b g h hg]

theorem set_self {α : Type} : ∀ (l : List α) (j : Nat) (a : α), l[j]? = some a → l.set j a = l := by
  intro l
  induction l with
  | nil => intro j a h; simp at h
  | cons x l ih =>
    intro j a h
    cases j with
    | zero => simp at h; subst h; rfl
    | succ j => simp at h; simp [ih j a h]

/-- A store at a key, into entries as a list. -/
theorem store_found {es : Array MapEntry} {x : κ} {v u : β} {j : Nat} (hl : es.toList.map (fun e => (e.key, e.val)) = l.map (fun p => (encK p.1, encV p.2))) (hn : (l.map (·.1)).Nodup) (hj : l[j]? = some (x, u)) :
    (es.modify j fun e => { e with key := encK x, val := encV v }).toList.map (fun e => (e.key, e.val)) = (putL l x v).map (fun p => (encK p.1, encV p.2)) := by
  rw [Array.toList_modify, map_modify (fun e : MapEntry => (e.key, e.val)) _ (fun _ => (encK x, encV v)) (fun _ => rfl), hl, putL_set hn v hj,
    modify_set _ j (encK x, encV u) (encK x, encV v) _ (by rw [List.getElem?_map, hj]; rfl) rfl, List.map_set]
theorem borns_modify {es : Array MapEntry} {j : Nat} (g : MapEntry → MapEntry) (hg : ∀ e, (g e).born = e.born) : (es.modify j g).toList.map (·.born) = es.toList.map (·.born) := by
  rw [Array.toList_modify, map_modify (fun e : MapEntry => e.born) g id (fun e => hg e), List.modify_id]
theorem putL_ok {x : κ} {v : β} (ho : ∀ p ∈ l, ok p.1) (hx : ok x) : ∀ p ∈ putL l x v, ok p.1 := by
  intro p hp
  rcases putL_mem hp with h | h
  · exact ho p h
  · rw [h]; exact hx

theorem MapOf.modified {es : Array MapEntry} {clock : Nat} (h0 : w.heap[b]? = some (.map es clock)) (hl : es.toList.map (fun e => (e.key, e.val)) = l.map (fun p => (encK p.1, encV p.2))) (hn : (l.map (·.1)).Nodup) (ho : ∀ p ∈ l, ok p.1)
    (hb : (es.toList.map (·.born)).Nodup) (hc : ∀ e ∈ es.toList, e.born < clock) {x : κ} (hx : ok x) {u : β} (v : β) {j : Nat} (hj : l[j]? = some (x, u)) :
    MapOf encK encV ok (putObj w b (.map (es.modify j fun e => { e with key := encK x, val := encV v }) clock)) b (putL l x v) := by
  have hlt := (Array.getElem?_eq_some_iff.1 h0).1
  have hbo : ((es.modify j fun e => { e with key := encK x, val := encV v }).toList.map (·.born)) = es.toList.map (·.born) := borns_modify _ (fun _ => rfl)
  refine ⟨_, _, putObj_same hlt _, store_found hl hn hj, putL_nodup hn x v, putL_ok ho hx, by rw [hbo]; exact hb, fun e he => ?_⟩
  have : e.born ∈ es.toList.map (·.born) := by rw [← hbo]; exact List.mem_map.2 ⟨e, he, rfl⟩
  obtain ⟨e', he', e2⟩ := List.mem_map.1 this
  rw [← e2]; exact hc e' he'
theorem MapOf.pushed {es : Array MapEntry} {clock : Nat} (h0 : w.heap[b]? = some (.map es clock)) (hl : es.toList.map (fun e => (e.key, e.val)) = l.map (fun p => (encK p.1, encV p.2))) (hn : (l.map (·.1)).Nodup) (ho : ∀ p ∈ l, ok p.1)
    (hb : (es.toList.map (·.born)).Nodup) (hc : ∀ e ∈ es.toList, e.born < clock) {x : κ} (hx : ok x) (v : β) (hne : ∀ p ∈ l, p.1 ≠ x) :
    MapOf encK encV ok (putObj w b (.map (es.push { key := encK x, val := encV v, born := clock }) (clock + 1))) b (putL l x v) := by
  have hlt := (Array.getElem?_eq_some_iff.1 h0).1
  refine ⟨_, _, putObj_same hlt _, by simp [putL_new v hne, hl], putL_nodup hn x v, putL_ok ho hx, ?_, fun e he => ?_⟩
  · rw [Array.toList_push, List.map_append, List.nodup_append]
    refine ⟨hb, by simp, fun a ha c hc' => ?_⟩
    simp at hc'
    subst hc'
    obtain ⟨e, he, rfl⟩ := List.mem_map.1 ha
    exact Nat.ne_of_lt (hc e he)
  · rw [Array.toList_push] at he
    rcases List.mem_append.1 he with h | h
    · exact Nat.lt_succ_of_lt (hc e h)
    · simp at h; subst h; exact Nat.lt_succ_self _

/-- 'm[k] = v'. -/
theorem MapOf.update (h : MapOf encK encV ok w b l) (K : KeyEnc P k encK ok) (ht : P.underlying t = some (.map k e)) (x : κ) (hx : ok x) (v : β) :
    ∃ w', (Instr.mapUpdate t (.map (some b)) (encK x) (encV v)).run P w = .ok () w' ∧ MapOf encK encV ok w' b (putL l x v) ∧ OnlyB w w' b := by
  obtain ⟨es, clock, h0, hl, hn, ho, hb, hc⟩ := id h
  obtain ⟨lx, hlx⟩ := K.key x hx
  have hck := K.keyed.check w false hlx
  rcases h.find K h0 x hx w with ⟨hne, hr⟩ | ⟨j, u, hj, hr, en, hen, hk⟩
  · exact ⟨_, by simp [Instr.mapUpdate, run_underlying ht, run_getObj_map' h0, hck, hr, run_setObj_map' _ h0], MapOf.pushed h0 hl hn ho hb hc hx v hne, putObj_only w b _⟩
  · have hen' : es[j]? = some en := by rw [← Array.getElem?_toList]; exact hen
    exact ⟨_, by simp [Instr.mapUpdate, run_underlying ht, run_getObj_map' h0, hck, hr, hen', hk, K.keyed.stays w hlx, run_setObj_map' _ h0], MapOf.modified h0 hl hn ho hb hc hx v hj, putObj_only w b _⟩

theorem wpList_mapUpdate_at {ops : Array Oper} {rest : List Oper} {o : Oper} {a : Act} {Q : Exit → Act → World → Prop} (hg : o.guard = none) (m y z : Operand) (hop : o.op = Op.mapUpdate t m y z)
    (K : KeyEnc P k encK ok) (ht : P.underlying t = some (.map k e)) (h : MapOf encK encV ok w b l) (x : κ) (hx : ok x) (v : β) (hm : a.eval m = .map (some b)) (hy : a.eval y = encK x) (hz : a.eval z = encV v)
    (hK : ∀ w', MapOf encK encV ok w' b (putL l x v) → OnlyB w w' b → wpList P ops Q rest (a.put o.dst undef) w') : wpList P ops Q (o :: rest) a w := by
  refine wpList_plain hg fun K' hK' => ?_
  obtain ⟨w', hr, h1, h2⟩ := h.update K ht x hx v
  unfold Oper.wp
  simp [execOp, hop, hm, hy, hz, hr, Result.andThen]
  exact hK' _ _ (hK w' h1 h2)

/-- 'len(m)'. -/
theorem MapOf.len_ (h : MapOf encK encV ok w b l) (ht : P.underlying t = some (.map k e)) (ty : TypeId) : (Builtin.len_ (#[t]) ty #[.map (some b)]).run P w = .ok (.int .i64 l.length) w := by
  obtain ⟨es, clock, h0, hl, _⟩ := h
  have : es.size = l.length := by have := congrArg List.length hl; simpa using this
  simp [Builtin.len_, run_underlying ht, run_getObj_map' h0, goInt, this]

/-- 'm[k] op= v', step by step: the entry, a lookup behind it, the store. -/
theorem MapOf.entryRun (h : MapOf encK encV ok w b l) (K : KeyEnc P k encK ok) (ht : P.underlying t = some (.map k e)) (z0 : β) (hz0 : ∀ w, (zeroValue e).run P w = .ok (encV z0) w) (x : κ) (hx : ok x) (v : β) :
    ∃ (p q : Value) (w1 w2 : World) (l1 : List (κ × β)), (Instr.mapEntry t (.map (some b)) (encK x)).run P w = .ok (.tuple #[p, q]) w1 ∧ MapOf encK encV ok w1 b l1 ∧ (getL l1 x).getD z0 = (getL l x).getD z0 ∧ OnlyB w w1 b ∧
      (Instr.entryStore t (.map (some b)) q (encV v)).run P w1 = .ok () w2 ∧ MapOf encK encV ok w2 b (putL l x v) ∧ OnlyB w w2 b := by
  obtain ⟨es, clock, h0, hl, hn, ho, hb, hc⟩ := id h
  obtain ⟨lx, hlx⟩ := K.key x hx
  have hck := K.keyed.check w false hlx
  have hlt := (Array.getElem?_eq_some_iff.1 h0).1
  have fin : ∀ (es1 : Array MapEntry) (c1 : Nat) (l1 : List (κ × β)) (j : Nat) (u : β) (born : Nat) (p : Value) (w1 : World), (getL l1 x).getD z0 = (getL l x).getD z0 →
      w1.heap[b]? = some (.map es1 c1) → es1.toList.map (fun e => (e.key, e.val)) = l1.map (fun p => (encK p.1, encV p.2)) → (l1.map (·.1)).Nodup → (∀ p ∈ l1, ok p.1) → (es1.toList.map (·.born)).Nodup → (∀ e ∈ es1.toList, e.born < c1) →
      l1[j]? = some (x, u) → (es1[j]?).map (·.born) = some born → putL l1 x v = putL l x v → OnlyB w w1 b → (Instr.mapEntry t (.map (some b)) (encK x)).run P w = .ok (.tuple #[p, goInt born]) w1 →
      ∃ (p q : Value) (w1 w2 : World) (l1 : List (κ × β)), (Instr.mapEntry t (.map (some b)) (encK x)).run P w = .ok (.tuple #[p, q]) w1 ∧ MapOf encK encV ok w1 b l1 ∧ (getL l1 x).getD z0 = (getL l x).getD z0 ∧ OnlyB w w1 b ∧
      (Instr.entryStore t (.map (some b)) q (encV v)).run P w1 = .ok () w2 ∧ MapOf encK encV ok w2 b (putL l x v) ∧ OnlyB w w2 b := by
    intro es1 c1 l1 j u born p w1 hgt h1 hl1 hn1 ho1 hb1 hc1 hj1 hbn hput hon hrun
    obtain ⟨en, hen, hbe⟩ := Option.map_eq_some_iff.1 hbn
    have hjl : j < es1.size := (Array.getElem?_eq_some_iff.1 hen).1
    have hkey : en.key = encK x := by
      have h2 : (es1.toList.map (fun e => (e.key, e.val)))[j]? = some (en.key, en.val) := by rw [List.getElem?_map, Array.getElem?_toList, hen]; rfl
      rw [hl1, List.getElem?_map, hj1] at h2
      simp at h2
      exact h2.1.symm
    have hfind : es1.findIdx? (fun e => (e.born : Int) == (born : Int)) = some j := by
      rw [Array.findIdx?_eq_some_iff_getElem]
      refine ⟨hjl, ?_, fun i hi => ?_⟩
      · have : es1[j] = en := by have := (Array.getElem?_eq_some_iff.1 hen).2; exact this
        simp [this, hbe]
      · have hij : i < es1.size := by omega
        have hne : es1[i].born ≠ es1[j].born := by
          intro e2
          have h3 := List.pairwise_iff_getElem.1 hb1 i j (by simpa using hij) (by simpa using hjl) hi
          simp at h3
          exact h3 e2
        have : es1[j] = en := by have := (Array.getElem?_eq_some_iff.1 hen).2; exact this
        rw [this, hbe] at hne
        simp; omega
    have hsame : (es1.modify j fun e => { e with val := encV v }) = (es1.modify j fun e => { e with key := encK x, val := encV v }) := by
      apply Array.ext'
      rw [Array.toList_modify, Array.toList_modify]
      have hjt : es1.toList[j]? = some en := by rw [Array.getElem?_toList]; exact hen
      rw [modify_set _ j en { en with val := encV v } _ hjt rfl, modify_set _ j en { en with key := encK x, val := encV v } _ hjt rfl]
      rw [← hkey]
    have hmod := MapOf.modified (encK := encK) (encV := encV) (ok := ok) h1 hl1 hn1 ho1 hb1 hc1 hx v hj1
    rw [hput] at hmod
    have hon2 := putObj_only w1 b (.map (es1.modify j fun e => { e with key := encK x, val := encV v }) c1)
    have hrun3 : (Instr.entryStore t (.map (some b)) (goInt born) (encV v)).run P w1 = .ok () (putObj w1 b (.map (es1.modify j fun e => { e with key := encK x, val := encV v }) c1)) := by
      simp [Instr.entryStore, run_getObj_map' h1, asInt, asIntOf, goInt, hfind, run_setObj_map' _ h1, hsame]
    exact ⟨p, goInt born, w1, _, l1, hrun, ⟨es1, c1, h1, hl1, hn1, ho1, hb1, hc1⟩, hgt, hon, hrun3, hmod, ⟨hon2.os.trans hon.os, hon2.tape.trans hon.tape, hon2.output.trans hon.output, hon2.size.trans hon.size, fun i hi => (hon2.block i hi).trans (hon.block i hi)⟩⟩
  rcases h.find K h0 x hx w with ⟨hne, hr⟩ | ⟨j, u, hj, hr, en, hen, hk⟩
  · have hpush := MapOf.pushed (encK := encK) (encV := encV) (ok := ok) (w := w) h0 hl hn ho hb hc hx z0 hne
    obtain ⟨_, _, h2, hl2, hn2, ho2, hb2, hc2⟩ := id hpush
    rw [putObj_same hlt] at h2
    injection h2 with h2
    injection h2 with h3 h4
    subst h3; subst h4
    refine fin _ _ (putL l x z0) l.length z0 clock (encV z0) _ (by rw [getL_putL, if_pos rfl, getL_none hne]; rfl) (putObj_same hlt _) hl2 hn2 ho2 hb2 hc2 (by rw [putL_new z0 hne]; simp) ?_ ?_ (putObj_only w b _) ?_
    · have : es.size = l.length := by have := congrArg List.length hl; simpa using this
      rw [← this]; simp
    · rw [putL_new z0 hne, putL_new v hne, putL_set (u := z0) (j := l.length) (by rw [← putL_new z0 hne]; exact hn2) v (by simp)]
      simp
    · simp [Instr.mapEntry, run_underlying ht, run_getObj_map' h0, hck, hr, hz0, run_setObj_map' _ h0, goInt]
  · have hen' : es[j]? = some en := by rw [← Array.getElem?_toList]; exact hen
    have hid : (es.modify j fun e => { e with key := encK x }) = es := by
      apply Array.ext'
      rw [Array.toList_modify, modify_set _ j en { en with key := encK x } _ hen rfl, ← hk]
      exact set_self _ _ _ hen
    have hpo : putObj w b (.map es clock) = w := by
      unfold putObj
      have : w.heap.setIfInBounds b (.map es clock) = w.heap := by
        apply Array.ext'
        rw [Array.toList_setIfInBounds]
        exact set_self _ _ _ (by rw [Array.getElem?_toList]; exact h0)
      rw [this]
    refine fin es clock l j u en.born (encV u) w rfl h0 hl hn ho hb hc hj (by rw [hen']; rfl) rfl ⟨rfl, rfl, rfl, rfl, fun _ _ => rfl⟩ ?_
    simp [Instr.mapEntry, run_underlying ht, run_getObj_map' h0, hck, hr, hen', hk, K.keyed.stays w hlx, hid, run_setObj_map' _ h0, hpo, goInt]

/-- 'm[k] op= v': the entry is found or made, then set. -/
theorem wpList_entry_at {ops : Array Oper} {rest : List Oper} {o1 o2 o3 : Oper} {a : Act} {Q : Exit → Act → World → Prop} (hg1 : o1.guard = none) (hg2 : o2.guard = none) (hg3 : o3.guard = none) (m y z : Operand) (d1 d2 : Tmp)
    (hop1 : o1.op = Op.mapEntry t m y) (hd1 : o1.dst = some d1) (hop2 : o2.op = Op.extract (.tmp d1) 1) (hd2 : o2.dst = some d2) (hop3 : o3.op = Op.entryStore t m (.tmp d2) z) (hd3 : o3.dst = none)
    (K : KeyEnc P k encK ok) (ht : P.underlying t = some (.map k e)) (h : MapOf encK encV ok w b l) (z0 : β) (hz0 : ∀ w, (zeroValue e).run P w = .ok (encV z0) w) (x : κ) (hx : ok x) (v : β) (hs1 : d1 < a.tmps.size) (hs2 : d2 < a.tmps.size) (hm : a.eval m = .map (some b))
    (hm2 : ∀ p q, ((a.put (some d1) p).put (some d2) q).eval m = .map (some b)) (hy : a.eval y = encK x) (hz : ∀ p q, ((a.put (some d1) p).put (some d2) q).eval z = encV v)
    (hK : ∀ w' p q, MapOf encK encV ok w' b (putL l x v) → OnlyB w w' b → wpList P ops Q rest ((a.put (some d1) p).put (some d2) q) w') : wpList P ops Q (o1 :: o2 :: o3 :: rest) a w := by
  obtain ⟨es, clock, h0, hl, hn, ho, hb, hc⟩ := id h
  obtain ⟨lx, hlx⟩ := K.key x hx
  have hck := K.keyed.check w false hlx
  have hlt := (Array.getElem?_eq_some_iff.1 h0).1
  have hex : ∀ (p q : Value) , (a.put (some d1) (.tuple #[p, q])).eval (.tmp d1) = .tuple #[p, q] := by
    intro p q; simp [Act.eval, Act.put, hs1]
  have hey : ∀ (p q : Value), ((a.put (some d1) p).put (some d2) q).eval (.tmp d2) = q := by
    intro p q; simp [Act.eval, Act.put, hs2]
  -- what the three operations come to, once the entry at place j of the entries es1 is known
  have fin : ∀ (es1 : Array MapEntry) (c1 : Nat) (l1 : List (κ × β)) (j : Nat) (u : β) (born : Nat) (p : Value) (w1 : World),
      w1.heap[b]? = some (.map es1 c1) → es1.toList.map (fun e => (e.key, e.val)) = l1.map (fun p => (encK p.1, encV p.2)) → (l1.map (·.1)).Nodup → (∀ p ∈ l1, ok p.1) → (es1.toList.map (·.born)).Nodup → (∀ e ∈ es1.toList, e.born < c1) →
      l1[j]? = some (x, u) → (es1[j]?).map (·.born) = some born → putL l1 x v = putL l x v → OnlyB w w1 b → (Instr.mapEntry t (.map (some b)) (encK x)).run P w = .ok (.tuple #[p, goInt born]) w1 →
      wpList P ops Q (o1 :: o2 :: o3 :: rest) a w := by
    intro es1 c1 l1 j u born p w1 h1 hl1 hn1 ho1 hb1 hc1 hj1 hbn hput hon hrun
    refine wpList_plain hg1 fun K1 hK1 => ?_
    unfold Oper.wp
    simp [execOp, hop1, hm, hy, hrun, Result.andThen]
    refine hK1 _ _ ?_
    refine wpList_plain hg2 fun K2 hK2 => ?_
    unfold Oper.wp
    simp [execOp, hop2, hd1, hex, Instr.extract]
    refine hK2 _ _ ?_
    refine wpList_plain hg3 fun K3 hK3 => ?_
    unfold Oper.wp
    obtain ⟨en, hen, hbe⟩ := Option.map_eq_some_iff.1 hbn
    have hjl : j < es1.size := (Array.getElem?_eq_some_iff.1 hen).1
    have hkey : en.key = encK x := by
      have h2 : (es1.toList.map (fun e => (e.key, e.val)))[j]? = some (en.key, en.val) := by rw [List.getElem?_map, Array.getElem?_toList, hen]; rfl
      rw [hl1, List.getElem?_map, hj1] at h2
      simp at h2
      exact h2.1.symm
    have hfind : es1.findIdx? (fun e => (e.born : Int) == (born : Int)) = some j := by
      rw [Array.findIdx?_eq_some_iff_getElem]
      refine ⟨hjl, ?_, fun i hi => ?_⟩
      · have : es1[j] = en := by have := (Array.getElem?_eq_some_iff.1 hen).2; exact this
        simp [this, hbe]
      · have hij : i < es1.size := by omega
        have hne : es1[i].born ≠ es1[j].born := by
          intro e2
          have h3 := List.pairwise_iff_getElem.1 hb1 i j (by simpa using hij) (by simpa using hjl) hi
          simp at h3
          exact h3 e2
        have : es1[j] = en := by have := (Array.getElem?_eq_some_iff.1 hen).2; exact this
        rw [this, hbe] at hne
        simp; omega
    have hsame : (es1.modify j fun e => { e with val := encV v }) = (es1.modify j fun e => { e with key := encK x, val := encV v }) := by
      apply Array.ext'
      rw [Array.toList_modify, Array.toList_modify]
      have hjt : es1.toList[j]? = some en := by rw [Array.getElem?_toList]; exact hen
      rw [modify_set _ j en { en with val := encV v } _ hjt rfl, modify_set _ j en { en with key := encK x, val := encV v } _ hjt rfl]
      rw [← hkey]
    have hmod := MapOf.modified (encK := encK) (encV := encV) (ok := ok) h1 hl1 hn1 ho1 hb1 hc1 hx v hj1
    rw [hput] at hmod
    have hon2 := putObj_only w1 b (.map (es1.modify j fun e => { e with key := encK x, val := encV v }) c1)
    have hrun3 : (Instr.entryStore t (.map (some b)) (goInt born) (encV v)).run P w1 = .ok () (putObj w1 b (.map (es1.modify j fun e => { e with key := encK x, val := encV v }) c1)) := by
      simp [Instr.entryStore, run_getObj_map' h1, asInt, asIntOf, goInt, hfind, run_setObj_map' _ h1, hsame]
    simp [execOp, hop3, hd2, hm2, hey, hz, hrun3, Result.andThen]
    refine hK3 _ _ ?_
    rw [hd3]
    exact hK _ _ _ hmod ⟨hon2.os.trans hon.os, hon2.tape.trans hon.tape, hon2.output.trans hon.output, hon2.size.trans hon.size, fun i hi => (hon2.block i hi).trans (hon.block i hi)⟩
  rcases h.find K h0 x hx w with ⟨hne, hr⟩ | ⟨j, u, hj, hr, en, hen, hk⟩
  · have hpush := MapOf.pushed (encK := encK) (encV := encV) (ok := ok) (w := w) h0 hl hn ho hb hc hx z0 hne
    obtain ⟨_, _, h2, hl2, hn2, ho2, hb2, hc2⟩ := id hpush
    rw [putObj_same hlt] at h2
    injection h2 with h2
    injection h2 with h3 h4
    subst h3; subst h4
    refine fin _ _ (putL l x z0) l.length z0 clock (encV z0) _ (putObj_same hlt _) hl2 hn2 ho2 hb2 hc2 (by rw [putL_new z0 hne]; simp) ?_ ?_ (putObj_only w b _) ?_
    · have : es.size = l.length := by have := congrArg List.length hl; simpa using this
      rw [← this]; simp
    · rw [putL_new z0 hne, putL_new v hne, putL_set (u := z0) (j := l.length) (by rw [← putL_new z0 hne]; exact hn2) v (by simp)]
      simp
    · simp [Instr.mapEntry, run_underlying ht, run_getObj_map' h0, hck, hr, hz0, run_setObj_map' _ h0, goInt]
  · have hen' : es[j]? = some en := by rw [← Array.getElem?_toList]; exact hen
    have hid : (es.modify j fun e => { e with key := encK x }) = es := by
      apply Array.ext'
      rw [Array.toList_modify, modify_set _ j en { en with key := encK x } _ hen rfl, ← hk]
      exact set_self _ _ _ hen
    have hpo : putObj w b (.map es clock) = w := by
      unfold putObj
      have : w.heap.setIfInBounds b (.map es clock) = w.heap := by
        apply Array.ext'
        rw [Array.toList_setIfInBounds]
        exact set_self _ _ _ (by rw [Array.getElem?_toList]; exact h0)
      rw [this]
    refine fin es clock l j u en.born (encV u) w h0 hl hn ho hb hc hj (by rw [hen']; rfl) rfl ⟨rfl, rfl, rfl, rfl, fun _ _ => rfl⟩ ?_
    simp [Instr.mapEntry, run_underlying ht, run_getObj_map' h0, hck, hr, hen', hk, K.keyed.stays w hlx, hid, run_setObj_map' _ h0, hpo, goInt]

/-! ### ranging over a map that the loop does not write -/
/-- Block r is an iterator over the map in block b, whose entries are l; 'left' are those still to come. -/
def RangeOf (encK : κ → Value) (encV : β → Value) (ok : κ → Prop) (w : World) (b r : Nat) (l left : List (κ × β)) : Prop :=
  ∃ es clock seen, w.heap[b]? = some (.map es clock) ∧ es.toList.map (fun e => (e.key, e.val)) = l.map (fun p => (encK p.1, encV p.2)) ∧ (l.map (·.1)).Nodup ∧ (∀ p ∈ l, ok p.1) ∧
    (es.toList.map (·.born)).Nodup ∧ (∀ e ∈ es.toList, e.born < clock) ∧ w.heap[r]? = some (.mapIter (some b) clock seen clock) ∧
    (es.toList.filter (fun e => !seen.contains e.born)).map (fun e => (e.key, e.val)) = left.map (fun p => (encK p.1, encV p.2))

theorem RangeOf.mapOf {r : Nat} {left : List (κ × β)} (h : RangeOf encK encV ok w b r l left) : MapOf encK encV ok w b l := by
  obtain ⟨es, clock, seen, h0, hl, hn, ho, hb, hc, _⟩ := h
  exact ⟨es, clock, h0, hl, hn, ho, hb, hc⟩
theorem RangeOf.keep {r : Nat} {left : List (κ × β)} (h : RangeOf encK encV ok w b r l left) (hb : w'.heap[b]? = w.heap[b]?) (hr : w'.heap[r]? = w.heap[r]?) : RangeOf encK encV ok w' b r l left := by
  obtain ⟨es, clock, seen, h0, hl, hn, ho, hb', hc, h1, h2⟩ := h
  exact ⟨es, clock, seen, hb.trans h0, hl, hn, ho, hb', hc, hr.trans h1, h2⟩
theorem RangeOf.lt {r : Nat} {left : List (κ × β)} (h : RangeOf encK encV ok w b r l left) : r < w.heap.size := by
  obtain ⟨es, clock, seen, h0, hl, hn, ho, hb', hc, h1, h2⟩ := h
  exact (Array.getElem?_eq_some_iff.1 h1).1
theorem RangeOf.alloc {r : Nat} {left : List (κ × β)} (h : RangeOf encK encV ok w b r l left) (o : Obj) : RangeOf encK encV ok (w.alloc o) b r l left :=
  h.keep (Below.heap_alloc w o b h.mapOf.lt) (Below.heap_alloc w o r h.lt)
theorem RangeOf.below {B r : Nat} {left : List (κ × β)} (h : RangeOf encK encV ok w b r l left) (hb : Below B w w') (h1 : b < B) (h2 : r < B) : RangeOf encK encV ok w' b r l left :=
  h.keep (hb.block b h1) (hb.block r h2)
theorem RangeOf.only {c r : Nat} {left : List (κ × β)} (h : RangeOf encK encV ok w b r l left) (ho : OnlyB w w' c) (h1 : b ≠ c) (h2 : r ≠ c) : RangeOf encK encV ok w' b r l left :=
  h.keep (ho.block b h1) (ho.block r h2)
theorem RangeOf.drewN {r : Nat} {left : List (κ × β)} (h : RangeOf encK encV ok w b r l left) (n : Nat) : RangeOf encK encV ok (w.drewN n) b r l left := h
/-- A store of a cell turns neither a map nor an iterator. -/
theorem heap_setCell_other {o : Obj} {p : Addr} {u : Value} (h : w.heap[b]? = some o) (ho : ∀ c t f, o ≠ .cells c t f) : (w.setCell p u).heap[b]? = some o := by
  by_cases hp : b = p.block
  · simp only [World.setCell, Array.getElem?_modify]
    rw [if_pos hp.symm, h]
    cases o <;> first | rfl | exact absurd rfl (ho _ _ _)
  · rw [Below.heap_setCell w p u b hp]; exact h
theorem RangeOf.setCell {r : Nat} {left : List (κ × β)} (h : RangeOf encK encV ok w b r l left) (p : Addr) (u : Value) : RangeOf encK encV ok (w.setCell p u) b r l left := by
  obtain ⟨es, clock, seen, h0, hl, hn, ho, hb', hc, h1, h2⟩ := h
  exact ⟨es, clock, seen, heap_setCell_other h0 (by simp), hl, hn, ho, hb', hc, heap_setCell_other h1 (by simp), h2⟩

/-- 'range m'. -/
theorem MapOf.range (h : MapOf encK encV ok w b l) (ht : P.underlying t = some (.map k e)) :
    ∃ o, (Instr.range t (.map (some b))).run P w = .ok (.pointer (some ⟨w.heap.size, 0, none⟩)) (w.alloc o) ∧ RangeOf encK encV ok (w.alloc o) b w.heap.size l l := by
  obtain ⟨es, clock, h0, hl, hn, ho, hb, hc⟩ := id h
  refine ⟨_, run_range_map w t k e b es clock ht h0, es, clock, #[], (Below.heap_alloc w _ b h.lt).trans h0, hl, hn, ho, hb, hc, heap_alloc_new w _, ?_⟩
  rw [List.filter_eq_self.2 (by simp)]; exact hl

theorem wpList_range_at {ops : Array Oper} {rest : List Oper} {o : Oper} {a : Act} {Q : Exit → Act → World → Prop} (hg : o.guard = none) (m : Operand) (hop : o.op = Op.range t m)
    (ht : P.underlying t = some (.map k e)) (h : MapOf encK encV ok w b l) (hm : a.eval m = .map (some b))
    (hK : ∀ ob, RangeOf encK encV ok (w.alloc ob) b w.heap.size l l → wpList P ops Q rest (a.put o.dst (.pointer (some ⟨w.heap.size, 0, none⟩))) (w.alloc ob)) : wpList P ops Q (o :: rest) a w := by
  refine wpList_plain hg fun K' hK' => ?_
  obtain ⟨ob, hr, h1⟩ := h.range (P := P) ht
  unfold Oper.wp
  simp [execOp, hop, hm, hr, Result.andThen]
  exact hK' _ _ (hK ob h1)

theorem filter_seen_split {es : List MapEntry} {seen : Array Nat} (hn : (es.map (·.born)).Nodup) {e : MapEntry} (he : e ∈ es.filter (fun e => !seen.contains e.born)) :
    ∃ A B, es.filter (fun e => !seen.contains e.born) = A ++ e :: B ∧ es.filter (fun x => !(seen.push e.born).contains x.born) = A ++ B := by
  obtain ⟨A, B, hAB⟩ := List.append_of_mem he
  refine ⟨A, B, hAB, ?_⟩
  have hsub : ((es.filter (fun e => !seen.contains e.born)).map (·.born)).Nodup := hn.sublist (List.filter_sublist.map _)
  have h1 : es.filter (fun x => !(seen.push e.born).contains x.born) = (es.filter (fun e => !seen.contains e.born)).filter (fun x => x.born != e.born) := by
    rw [List.filter_filter]
    refine List.filter_congr fun x hx => ?_
    by_cases h : x.born = e.born <;> simp [h]
  rw [h1, hAB, List.filter_append, List.filter_cons]
  rw [hAB, List.map_append, List.map_cons, List.nodup_append] at hsub
  obtain ⟨_, h2, h3⟩ := hsub
  rw [List.nodup_cons] at h2
  have hA : A.filter (fun x => x.born != e.born) = A := List.filter_eq_self.2 fun x hx => by
    have := h3 x.born (List.mem_map.2 ⟨x, hx, rfl⟩) e.born (by simp)
    simpa using this
  have hB : B.filter (fun x => x.born != e.born) = B := List.filter_eq_self.2 fun x hx => by
    have : x.born ≠ e.born := fun e2 => h2.1 (List.mem_map.2 ⟨x, hx, e2⟩)
    simpa using this
  simp [hA, hB]

/-- 'next': nothing is left, or one entry that is left comes out, whichever. -/
theorem RangeOf.next {r : Nat} {left : List (κ × β)} (h : RangeOf encK encV ok w b r l left) (ty : TypeId) :
    (left = [] ∧ (Instr.next (.pointer (some ⟨r, 0, none⟩)) false ty).run P w = .ok (.tuple #[.bool false]) w) ∨
    ∃ p A B w', left = A ++ p :: B ∧ (Instr.next (.pointer (some ⟨r, 0, none⟩)) false ty).run P w = .ok (.tuple #[.bool true, encK p.1, encV p.2]) w' ∧ RangeOf encK encV ok w' b r l (A ++ B) ∧ OnlyB w w' r ∧
      (Instr.entry (.pointer (some ⟨r, 0, none⟩))).run P w' = .ok (.tuple #[encK p.1, encV p.2]) w' := by
  obtain ⟨es, clock, seen, h0, hl, hn, ho, hb, hc, h1, h2⟩ := id h
  have hbr : b ≠ r := fun e => by rw [e, h1] at h0; cases h0
  have hlo : (leftOf es seen).toList = es.toList.filter (fun e => !seen.contains e.born) := by unfold leftOf; exact Array.toList_filter
  rcases run_next_at (P := P) w ty r b clock clock seen es clock h1 h0 hc (Nat.le_refl _) with ⟨hz, hr⟩ | ⟨en, hen, w1, hw1, hr⟩
  · refine .inl ⟨?_, hr⟩
    have : (leftOf es seen).toList.length = 0 := by simpa using hz
    rw [hlo] at this
    have h3 := congrArg List.length h2
    simp only [List.length_map] at h3
    exact List.eq_nil_of_length_eq_zero (by omega)
  · rw [hlo] at hen
    obtain ⟨A', B', hs1, hs2⟩ := filter_seen_split hb hen
    rw [hs1, List.map_append, List.map_cons] at h2
    obtain ⟨A, left2, rfl, hA, hrest⟩ := List.append_eq_map_iff.1 h2
    obtain ⟨p, B, rfl, hp, hB⟩ := List.map_eq_cons_iff.1 hrest
    have hw1h : w1.heap = w.heap := by rcases hw1 with rfl | rfl <;> rfl
    have hrl : r < w1.heap.size := by rw [hw1h]; exact (Array.getElem?_eq_some_iff.1 h1).1
    have hpe : encK p.1 = en.key ∧ encV p.2 = en.val := by injection hp with e1 e2; exact ⟨e1, e2⟩
    have hb1 : (ChangeMaps.setBlock w1 r (.mapIter (some b) clock (seen.push en.born) clock)).heap[b]? = some (.map es clock) := by
      simp [ChangeMaps.setBlock, Ne.symm hbr, hw1h, h0]
    have hr1 : (ChangeMaps.setBlock w1 r (.mapIter (some b) clock (seen.push en.born) clock)).heap[r]? = some (.mapIter (some b) clock (seen.push en.born) clock) := by
      simp [ChangeMaps.setBlock, hrl]
    refine .inr ⟨p, A, B, _, rfl, by rw [hr, hpe.1, hpe.2], ⟨es, clock, seen.push en.born, hb1, hl, hn, ho, hb, hc, hr1, ?_⟩, ⟨?_, ?_, ?_, ?_, fun i hi => ?_⟩, ?_⟩
    · rw [hs2, List.map_append, List.map_append, hA, hB]
    · rcases hw1 with rfl | rfl <;> rfl
    · rcases hw1 with rfl | rfl <;> rfl
    · rcases hw1 with rfl | rfl <;> rfl
    · simp [ChangeMaps.setBlock, hw1h]
    · simp [ChangeMaps.setBlock, Ne.symm hi, hw1h]
    · rw [hpe.1, hpe.2]
      exact run_entry_at _ r b clock seen es clock en hr1 hb1 (List.mem_filter.1 hen).1 hb

theorem wpList_next_at {ops : Array Oper} {rest : List Oper} {o : Oper} {a : Act} {Q : Exit → Act → World → Prop} {r : Nat} {left : List (κ × β)} (hg : o.guard = none) (it : Operand) (hop : o.op = Op.next it false)
    (h : RangeOf encK encV ok w b r l left) (hi : a.eval it = .pointer (some ⟨r, 0, none⟩))
    (h0 : left = [] → wpList P ops Q rest (a.put o.dst (.tuple #[.bool false])) w)
    (h1 : ∀ p A B w', left = A ++ p :: B → RangeOf encK encV ok w' b r l (A ++ B) → OnlyB w w' r → (Instr.entry (.pointer (some ⟨r, 0, none⟩))).run P w' = .ok (.tuple #[encK p.1, encV p.2]) w' →
      wpList P ops Q rest (a.put o.dst (.tuple #[.bool true, encK p.1, encV p.2])) w') : wpList P ops Q (o :: rest) a w := by
  refine wpList_plain hg fun K' hK' => ?_
  rcases h.next (P := P) o.type with ⟨hl, hr⟩ | ⟨p, A, B, w', hl, hr, h2, h3, h4⟩
  · unfold Oper.wp
    simp [execOp, hop, hi, hr, Result.andThen]
    exact hK' _ _ (h0 hl)
  · unfold Oper.wp
    simp [execOp, hop, hi, hr, Result.andThen]
    exact hK' _ _ (h1 p A B w' hl h2 h3 h4)
end
end
end Go.Sup
