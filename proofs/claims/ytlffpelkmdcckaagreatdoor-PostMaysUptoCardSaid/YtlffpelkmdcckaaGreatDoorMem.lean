/- Plain lemmas on memory: slices that read as lists of rows of cells, frames, strings. No program is in sight. -/
import Derived.WalkKit
import Derived.WalkSpells
import Derived.WalkLawsBesides
import Derived.Below
import Derived.Laws.OwnMore
import Derived.Laws.Rows
import Derived.Deep.AppendLies
import Derived.Deep.Draws
import Derived.Maps.AppendAt
import Derived.RegionTactic
import Derived.OwnWalk
import Derived.Deep.QuietTactic
import Derived.BigQuiet
import Derived.Lib.Hide
import Derived.Laws.BytesArg
import Derived.StillTailTactics
namespace Go.Sup
open Go.RowKit

/-! ### strings -/
theorem bs_ext {s t : ByteArray} (h : s.toList = t.toList) : s = t := by
  rw [ByteArray.toList_eq, ByteArray.toList_eq] at h
  exact ByteArray.ext (Array.toList_inj.1 h)
theorem bs_beq (s t : ByteArray) : (s.toList == t.toList) = decide (s = t) := by
  by_cases h : s = t
  · subst h; simp
  · have : s.toList ≠ t.toList := fun e => h (bs_ext e)
    simp [h, this]

/-! ### worlds -/
theorem below_drewN {B : Nat} {a w : World} (h : Below B a w) (n : Nat) : Below B a (w.drewN n) := ⟨h.os, h.tape, h.output, h.size, h.block⟩
/-- All old cells and old marks, as rules for a walk. -/
theorem bcell {W w1 : World} {B : Nat} (hb : Below B W w1) : (∀ b o, b < B → w1.cell? ⟨b, o, none⟩ = W.cell? ⟨b, o, none⟩) ∧ (∀ b o, b < B → w1.frozen? ⟨b, o, none⟩ = W.frozen? ⟨b, o, none⟩) :=
  ⟨fun b o h => hb.cell (p := ⟨b, o, none⟩) h, fun b o h => hb.frozen (p := ⟨b, o, none⟩) h⟩
theorem block_of_add (a : Addr) (n : Nat) : (a.add n).block = a.block := by unfold Addr.add; split <;> rfl
theorem add_at (b off n : Nat) : (⟨b, off, none⟩ : Addr).add n = ⟨b, off + n, none⟩ := by
  unfold Addr.add; split
  · subst_vars; rfl
  · rfl

/-! ### two lists, element by element -/
def All2 {α β : Type} (R : α → β → Prop) : List α → List β → Prop
  | [], [] => True
  | a :: l, b :: m => R a b ∧ All2 R l m
  | [], _ :: _ => False
  | _ :: _, [] => False
section
variable {α β : Type} {R R' : α → β → Prop}
theorem All2.len : ∀ {l : List α} {m : List β}, All2 R l m → l.length = m.length
  | [], [], _ => rfl
  | _ :: _, _ :: _, h => by simp [All2.len h.2]
  | [], _ :: _, h => h.elim
  | _ :: _, [], h => h.elim
theorem All2.at_ : ∀ {l : List α} {m : List β}, All2 R l m → ∀ {k : Nat} {a : α}, l[k]? = some a → ∃ b, m[k]? = some b ∧ R a b
  | [], [], _, k, a, h => by simp at h
  | a :: l, b :: m, h, 0, a', h' => ⟨b, rfl, by simp at h'; subst h'; exact h.1⟩
  | a :: l, b :: m, h, k + 1, a', h' => by simpa using All2.at_ h.2 (k := k) (a := a') (by simpa using h')
  | [], _ :: _, h, _, _, _ => h.elim
  | _ :: _, [], h, _, _, _ => h.elim
theorem All2.imp (hi : ∀ a b, R a b → R' a b) : ∀ {l : List α} {m : List β}, All2 R l m → All2 R' l m
  | [], [], _ => trivial
  | _ :: _, _ :: _, h => ⟨hi _ _ h.1, All2.imp hi h.2⟩
  | [], _ :: _, h => h.elim
  | _ :: _, [], h => h.elim
theorem All2.snoc : ∀ {l : List α} {m : List β} {a : α} {b : β}, All2 R l m → R a b → All2 R (l ++ [a]) (m ++ [b])
  | [], [], _, _, _, h => ⟨h, trivial⟩
  | _ :: _, _ :: _, _, _, h, h' => ⟨h.1, All2.snoc h.2 h'⟩
  | [], _ :: _, _, _, h, _ => h.elim
  | _ :: _, [], _, _, h, _ => h.elim
theorem All2.map (f : α → β) (hf : ∀ a, R a (f a)) : ∀ l : List α, All2 R l (l.map f)
  | [] => trivial
  | a :: l => ⟨hf a, All2.map f hf l⟩
theorem All2.mem_right : ∀ {l : List α} {m : List β}, All2 R l m → ∀ b ∈ m, ∃ a ∈ l, R a b
  | [], [], _, b, h => by simp at h
  | a :: l, b :: m, h, b', hb => by
    rcases List.mem_cons.1 hb with rfl | hb
    · exact ⟨a, by simp, h.1⟩
    · obtain ⟨a', ha, hr⟩ := All2.mem_right h.2 b' hb
      exact ⟨a', by simp [ha], hr⟩
  | [], _ :: _, h, _, _ => h.elim
  | _ :: _, [], h, _, _ => h.elim
theorem All2.of_at : ∀ {l : List α} {m : List β}, l.length = m.length → (∀ (i : Nat) (a : α), l[i]? = some a → ∃ b, m[i]? = some b ∧ R a b) → All2 R l m
  | [], [], _, _ => trivial
  | a :: l, b :: m, h, h' => by
    obtain ⟨b', hb, hr⟩ := h' 0 a rfl
    simp at hb
    subst hb
    exact ⟨hr, All2.of_at (by simpa using h) (fun i a ha => by simpa using h' (i + 1) a (by simpa using ha))⟩
  | [], _ :: _, h, _ => by simp at h
  | _ :: _, [], h, _ => by simp at h
theorem All2.app : ∀ {l l' : List α} {m m' : List β}, All2 R l m → All2 R l' m' → All2 R (l ++ l') (m ++ m')
  | [], _, [], _, _, h => h
  | _ :: _, _, _ :: _, _, h, h' => ⟨h.1, All2.app h.2 h'⟩
  | [], _, _ :: _, _, h, _ => h.elim
  | _ :: _, _, [], _, h, _ => h.elim
end

/-! ### a slice that reads as rows of cells -/
/-- 'v' is a slice of as many elements as 'rows' has; element k's cells are rows k; they lie below block B. -/
def SlC (w : World) (B size : Nat) (rows : List (List Value)) (v : Value) : Prop :=
  ∃ A c, v = .slice A rows.length c ∧ rows.length ≤ c ∧ c ≤ maxLen ∧
    (0 < rows.length → ∃ b off, A = some ⟨b, off, none⟩ ∧ b < B ∧ ∀ k r, rows[k]? = some r → ∀ j u, r[j]? = some u → w.cell? ⟨b, off + k * size + j, none⟩ = some u)

section
variable {w w' : World} {B B' size : Nat} {rows : List (List Value)} {v : Value}
theorem SlC.nil_ (w : World) (B size : Nat) : SlC w B size [] (.slice none 0 0) := ⟨none, 0, rfl, Nat.le_refl _, Nat.zero_le _, fun h => absurd h (by simp)⟩
theorem SlC.len_le (h : SlC w B size rows v) : rows.length ≤ maxLen := by
  obtain ⟨A, c, _, h1, h2, _⟩ := h
  exact Nat.le_trans h1 h2
theorem SlC.keep (h : SlC w B size rows v) (hk : ∀ p : Addr, p.block < B → w'.cell? p = w.cell? p) : SlC w' B size rows v := by
  obtain ⟨A, c, e, h1, h2, h3⟩ := h
  refine ⟨A, c, e, h1, h2, fun hn => ?_⟩
  obtain ⟨b, off, ea, hb, hc⟩ := h3 hn
  exact ⟨b, off, ea, hb, fun k r hr j u hu => (hk _ hb).trans (hc k r hr j u hu)⟩
theorem SlC.more (h : SlC w B size rows v) (hB : B ≤ B') : SlC w B' size rows v := by
  obtain ⟨A, c, e, h1, h2, h3⟩ := h
  refine ⟨A, c, e, h1, h2, fun hn => ?_⟩
  obtain ⟨b, off, ea, hb, hc⟩ := h3 hn
  exact ⟨b, off, ea, by omega, hc⟩
theorem SlC.below (h : SlC w B size rows v) (hb : Below B w w') : SlC w' B size rows v := h.keep fun _ hp => hb.cell hp
theorem SlC.drew (h : SlC w B size rows v) : SlC w.drew B size rows v := h
theorem SlC.drewN (h : SlC w B size rows v) (k : Nat) : SlC (w.drewN k) B size rows v := h
theorem SlC.alloc (h : SlC w B size rows v) (hB : B ≤ w.heap.size) (o : Obj) : SlC (w.alloc o) B size rows v := h.keep fun p hp => World.cell?_alloc_lt w o p (by omega)
theorem SlC.setCell (h : SlC w B size rows v) {p : Addr} (hB : B ≤ p.block) (u : Value) : SlC (w.setCell p u) B size rows v :=
  h.keep fun q hq => World.cell?_setCell_other w p q u (fun e => by subst e; omega)
theorem SlC.grown (h : SlC w B size rows v) {row : Option Nat} (hg : w.grownBy w' row) (hB : B ≤ w.heap.size) (hr : ∀ g, row = some g → B ≤ g) : SlC w' B size rows v :=
  h.keep fun p hp => World.cell?_of_block (hg.block p.block (by omega) (fun e => by have := hr _ e.symm; omega))
/-- A literal slice of one element, in the block made just before. -/
theorem SlC.lit1 (w : World) (r : List Value) (ty : TypeId) (g : Nat) (hg : w.heap.size = g) (hB : g < B) : SlC (w.alloc (.cells r.toArray ty)) B size [r] (.slice (some ⟨g, 0, none⟩) 1 1) := by
  subst hg
  refine ⟨_, 1, rfl, Nat.le_refl _, by unfold maxLen; omega, fun _ => ⟨w.heap.size, 0, rfl, hB, fun k r' hr j u hu => ?_⟩⟩
  have hk : k = 0 := by
    have := (List.getElem?_eq_some_iff.1 hr).1
    simp at this; exact this
  subst hk
  simp at hr
  subst hr
  have hnew := heap_alloc_new w (.cells r.toArray ty)
  simp only [World.cell?, hnew]
  simpa using hu
/-- Element k: its cells. -/
theorem SlC.at_ {A : Option Addr} {n c k : Nat} {r : List Value} (h : SlC w B size rows (.slice A n c)) (hr : rows[k]? = some r) :
    ∃ b off, A = some ⟨b, off, none⟩ ∧ b < B ∧ ∀ j u, r[j]? = some u → w.cell? ⟨b, off + k * size + j, none⟩ = some u := by
  obtain ⟨A', c', e, h1, h2, h3⟩ := h
  have hk : k < rows.length := (List.getElem?_eq_some_iff.1 hr).1
  injection e with e1 e2 e3
  subst e1
  obtain ⟨b, off, ea, hb, hc⟩ := h3 (by omega)
  exact ⟨b, off, ea, hb, fun j u hu => hc k r hr j u hu⟩

theorem flatten_at (size : Nat) : ∀ (rows : List (List Value)), (∀ r ∈ rows, r.length = size) → ∀ k r, rows[k]? = some r → ∀ j u, r[j]? = some u → rows.flatten[k * size + j]? = some u := by
  intro rows
  induction rows with
  | nil => intro _ k r hr; simp at hr
  | cons r0 rest ih =>
    intro hl k r hr j u hu
    have hl0 : r0.length = size := hl r0 (by simp)
    cases k with
    | zero =>
      simp at hr
      subst hr
      have hj : j < r0.length := (List.getElem?_eq_some_iff.1 hu).1
      rw [List.flatten_cons, Nat.zero_mul, Nat.zero_add, List.getElem?_append_left hj]
      exact hu
    | succ k =>
      simp at hr
      rw [List.flatten_cons, List.getElem?_append_right (by rw [hl0, Nat.succ_mul]; omega)]
      have : (k + 1) * size + j - r0.length = k * size + j := by rw [hl0, Nat.succ_mul]; omega
      rw [this]
      exact ih (fun r h => hl r (by simp [h])) k r hr j u hu

/-- A literal slice, in the block made just before. -/
theorem SlC.litN {w : World} {size : Nat} (rows : List (List Value)) (hl : ∀ r ∈ rows, r.length = size) {cs : Array Value} (hcs : cs = rows.flatten.toArray) (ty : TypeId) (g n B : Nat) (hn : rows.length = n) (hg : w.heap.size = g) (hB : g < B) (hm : n ≤ maxLen) : SlC (w.alloc (.cells cs ty)) B size rows (.slice (some ⟨g, 0, none⟩) n n) := by
  subst hg hn hcs
  refine ⟨_, _, rfl, Nat.le_refl _, hm, fun _ => ⟨w.heap.size, 0, rfl, hB, fun k r' hr j u hu => ?_⟩⟩
  have hnew := heap_alloc_new w (.cells rows.flatten.toArray ty)
  simp only [World.cell?, hnew, Nat.zero_add]
  simpa using flatten_at size rows hl k r' hr j u hu

/-- A slice that the call owns: as rows. -/
def OwnC (w : World) (base : Nat) (e : TypeId) (size : Nat) (rows : List (List Value)) (v : Value) : Prop :=
  w.ownsRow base e size v rows.length rows.flatten ∧ ∀ r ∈ rows, r.length = size

theorem OwnC.nil_ (w : World) (base : Nat) (e : TypeId) (size : Nat) : OwnC w base e size [] (.slice none 0 0) := ⟨World.ownsRow_nil _ _ _ _, by simp⟩
theorem OwnC.sl {base : Nat} {e : TypeId} (h : OwnC w base e size rows v) : SlC w w.heap.size size rows v := by
  obtain ⟨ho, hl⟩ := h
  have hlt := ho.lt
  have hcell := fun g hg => World.ownsRow.cells (g := g) ho hg
  rcases ho.2 with ⟨rfl, h0⟩ | ⟨g, cap, cur, rfl, hbg, hg, hn, hc, _, _⟩
  · refine ⟨none, 0, by rw [h0], by omega, Nat.zero_le _, fun h => by omega⟩
  · refine ⟨_, cap, rfl, hn, hc, fun h => ⟨g, 0, rfl, (hlt g rfl).2, fun k r hr j u hu => ?_⟩⟩
    have := hcell g rfl (k * size + j) u (flatten_at size rows hl k r hr j u hu)
    rw [add_at] at this
    simpa [Nat.add_assoc] using this
theorem OwnC.kept {base : Nat} {e : TypeId} {row : Option Nat} (h : OwnC w base e size rows v) (hg : w.grownBy w' row) (hne : v.ownBlock = none ∨ v.ownBlock ≠ row) : OwnC w' base e size rows v :=
  ⟨h.1.kept hg hne, h.2⟩
theorem OwnC.alloc {base : Nat} {e : TypeId} (h : OwnC w base e size rows v) (o : Obj) : OwnC (w.alloc o) base e size rows v := ⟨h.1.alloc o, h.2⟩
theorem OwnC.drew {base : Nat} {e : TypeId} (h : OwnC w base e size rows v) : OwnC w.drew base e size rows v := h
theorem OwnC.drewN {base : Nat} {e : TypeId} (h : OwnC w base e size rows v) (n : Nat) : OwnC (w.drewN n) base e size rows v := h
theorem OwnC.lt {base : Nat} {e : TypeId} (h : OwnC w base e size rows v) : ∀ k, v.ownBlock = some k → base ≤ k ∧ k < w.heap.size := h.1.lt
/-- All blocks below the heap's size of w as they were: what is owned stays owned. -/
theorem OwnC.below {base : Nat} {e : TypeId} (h : OwnC w base e size rows v) (hb : Below w.heap.size w w') : OwnC w' base e size rows v := by
  refine ⟨⟨h.1.1, ?_⟩, h.2⟩
  have hlt := h.1.lt
  rcases h.1.2 with h0 | ⟨g, cap, cur, hv, hbg, hg, r⟩
  · exact .inl h0
  · have := hlt g (by rw [hv]; rfl)
    exact .inr ⟨g, cap, cur, hv, hbg, (hb.block g this.2).trans hg, r⟩
end

/-- What the walk's laws ask of a slice type t with elements e. -/
structure ElTy (P : Program) (t e : TypeId) (size bytes : Nat) : Prop where
  ht : P.underlying t = some (.slice e)
  info : ∃ i z, P.info? e = some i ∧ i.zero = some z ∧ i.size = size ∧ i.bytes = bytes ∧ z.cells.size = size
  pos : 0 < size

theorem ElTy.mk' {P : Program} {t e : TypeId} {size bytes : Nat} {z : Value} (ht : P.underlying t = some (.slice e))
    (hi : (P.info? e).map (fun i => (i.zero, i.size, i.bytes)) = some (some z, size, bytes)) (hz : z.cells.size = size) (pos : 0 < size) : ElTy P t e size bytes := by
  obtain ⟨i, h0, h1, h2, h3⟩ := info_parts hi
  exact ⟨ht, ⟨i, z, h0, h1, h2, h3, hz⟩, pos⟩

/-- 'append(s, x)' of one element of 'size' cells, which lies in the block made just before. -/
theorem wpList_app1 {P : Program} (w : World) {ops : Array Oper} {rest : List Oper} {o : Oper} {a : Act} {Q : Exit → Act → World → Prop} (hgd : o.guard = none) (s x : Operand) (t : TypeId)
    (ho : o.op = .call { callee := .builtin .append, args := #[s, x], argTypes := #[t, t] })
    {e : TypeId} {size bytes : Nat} (E : ElTy P t e size bytes) (base : Nat) (rows : List (List Value)) (v : Value) (hs : a.eval s = v) (w0 : World) (r : List Value) (ty : TypeId)
    (hw : w = w0.alloc (.cells r.toArray ty)) (hown : OwnC w0 base e size rows v) (g c : Nat) (hx : a.eval x = .slice (some ⟨g, 0, none⟩) 1 c) (hg : w0.heap.size = g) (hl : r.length = size) (h1 : ∀ u ∈ r, u.oneCell' = true)
    (hbytes : (rows.length + 1) * bytes ≤ 140737488355328) (h63 : rows.length + 1 ≤ maxLen) (hbase : base ≤ w0.heap.size)
    (h : ∀ v' w', OwnC w' base e size (rows ++ [r]) v' → Below base w w' → w.heap.size ≤ w'.heap.size → w.grownBy w' v.ownBlock → wpList P ops Q rest (a.put o.dst v') w') :
    wpList P ops Q (o :: rest) a w := by
  subst hw
  subst hg
  obtain ⟨ht, ⟨i, z, hi, hz, h2, h3, h4⟩, pos⟩ := E
  refine wpList_append_own_at _ hgd s x t ho base e i z size bytes ht hi hz h2 h3 h4 pos v rows.length rows.flatten hs (hown.alloc _).1 ⟨w0.heap.size, 0, none⟩ 1 c r hx (by omega) ?_ h1 h63 hbytes (by simp; omega) ?_
  · intro j u hu
    rw [add_at]
    have hj : j < r.length := (List.getElem?_eq_some_iff.1 hu).1
    simp only [Nat.zero_add]
    have hnew := heap_alloc_new w0 (.cells r.toArray ty)
    simp only [World.cell?, hnew]
    simpa using hu
  · intro v' w' ho' hg _ _
    refine h v' w' ⟨by simpa using ho', fun r' hr' => ?_⟩ ?_ hg.size hg
    · simp at hr'
      rcases hr' with hr' | rfl
      · exact hown.2 r' hr'
      · exact hl
    · refine (Below.refl base _).grown hg (by simp; omega) (fun k hk => (hown.lt k hk).1)

theorem run_append_of_nil {P : Program} (w : World) (base : Nat) (t ty e : TypeId) (i : TypeInfo) (size : Nat) (ht : P.underlying t = some (.slice e)) (hi : P.info? e = some i)
    (v : Value) (n : Nat) (xs : List Value) (hown : w.ownsRow base e size v n xs) (c : Nat) : (Builtin.append_ #[t, t] ty #[v, .slice none 0 c]).run P w = .ok v w := by
  rcases hown.2 with ⟨rfl, rfl⟩ | ⟨g, cap, cur, rfl, _, _, hnc, _⟩
  · simp [Builtin.append_, run_underlying ht, sizeOf, typeInfo, hi, Builtin.lenOf, Builtin.firstCells]
  · simp [Builtin.append_, run_underlying ht, sizeOf, typeInfo, hi, Builtin.lenOf, Builtin.firstCells, hnc, storeCells]

theorem flatten_len (size : Nat) : ∀ (rows : List (List Value)), (∀ r ∈ rows, r.length = size) → rows.flatten.length = rows.length * size
  | [], _ => by simp
  | r :: rest, h => by
    have h1 := flatten_len size rest (fun r hr => h r (by simp [hr]))
    have h2 := h r (by simp)
    rw [List.flatten_cons, List.length_append, h1, h2, List.length_cons, Nat.succ_mul]; omega
theorem flatten_get (size : Nat) (pos : 0 < size) (rows : List (List Value)) (h : ∀ r ∈ rows, r.length = size) (j : Nat) (u : Value) (hu : rows.flatten[j]? = some u) :
    ∃ r, rows[j / size]? = some r ∧ r[j % size]? = some u := by
  have hj : j < rows.flatten.length := (List.getElem?_eq_some_iff.1 hu).1
  rw [flatten_len size rows h] at hj
  have hk : j / size < rows.length := Nat.div_lt_of_lt_mul (by rw [Nat.mul_comm]; exact hj)
  have hm : j % size < size := Nat.mod_lt _ pos
  have hr : rows[j / size]? = some rows[j / size] := List.getElem?_eq_getElem hk
  have hrl := h _ (List.getElem_mem hk)
  refine ⟨_, hr, ?_⟩
  have h2 := flatten_at size rows h (j / size) _ hr (j % size) (rows[j / size][j % size]'(by omega)) (List.getElem?_eq_getElem (by omega))
  rw [show j / size * size + j % size = j by have := Nat.div_add_mod j size; rw [Nat.mul_comm] at this; exact this, hu] at h2
  injection h2 with h2
  rw [List.getElem?_eq_getElem (by omega), h2]

/-- 'append(s, x...)': the source reads as the rows 'news'. -/
theorem run_appN {P : Program} (w : World) {t e : TypeId} {size bytes : Nat} (E : ElTy P t e size bytes) (ty : TypeId) (base : Nat) (rows : List (List Value)) (v : Value) (hown : OwnC w base e size rows v)
    (B : Nat) (news : List (List Value)) (x : Value) (hx : SlC w B size news x) (hl : ∀ r ∈ news, r.length = size) (h1 : ∀ r ∈ news, ∀ u ∈ r, u.oneCell' = true)
    (hbytes : (rows.length + news.length) * bytes ≤ 140737488355328) (h63 : rows.length + news.length ≤ maxLen) (hbase : base ≤ w.heap.size) :
    ∃ v' w', (Builtin.append_ #[t, t] ty #[v, x]).run P w = .ok v' w' ∧ OwnC w' base e size (rows ++ news) v' ∧ w.grownBy w' v.ownBlock ∧ (v'.ownBlock = v.ownBlock ∨ v'.ownBlock = some w.heap.size) := by
  obtain ⟨ht, ⟨i, z, hi, hz, h2, h3, h4⟩, pos⟩ := E
  obtain ⟨A, c, rfl, _, _, hc⟩ := hx
  rcases A with _ | ad
  · have hm : news = [] := by
      rcases news with _ | ⟨r, rest⟩
      · rfl
      · obtain ⟨_, _, h, _⟩ := hc (by simp)
        cases h
    subst hm
    exact ⟨v, w, run_append_of_nil w base t ty e i size ht hi v _ _ hown.1 c, by simpa using hown, World.grownBy.refl w _, .inl rfl⟩
  · have hnews : ∀ j u, news.flatten[j]? = some u → w.cell? (ad.add j) = some u := by
      intro j u hu
      have hj : j < news.flatten.length := (List.getElem?_eq_some_iff.1 hu).1
      rw [flatten_len size news hl] at hj
      have hpos : 0 < news.length := by
        rcases Nat.eq_zero_or_pos news.length with h | h
        · rw [h] at hj; omega
        · exact h
      obtain ⟨b, off, he, _, hcell⟩ := hc hpos
      injection he with he
      subst he
      obtain ⟨r, hr, hru⟩ := flatten_get size pos news hl j u hu
      have := hcell _ r hr _ u hru
      rw [add_at]
      rw [show off + j / size * size + j % size = off + j by have := Nat.div_add_mod j size; rw [Nat.mul_comm] at this; omega] at this
      exact this
    obtain ⟨v', w', hr, ho, hg, _, hat⟩ := run_append_own_at (P := P) w base t ty e i z size bytes ht hi hz h2 h3 h4 pos v rows.length rows.flatten hown.1 ad news.length c news.flatten (flatten_len size news hl) hnews
      (by intro u hu; obtain ⟨r, hr, hur⟩ := List.mem_flatten.1 hu; exact h1 r hr u hur) h63 hbytes hbase
    refine ⟨v', w', hr, ⟨by simpa using ho, fun r hr => ?_⟩, hg, hat⟩
    rcases List.mem_append.1 hr with h | h
    · exact hown.2 r h
    · exact hl r h

theorem wpList_appN {P : Program} (w : World) {ops : Array Oper} {rest : List Oper} {o : Oper} {a : Act} {Q : Exit → Act → World → Prop} (hgd : o.guard = none) (s x : Operand) (t : TypeId)
    (ho : o.op = .call { callee := .builtin .append, args := #[s, x], argTypes := #[t, t] })
    {e : TypeId} {size bytes : Nat} (E : ElTy P t e size bytes) (base : Nat) (rows : List (List Value)) (v : Value) (hs : a.eval s = v) (hown : OwnC w base e size rows v)
    (B : Nat) (news : List (List Value)) (xv : Value) (hxv : a.eval x = xv) (hx : SlC w B size news xv) (hl : ∀ r ∈ news, r.length = size) (h1 : ∀ r ∈ news, ∀ u ∈ r, u.oneCell' = true)
    (hbytes : (rows.length + news.length) * bytes ≤ 140737488355328) (h63 : rows.length + news.length ≤ maxLen) (hbase : base ≤ w.heap.size)
    (h : ∀ v' w', OwnC w' base e size (rows ++ news) v' → w.grownBy w' v.ownBlock → Below base w w' → (v'.ownBlock = v.ownBlock ∨ v'.ownBlock = some w.heap.size) → wpList P ops Q rest (a.put o.dst v') w') :
    wpList P ops Q (o :: rest) a w := by
  refine wpList_plain hgd fun K hK => ?_
  obtain ⟨v', w', hr, h2, h3, h4⟩ := run_appN w E o.type base rows v hown B news xv hx hl h1 hbytes h63 hbase
  unfold Oper.wp execOp
  simp only [ho, resolve, invoke, builtin, Sem.run_bind, Sem.run_pure, Result.andThen_ok, List.map_toArray, List.map_cons, List.map_nil, hs, hxv, hr]
  exact hK _ _ (h v' w' h2 h3 ((Below.refl base _).grown h3 hbase (fun k hk => (hown.lt k hk).1)) h4)

/-- Append, as one step of a region that draws. -/
theorem step_appN {P : Program} {ops : Array Oper} {o : Oper} {a : Act} {w : World} {K : Act → World → Prop} {Q : Exit → Act → World → Prop} {E' : Prop} (hgd : o.guard = none) (s x : Operand) (t : TypeId)
    (ho : o.op = .call { callee := .builtin .append, args := #[s, x], argTypes := #[t, t] })
    {e : TypeId} {size bytes : Nat} (E : ElTy P t e size bytes) (base : Nat) (rows : List (List Value)) (v : Value) (hs : a.eval s = v) (hown : OwnC w base e size rows v)
    (B : Nat) (news : List (List Value)) (xv : Value) (hxv : a.eval x = xv) (hx : SlC w B size news xv) (hl : ∀ r ∈ news, r.length = size) (h1 : ∀ r ∈ news, ∀ u ∈ r, u.oneCell' = true)
    (hbytes : (rows.length + news.length) * bytes ≤ 140737488355328) (h63 : rows.length + news.length ≤ maxLen) (hbase : base ≤ w.heap.size)
    (h : ∀ v' w', OwnC w' base e size (rows ++ news) v' → w.grownBy w' v.ownBlock → Below base w w' → (v'.ownBlock = v.ownBlock ∨ v'.ownBlock = some w.heap.size) → K (a.put o.dst v') w') :
    if Region.wanted o (yielded ops a.tmps) = true then Oper.wp P o a w K Q else E' := by
  have hw : Region.wanted o (yielded ops a.tmps) = true := by simp [Region.wanted, hgd]
  rw [if_pos hw]
  obtain ⟨v', w', hr, h2, h3, h4⟩ := run_appN w E o.type base rows v hown B news xv hx hl h1 hbytes h63 hbase
  unfold Oper.wp execOp
  simp only [ho, resolve, invoke, builtin, Sem.run_bind, Sem.run_pure, Result.andThen_ok, List.map_toArray, List.map_cons, List.map_nil, hs, hxv, hr]
  exact h v' w' h2 h3 ((Below.refl base _).grown h3 hbase (fun k hk => (hown.lt k hk).1)) h4

/-- An empty slice over a new block of no cells. -/
theorem OwnC.empty_ {w0 : World} {base : Nat} (e : TypeId) (size : Nat) (hb : base ≤ w0.heap.size) : OwnC (w0.alloc (.cells #[] e)) base e size [] (.slice (some ⟨w0.heap.size, 0, none⟩) 0 0) :=
  ⟨World.ownsRow_made w0 #[] 0 hb (Nat.zero_le _) (by simp), by simp⟩

theorem flatten_set (size : Nat) (u : Value) : ∀ (rows : List (List Value)), (∀ r ∈ rows, r.length = size) → ∀ (k j : Nat) (r : List Value), rows[k]? = some r → j < size → (rows.set k (r.set j u)).flatten = rows.flatten.set (k * size + j) u := by
  intro rows
  induction rows with
  | nil => intro _ k j r hr; simp at hr
  | cons r0 rest ih =>
    intro hl k j r hr hj
    have hl0 : r0.length = size := hl r0 (by simp)
    cases k with
    | zero =>
      simp at hr
      subst hr
      rw [List.set_cons_zero, List.flatten_cons, List.flatten_cons, Nat.zero_mul, Nat.zero_add, List.set_append_left _ _ (by omega)]
    | succ k =>
      simp at hr
      rw [List.set_cons_succ, List.flatten_cons, List.flatten_cons, List.set_append_right _ _ (by rw [hl0, Nat.succ_mul]; omega), ih (fun r h => hl r (by simp [h])) k j r hr hj]
      congr 2
      rw [hl0, Nat.succ_mul]; omega

/-- A store into row k of an owned slice, at its cell j. -/
theorem OwnC.set_ {w : World} {base : Nat} {e : TypeId} {size : Nat} {rows : List (List Value)} {g n cap : Nat} (h : OwnC w base e size rows (.slice (some ⟨g, 0, none⟩) n cap)) {k j : Nat} {r : List Value} (hr : rows[k]? = some r) (hj : j < size) (u : Value) :
    OwnC (w.setCell ⟨g, k * size + j, none⟩ u) base e size (rows.set k (r.set j u)) (.slice (some ⟨g, 0, none⟩) n cap) := by
  obtain ⟨ho, hl⟩ := h
  have hn : n = rows.length := by
    rcases ho.2 with ⟨hv, _⟩ | ⟨g', cap', cur, hv, _⟩
    · cases hv
    · injection hv
  subst hn
  have hk : k < rows.length := (List.getElem?_eq_some_iff.1 hr).1
  have hs := World.ownsRow.stored ho (k * size + j) u
  refine ⟨?_, fun x hx => ?_⟩
  · rw [List.length_set, flatten_set size u rows hl k j r hr hj]
    exact hs.1
  · rcases List.mem_or_eq_of_mem_set hx with h | rfl
    · exact hl x h
    · rw [List.length_set]; exact hl r (List.mem_of_getElem? hr)
/-- What an owned slice that is not empty looks like; its cells are not frozen. -/
theorem OwnC.form {w : World} {base : Nat} {e : TypeId} {size : Nat} {rows : List (List Value)} {v : Value} (h : OwnC w base e size rows v) (hn : 0 < rows.length) :
    ∃ g cap, v = .slice (some ⟨g, 0, none⟩) rows.length cap ∧ base ≤ g ∧ g < w.heap.size ∧ rows.length ≤ cap ∧ cap ≤ maxLen ∧ ∀ j, w.frozen? ⟨g, j, none⟩ = false := by
  obtain ⟨ho, hl⟩ := h
  have hlt := ho.lt
  rcases id ho.2 with ⟨_, h0⟩ | ⟨g, cap, cur, rfl, hbg, hg, h1, h2, _⟩
  · omega
  · exact ⟨g, cap, rfl, hbg, (hlt g rfl).2, h1, h2, fun j => World.ownsRow.frozenAt ho j⟩
theorem OwnC.cellAt {w : World} {base : Nat} {e : TypeId} {size : Nat} {rows : List (List Value)} {g n cap : Nat} (h : OwnC w base e size rows (.slice (some ⟨g, 0, none⟩) n cap)) {k j : Nat} {r : List Value} {u : Value} (hr : rows[k]? = some r) (hu : r[j]? = some u) :
    w.cell? ⟨g, k * size + j, none⟩ = some u := by
  obtain ⟨b, off, he, _, hc⟩ := h.sl.at_ hr
  injection he with he
  injection he with he1 he2
  subst he1; subst he2
  simpa using hc j u hu
theorem OwnC.lower {w : World} {base base' : Nat} {e : TypeId} {size : Nat} {rows : List (List Value)} {v : Value} (h : OwnC w base e size rows v) (hb : base' ≤ base) : OwnC w base' e size rows v := by
  refine ⟨⟨h.1.1, ?_⟩, h.2⟩
  rcases h.1.2 with h0 | ⟨g, cap, cur, hv, hbg, r⟩
  · exact .inl h0
  · exact .inr ⟨g, cap, cur, hv, Nat.le_trans hb hbg, r⟩
theorem OwnC.setBelow {w : World} {base : Nat} {e : TypeId} {size : Nat} {rows : List (List Value)} {v : Value} (h : OwnC w base e size rows v) {p : Addr} (hp : p.block < base) (u : Value) : OwnC (w.setCell p u) base e size rows v :=
  ⟨ownsRow_setCell_below h.1 hp u, h.2⟩

/-- The string of one byte. -/
def byteStr (n : Int) : ByteArray := ⟨#[UInt8.ofNat n.toNat]⟩

/-- 'string(b)' of the one-byte slice that was made just before. -/
theorem wpList_conv_byte {P : Program} (w : World) {ops : Array Oper} {rest : List Oper} {o : Oper} {a : Act} {Q : Exit → Act → World → Prop} (hgd : o.guard = none) (x : Operand) (src dst e : TypeId)
    (ho : o.op = .convert src dst x) (hs : P.underlying src = some (.slice e)) (he : P.underlying e = some (.int .u8)) (hd : P.underlying dst = some .string)
    (w0 : World) (n : Int) (ty : TypeId) (hw : w = w0.alloc (.cells #[.int .u8 n] ty)) (g c : Nat) (hx : a.eval x = .slice (some ⟨g, 0, none⟩) 1 c) (hg : w0.heap.size = g)
    (h : wpList P ops Q rest (a.put o.dst (.string (byteStr n))) w) : wpList P ops Q (o :: rest) a w := by
  refine wpList_plain hgd fun K hK => ?_
  subst hw; subst hg
  have hr := run_convert_bytes_arg (P := P) (w0.alloc (.cells #[.int .u8 n] ty)) src e hs he w0.heap.size 0 1 c [n] rfl (fun i hi => by
    have : i = 0 := by omega
    subst this
    have hnew := heap_alloc_new w0 (.cells #[.int .u8 n] ty)
    simp only [World.cell?, hnew]
    simp) dst hd
  unfold Oper.wp
  simp [execOp, ho, hx, hr, Result.andThen]
  exact hK _ _ h

/-- A region that draws: all operations but the tail only read: one walk in the order of the text, then the tail. -/
theorem region_tail {P : Program} {id : Nat} {Q : Exit → Act → World → Prop} {a : Act} {w : World} {l : List Oper} (n : Nat) (hm : P.follows .mixedOrders = true) (hB : Region.lexTailB .any l.toArray n = true)
    (h : wpStill P l.toArray w.drew (fun a' => wpList P l.toArray Q (l.drop n) a' w.drew) (l.take n) a) : (Code.region id l.toArray true).wp P Q a w := wp_region_still_tail n hm hB h

end Go.Sup
