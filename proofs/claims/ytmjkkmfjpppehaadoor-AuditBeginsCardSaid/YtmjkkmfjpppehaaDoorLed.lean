/- The ledger in memory; what New, put and Open do to it. -/
import Derived.Test.YtmjkkmfjpppehaaDoorNames
import Derived.Test.YtmjkkmfjpppehaaDoorOwn
import Derived.StillTailTactics
namespace Go.Proofs.YtmjkkmfjpppehaaDoor
open Go.RowKit Go.Sup
set_option maxRecDepth 100000
/-- Of the old blocks only those of S may have turned. -/
structure Turns (S : List Nat) (w w' : World) : Prop where
  os : w'.os = w.os
  tape : w'.tape = w.tape
  output : w'.output = w.output
  size : w.heap.size ≤ w'.heap.size
  block : ∀ i, i < w.heap.size → i ∉ S → w'.heap[i]? = w.heap[i]?
theorem Turns.refl (S : List Nat) (w : World) : Turns S w w := ⟨rfl, rfl, rfl, Nat.le_refl _, fun _ _ _ => rfl⟩
theorem Turns.trans {S : List Nat} {a b c : World} (h : Turns S a b) (k : Turns S b c) : Turns S a c :=
  ⟨k.os.trans h.os, k.tape.trans h.tape, k.output.trans h.output, Nat.le_trans h.size k.size, fun i hi hS => (k.block i (Nat.lt_of_lt_of_le hi h.size) hS).trans (h.block i hi hS)⟩
theorem Turns.of_below {S : List Nat} {w w' : World} (h : Below w.heap.size w w') : Turns S w w' := ⟨h.os, h.tape, h.output, h.size, fun i hi _ => h.block i hi⟩
theorem Turns.mono {S S' : List Nat} {w w' : World} (h : Turns S w w') (hs : ∀ i ∈ S, i < w.heap.size → i ∈ S') : Turns S' w w' :=
  ⟨h.os, h.tape, h.output, h.size, fun i hi hS => h.block i hi (fun hm => hS (hs i hm hi))⟩
theorem Turns.only {S : List Nat} {a w w' : World} {b : Nat} (h : Turns S a w) (ho : OnlyB w w' b) (hb : b ∈ S ∨ a.heap.size ≤ b) : Turns S a w' :=
  ⟨ho.os.trans h.os, ho.tape.trans h.tape, ho.output.trans h.output, by rw [ho.size]; exact h.size, fun i hi hS => (ho.block i (fun e => by subst e; rcases hb with hb | hb; exact hS hb; omega)).trans (h.block i hi hS)⟩
theorem Turns.set_ {S : List Nat} {a w : World} {p : Addr} (h : Turns S a w) (hb : p.block ∈ S ∨ a.heap.size ≤ p.block) (u : Value) : Turns S a (w.setCell p u) :=
  ⟨h.os, h.tape, h.output, by simpa [World.setCell] using h.size, fun i hi hS => (Below.heap_setCell w p u i (fun e => by subst e; rcases hb with hb | hb; exact hS hb; omega)).trans (h.block i hi hS)⟩
theorem Turns.alloc {S : List Nat} {a w : World} (h : Turns S a w) (o : Obj) : Turns S a (w.alloc o) :=
  ⟨h.os, h.tape, h.output, Nat.le_trans h.size (by simp), fun i hi hS => (Below.heap_alloc w o i (Nat.lt_of_lt_of_le hi h.size)).trans (h.block i hi hS)⟩
theorem Turns.drewN {S : List Nat} {a w : World} (h : Turns S a w) (n : Nat) : Turns S a (w.drewN n) := ⟨h.os, h.tape, h.output, h.size, h.block⟩
theorem Turns.drew {S : List Nat} {a w : World} (h : Turns S a w) : Turns S a w.drew := ⟨h.os, h.tape, h.output, h.size, h.block⟩
theorem Turns.below {S : List Nat} {a w w' : World} (h : Turns S a w) (k : Below w.heap.size w w') : Turns S a w' := h.trans (.of_below k)
theorem Turns.grown {S : List Nat} {a w w' : World} {row : Option Nat} (h : Turns S a w) (hg : w.grownBy w' row) (hr : ∀ g, row = some g → g ∈ S ∨ a.heap.size ≤ g) : Turns S a w' :=
  ⟨hg.os.trans h.os, hg.tape.trans h.tape, hg.output.trans h.output, Nat.le_trans h.size hg.size, fun i hi hS => (hg.block i (Nat.lt_of_lt_of_le hi h.size) (fun e => by rcases hr i e.symm with h1 | h1; exact hS h1; omega)).trans (h.block i hi hS)⟩
theorem Turns.to_below {S : List Nat} {w w' : World} {B : Nat} (h : Turns S w w') (hB : B ≤ w.heap.size) (hS : ∀ i ∈ S, B ≤ i) : Below B w w' :=
  ⟨h.os, h.tape, h.output, h.size, fun i hi => h.block i (by omega) (fun hm => by have := hS i hm; omega)⟩

section
variable {w w' : World} {S : List Nat}
theorem OwnC.turns {base : Nat} {e : TypeId} {size : Nat} {rows : List (List Value)} {v : Value} (h : OwnC w base e size rows v) (hT : Turns S w w') (hS : ∀ g, v.ownBlock = some g → g ∉ S) : OwnC w' base e size rows v := by
  have hlt := h.lt
  obtain ⟨⟨h1, h2⟩, h3⟩ := h
  refine ⟨⟨h1, ?_⟩, h3⟩
  rcases h2 with h0 | ⟨g, cap, cur, hv, hbg, hg, r⟩
  · exact .inl h0
  · have hg' := hlt g (by rw [hv]; rfl)
    exact .inr ⟨g, cap, cur, hv, hbg, (hT.block g hg'.2 (hS g (by rw [hv]; rfl))).trans hg, r⟩
theorem MapOf.turns {κ β : Type} [DecidableEq κ] {encK : κ → Value} {encV : β → Value} {ok : κ → Prop} {b : Nat} {l : List (κ × β)} (h : MapOf encK encV ok w b l) (hT : Turns S w w') (hS : b ∉ S) : MapOf encK encV ok w' b l :=
  h.keep (hT.block b h.lt hS)
/-- The block of an owned slice bears the elements' type. -/
theorem OwnC.typed {base : Nat} {e : TypeId} {size : Nat} {rows : List (List Value)} {v : Value} (h : OwnC w base e size rows v) {g : Nat} (hg : v.ownBlock = some g) : ∃ cur, w.heap[g]? = some (.cells cur e (0, 0)) := by
  rcases h.1.2 with ⟨rfl, _⟩ | ⟨g', cap, cur, rfl, _, hh, _⟩
  · cases hg
  · injection hg with hg; subst hg; exact ⟨cur, hh⟩
end

structure LG where
  owner : ByteArray
  accts : List (KeyD × AcctD)
  posts : List PostD
  holds : List (ByteArray × HoldD)
/-- The ledger L lies at block b; its maps at m and h; its posts are the slice pv. -/
structure LedAt (w : World) (b m h : Nat) (pv : Value) (L : LG) : Prop where
  cells : w.heap[b]? = some (.cells #[.string L.owner, .map (some m), pv, .map (some h)] 70 (0, 0))
  accts : MapOf encKey encAcct okKey w m L.accts
  holds : MapOf Value.string encHold okStr w h L.holds
  apart : m ≠ h
  posts : ∃ rows, All2 (PostD.Own w 0) L.posts rows ∧ OwnC w 0 89 3 rows pv
section
variable {w w' : World} {b m h : Nat} {pv : Value} {L : LG}
theorem LedAt.c0 (H : LedAt w b m h pv L) : w.cell? ⟨b, 0, none⟩ = some (.string L.owner) := by simp [World.cell?, H.cells]
theorem LedAt.c1 (H : LedAt w b m h pv L) : w.cell? ⟨b, 1, none⟩ = some (.map (some m)) := by simp [World.cell?, H.cells]
theorem LedAt.c2 (H : LedAt w b m h pv L) : w.cell? ⟨b, 2, none⟩ = some pv := by simp [World.cell?, H.cells]
theorem LedAt.c3 (H : LedAt w b m h pv L) : w.cell? ⟨b, 3, none⟩ = some (.map (some h)) := by simp [World.cell?, H.cells]
theorem LedAt.fz (H : LedAt w b m h pv L) (i : Nat) : w.frozen? ⟨b, i, none⟩ = false := by simp [World.frozen?, H.cells]
theorem LedAt.blt (H : LedAt w b m h pv L) : b < w.heap.size := (Array.getElem?_eq_some_iff.1 H.cells).1
theorem LedAt.bm (H : LedAt w b m h pv L) : b ≠ m := by
  obtain ⟨es, clock, h0, _⟩ := H.accts
  intro e; have := H.cells; rw [e, h0] at this; cases this
theorem LedAt.bh (H : LedAt w b m h pv L) : b ≠ h := by
  obtain ⟨es, clock, h0, _⟩ := H.holds
  intro e; have := H.cells; rw [e, h0] at this; cases this
/-- The posts' own block is none of the others. -/
theorem LedAt.gne (H : LedAt w b m h pv L) {g : Nat} (hg : pv.ownBlock = some g) : g ≠ b ∧ g ≠ m ∧ g ≠ h := by
  obtain ⟨rows, _, ho⟩ := H.posts
  obtain ⟨cur, hc⟩ := OwnC.typed ho hg
  obtain ⟨es, clock, h0, _⟩ := H.accts
  obtain ⟨es', clock', h0', _⟩ := H.holds
  refine ⟨fun e => ?_, fun e => ?_, fun e => ?_⟩
  · rw [e, H.cells] at hc; injection hc with hc; injection hc with _ ht; cases ht
  · rw [e, h0] at hc; cases hc
  · rw [e, h0'] at hc; cases hc
/-- A post's entries stay where blocks of other kinds turn. -/
theorem PostD.Own.turns {S : List Nat} {p : PostD} {r : List Value} (hp : PostD.Own w 0 p r) (hT : Turns S w w') (hS : ∀ i ∈ S, ∀ cur f, w.heap[i]? ≠ some (.cells cur 57 f)) : PostD.Own w' 0 p r := by
  obtain ⟨v, e, ho⟩ := hp
  refine ⟨v, e, OwnC.turns ho hT fun g hg hm => ?_⟩
  obtain ⟨cur, hc⟩ := OwnC.typed ho hg
  exact hS g hm cur _ hc
/-- Blocks of other kinds than a row of entries. -/
theorem LedAt.kinds (H : LedAt w b m h pv L) : ∀ i ∈ [b, m, h], ∀ cur f, w.heap[i]? ≠ some (.cells cur 57 f) := by
  obtain ⟨es, clock, h0, _⟩ := H.accts
  obtain ⟨es', clock', h0', _⟩ := H.holds
  intro i hi cur f hc
  simp at hi
  rcases hi with rfl | rfl | rfl
  · rw [H.cells] at hc; injection hc with hc; injection hc with _ ht; cases ht
  · rw [h0] at hc; cases hc
  · rw [h0'] at hc; cases hc
theorem LedAt.postsAt (H : LedAt w b m h pv L) : PostsAt w w.heap.size L.posts pv := by
  obtain ⟨rows, ha, ho⟩ := H.posts
  refine ⟨rows, ha.imp fun p r hp => ?_, ho.sl⟩
  obtain ⟨v, e, hv⟩ := hp
  exact ⟨v, e, hv.sl⟩
/-- A world in which no block of the ledger's has turned. -/
theorem LedAt.turns {S : List Nat} (H : LedAt w b m h pv L) (hT : Turns S w w') (hb : b ∉ S) (hm : m ∉ S) (hh : h ∉ S) (hg : ∀ g, pv.ownBlock = some g → g ∉ S) (hS : ∀ i ∈ S, ∀ cur f, w.heap[i]? ≠ some (.cells cur 57 f)) : LedAt w' b m h pv L := by
  obtain ⟨rows, ha, ho⟩ := H.posts
  exact ⟨(hT.block b H.blt hb).trans H.cells, MapOf.turns H.accts hT hm, MapOf.turns H.holds hT hh, H.apart, rows, ha.imp fun p r hp => hp.turns hT hS, OwnC.turns ho hT hg⟩
/-- Only the accounts' map has turned. -/
theorem LedAt.setAccts (H : LedAt w b m h pv L) (hT : Turns [m] w w') {l : List (KeyD × AcctD)} (hm : MapOf encKey encAcct okKey w' m l) : LedAt w' b m h pv { L with accts := l } := by
  obtain ⟨rows, ha, ho⟩ := H.posts
  refine ⟨(hT.block b H.blt (by simpa using H.bm)).trans H.cells, hm, MapOf.turns H.holds hT (by simpa using Ne.symm H.apart), H.apart, rows, ha.imp fun p r hp => hp.turns hT (fun i hi => H.kinds i (by simp at hi; simp [hi])), OwnC.turns ho hT (fun g hg => by simpa using (H.gne hg).2.1)⟩
theorem LedAt.below (H : LedAt w b m h pv L) (hb : Below w.heap.size w w') : LedAt w' b m h pv L :=
  H.turns (S := []) (.of_below hb) (by simp) (by simp) (by simp) (by simp) (by simp)
end

theorem new_any (o : ByteArray) (w : World) : Calls Tryd.prog 12 #[.string o] w fun e w' => ∃ b m h, e = .returned (.pointer (some ⟨b, 0, none⟩)) ∧ w.heap.size ≤ b ∧ w.heap.size ≤ m ∧ w.heap.size ≤ h ∧ LedAt w' b m h (.slice none 0 0) ⟨o, [], [], []⟩ ∧ Below w.heap.size w w' := by
  have hmm := @run_makeMap Tryd.prog
  go_enter Tryd.func12, Tryd.ntmps12
  go_wp2
  go_ret
  have h1 : MapOf encKey encAcct okKey (w.alloc (.map #[] 0)) w.heap.size [] := MapOf.made w
  have h2 : MapOf Value.string encHold okStr ((w.alloc (.map #[] 0)).alloc (.map #[] 0)) (w.alloc (.map #[] 0)).heap.size [] := MapOf.made _
  refine ⟨w.heap.size + 2, w.heap.size, w.heap.size + 1, rfl, by omega, by omega, by omega, ⟨?_, (h1.alloc _).alloc _, ?_, by omega, [], trivial, OwnC.nil_ _ _ _ _⟩, ?_⟩
  · have := heap_alloc_new ((w.alloc (.map #[] 0)).alloc (.map #[] 0)) (.cells #[.string o, .map (some w.heap.size), .slice none 0 0, .map (some (w.heap.size + 1))] 70)
    simpa using this
  · have := h2.alloc (.cells #[.string o, .map (some w.heap.size), .slice none 0 0, .map (some (w.heap.size + 1))] 70)
    simpa using this
  · exact (((Below.refl _ _).alloc (Nat.le_refl _) _).alloc (by simp) _).alloc (by simp; omega) _

set_option maxHeartbeats 400000 in
theorem put_any (w : World) (b m h : Nat) (pv : Value) (L : LG) (H : LedAt w b m h pv L) (k : KeyD) (hk : okKey k) (fl : Int) :
    Calls Tryd.prog 31 #[.pointer (some ⟨b, 0, none⟩), encKey k, .int .i64 fl] w fun e w' => e = .returned (.tuple #[]) ∧ LedAt w' b m h pv { L with accts := putL L.accts k ⟨fl, 0, 0⟩ } ∧ Turns [m] w w' := by
  have c1 := H.c1
  have hb := H.blt
  have H' := Lib.hid H
  clear H
  unfold encKey
  go_enter Tryd.func31, Tryd.ntmps31
  go_wp2
  refine region_tail 7 (by kernel_rfl) (by kernel_rfl) ?_
  simp only [List.take_succ_cons, List.take_zero, List.drop_succ_cons, List.drop_zero]
  repeat still_step
  refine wpStill_nil ?_
  refine wpList_mapUpdate_at (encK := encKey) (encV := encAcct) (ok := okKey) (b := m) (l := L.accts) rfl (.tmp 9) (.tmp 10) (.tmp 12) rfl encKey_key Tryd.underlying67 ((H'.out.accts.alloc _).drew) k hk ⟨fl, 0, 0⟩ rfl rfl rfl ?_
  intro w1 hm1 ho1
  go_wp2
  go_end0
  have hT : Turns [m] w w1 := ((Turns.refl [m] w).alloc _).drew.only ho1 (.inl (by simp))
  exact ⟨rfl, H'.out.setAccts hT hm1, hT⟩

/-- 'Open' where all is right: an account more. -/
theorem open_any (w : World) (b m h : Nat) (pv : Value) (L : LG) (H : LedAt w b m h pv L) (a c : ByteArray) (ha : GoodN a) (hc : GoodC c) (fl : Int) (hf1 : -1099511627776 ≤ fl) (hf2 : fl ≤ 0) (hn : ∀ p ∈ L.accts, p.1 ≠ (a, c)) (hl : L.accts.length < 4096) :
    Calls Tryd.prog 13 #[.pointer (some ⟨b, 0, none⟩), .string a, .string c, .int .i64 fl] w fun e w' => e = .returned (.int .i64 0) ∧ LedAt w' b m h pv { L with accts := L.accts ++ [((a, c), ⟨fl, 0, 0⟩)] } ∧ Turns [m] w w' := by
  have hk : okKey (a, c) := ⟨by show a.size ≤ _; have := ha.hi; unfold maxLen; omega, by show c.size ≤ _; have := hc.len; unfold maxLen; omega⟩
  have c1 := H.c1
  have hb := H.blt
  have H' := Lib.hid H
  have Hput := Lib.hid (putL_new (⟨fl, 0, 0⟩ : AcctD) hn)
  have Hn := Lib.hid (getL_none hn)
  have HN := Lib.hid ha
  have HC := Lib.hid hc
  clear H hn ha hc
  go_enter Tryd.func13, Tryd.ntmps13
  go_wp2_with fail
  have hlk : ∀ W, MapOf encKey encAcct okKey W m L.accts → (Instr.lookup 67 (.map (some m)) (.agg #[.string a, .string c]) true).run Tryd.prog W = .ok (.tuple #[.agg #[.int .i64 0, .int .i64 0, .int .i64 0], .bool false]) W := by
    intro W hW
    have := hW.lookup (P := Tryd.prog) encKey_key Tryd.underlying67 (z := .agg #[.int .i64 0, .int .i64 0, .int .i64 0]) (by kernel_rfl) (a, c) hk true
    rw [Hn.out] at this
    exact this
  have l1 := hlk ((w.alloc (.cells #[.string a, .string c] 72)).drew) (H'.out.accts.alloc _).drew
  have l2 := hlk (((w.alloc (.cells #[.string a, .string c] 72)).alloc (.cells #[.int .i64 0, .int .i64 0, .int .i64 0] 74)).drew) ((H'.out.accts.alloc _).alloc _).drew
  clear hlk
  go_region
  all_goals
    go_wp2_with fail
    refine (name_any a HN.out _).mono ?_
    rintro e w1 ⟨rfl, hb1⟩
    go_wp2_with fail
    refine (currency_any c HC.out _).mono ?_
    rintro e w2 ⟨rfl, hb2⟩
    have hb3 := hb1.trans (hb2.mono hb1.size)
    have hB : Below w.heap.size w w2 := (((Below.refl w.heap.size w).alloc (Nat.le_refl _) (.cells #[.string a, .string c] 72)).alloc (by simp) (.cells #[.int .i64 0, .int .i64 0, .int .i64 0] 74)).drew.trans (hb3.mono (by simp; omega))
    have hL2 := H'.out.below hB
    have hlen := fun ty => hL2.accts.len_ (P := Tryd.prog) Tryd.underlying67 ty
    have d1 := hL2.c1
    have d2 : w2.cell? ⟨w.heap.size, 0, none⟩ = some (.string a) := (hb3.cell (p := ⟨w.heap.size, 0, none⟩) (by simp; omega)).trans (by simp)
    have d3 : w2.cell? ⟨w.heap.size, 1, none⟩ = some (.string c) := (hb3.cell (p := ⟨w.heap.size, 1, none⟩) (by simp; omega)).trans (by simp)
    have HL2 := Lib.hid hL2
    have hT : Turns [m] w w2 := Turns.of_below hB
    have HT := Lib.hid hT
    clear hT hL2 hB hb1 hb2 hb3 l1 l2 c1
    go_wp2_with fail
    refine (put_any w2 b m h pv L HL2.out (a, c) hk fl).mono ?_
    rintro e w3 ⟨rfl, hL3, hT3⟩
    have HL3 := Lib.hid hL3
    have HT3 := Lib.hid hT3
    clear hL3 hT3
    go_wp2
    go_ret
    exact ⟨rfl, by have := HL3.out; rw [Hput.out] at this; exact this, HT.out.trans HT3.out⟩
end Go.Proofs.YtmjkkmfjpppehaaDoor
