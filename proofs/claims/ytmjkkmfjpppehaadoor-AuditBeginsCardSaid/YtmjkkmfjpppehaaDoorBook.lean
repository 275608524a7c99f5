/- A post that may be: the accounts' balances, and the post itself. -/
import Derived.Test.YtmjkkmfjpppehaaDoorWrong
import Derived.Deep.RegionHeld3
import Derived.Deep.DeepCutAuto
namespace Go.Proofs.YtmjkkmfjpppehaaDoor
open Go.RowKit Go.Sup
set_option maxRecDepth 100000
def AcctD.plus (a : AcctD) (n : Int) : AcctD := { a with bal := a.bal + n }
/-- The accounts behind the changes that are no longer left. -/
def upd (ch : List (KeyD × Int)) (p : KeyD × AcctD) : KeyD × AcctD := match getL ch p.1 with | some n => (p.1, p.2.plus n) | none => p
def cur (ch left : List (KeyD × Int)) (accts : List (KeyD × AcctD)) : List (KeyD × AcctD) := accts.map fun p => if (getL left p.1).isSome then p else upd ch p
theorem upd_key (ch : List (KeyD × Int)) (p : KeyD × AcctD) : (upd ch p).1 = p.1 := by unfold upd; split <;> rfl
theorem cur_start (ch : List (KeyD × Int)) (accts : List (KeyD × AcctD)) : cur ch ch accts = accts := by
  unfold cur
  conv => rhs; rw [← List.map_id accts]
  refine List.map_congr_left fun p _ => ?_
  cases hg : getL ch p.1 with
  | none => simp [upd, hg]
  | some n => simp
theorem cur_end (ch : List (KeyD × Int)) (accts : List (KeyD × AcctD)) : cur ch [] accts = accts.map (upd ch) := by
  unfold cur
  refine List.map_congr_left fun p _ => ?_
  simp [getL_nil]
theorem getL_cur (ch left : List (KeyD × Int)) (accts : List (KeyD × AcctD)) (k : KeyD) : getL (cur ch left accts) k = (getL accts k).map fun s => if (getL left k).isSome then s else (upd ch (k, s)).2 := by
  unfold cur
  induction accts with
  | nil => rfl
  | cons p l ih =>
    rw [List.map_cons, getL_cons, getL_cons, ih]
    have hk : (if (getL left p.1).isSome then p else upd ch p).1 = p.1 := by split; rfl; exact upd_key ch p
    rw [hk]
    by_cases h : p.1 = k
    · subst h; simp; split <;> simp
    · simp [h]
theorem getL_split {α : Type} {A B : List (KeyD × α)} {p : KeyD × α} (hn : ((A ++ p :: B).map (·.1)).Nodup) (k : KeyD) : getL (A ++ B) k = if p.1 = k then none else getL (A ++ p :: B) k := by
  induction A with
  | nil =>
    rw [List.nil_append, List.map_cons, List.nodup_cons] at hn
    rw [List.nil_append, List.nil_append, getL_cons]
    by_cases h : p.1 = k
    · rw [if_pos h]
      exact getL_none fun q hq e => hn.1 (List.mem_map.2 ⟨q, hq, by rw [e, h]⟩)
    · rw [if_neg h, if_neg h]
  | cons a A ih =>
    rw [List.cons_append, List.map_cons, List.nodup_cons] at hn
    rw [List.cons_append, List.cons_append, getL_cons, getL_cons, ih hn.2]
    by_cases h : a.1 = k
    · rw [if_pos h, if_pos h, if_neg]
      intro e
      exact hn.1 (List.mem_map.2 ⟨p, by simp, by rw [e, h]⟩)
    · rw [if_neg h, if_neg h]
theorem cur_step {ch A B : List (KeyD × Int)} {p : KeyD × Int} (hn : ((A ++ p :: B).map (·.1)).Nodup) (hc : getL ch p.1 = some p.2) {accts : List (KeyD × AcctD)} (han : (accts.map (·.1)).Nodup) {s : AcctD} (hs : getL accts p.1 = some s) :
    cur ch (A ++ B) accts = putL (cur ch (A ++ p :: B) accts) p.1 (s.plus p.2) := by
  have hcur : getL (cur ch (A ++ p :: B) accts) p.1 = some s := by
    rw [getL_cur, hs]
    have : (getL (A ++ p :: B) p.1).isSome := by
      rw [getL_of_mem hn (show (p.1, p.2) ∈ A ++ p :: B by simp)]; rfl
    simp [this]
  unfold putL
  rw [if_pos (by rw [any_key, hcur]; rfl)]
  unfold cur
  rw [List.map_map]
  refine List.map_congr_left fun q hq => ?_
  simp only [Function.comp]
  have hk : (if (getL (A ++ p :: B) q.1).isSome then q else upd ch q).1 = q.1 := by split; rfl; exact upd_key ch q
  rw [hk, getL_split hn]
  by_cases h : q.1 = p.1
  · rw [if_pos h.symm, if_pos h]
    have hqs : q.2 = s := by
      have := getL_of_mem han (show (q.1, q.2) ∈ accts from hq)
      rw [h, hs] at this
      injection this with this
      exact this.symm
    simp [upd, h, hc, hqs]
  · have h' : ¬ p.1 = q.1 := fun e => h e.symm
    simp only [h, h', if_false]
/-- A slice that reads as rows does so still where blocks that hold no cells turn. -/
theorem SlC.turns {w w' : World} {B size : Nat} {rows : List (List Value)} {v : Value} {S : List Nat} (h : SlC w B size rows v) (hl : ∀ r ∈ rows, 0 < r.length) (hT : Turns S w w') (hS : ∀ i ∈ S, ∀ o, w.cell? ⟨i, o, none⟩ = none) : SlC w' B size rows v := by
  obtain ⟨A, c, e, h1, h2, h3⟩ := h
  refine ⟨A, c, e, h1, h2, fun hn => ?_⟩
  obtain ⟨b, off, ea, hb, hc⟩ := h3 hn
  have h0 := hc 0 rows[0] (List.getElem?_eq_getElem hn) 0 (rows[0][0]'(hl _ (List.getElem_mem hn))) (List.getElem?_eq_getElem _)
  have hbS : b ∉ S := fun hm => by rw [hS b hm] at h0; cases h0
  have hlt : b < w.heap.size := by
    rcases Nat.lt_or_ge b w.heap.size with h | h
    · exact h
    · simp [World.cell?, Array.getElem?_eq_none h] at h0
  exact ⟨b, off, ea, hb, fun k r hr j u hu => (World.cell?_of_block (hT.block b hlt hbS)).trans (hc k r hr j u hu)⟩
theorem LedAt.mcell {w : World} {b m h : Nat} {pv : Value} {L : LG} (H : LedAt w b m h pv L) (o : Nat) : w.cell? ⟨m, o, none⟩ = none := by
  obtain ⟨es, clock, h0, _⟩ := H.accts
  simp [World.cell?, h0]
/-- A post has been made in block pb. -/
structure PostMade (wr wx : World) (pb : Nat) (n : Int) (text : ByteArray) (x : List EntryD) (v : Value) : Prop where
  c0 : wx.cell? ⟨pb, 0, none⟩ = some (.int .i64 n)
  c1 : wx.cell? ⟨pb, 1, none⟩ = some (.string text)
  c2 : wx.cell? ⟨pb, 2, none⟩ = some v
  own : OwnC wx wr.heap.size 57 3 (x.map EntryD.row) v
  below : Below wr.heap.size wr wx
  lo : wr.heap.size ≤ pb
  hi : pb < wx.heap.size

theorem PostMade.of1 {wr w1 : World} {n : Int} {text : ByteArray} {x : List EntryD} {v : Value} (ho : OwnC w1 wr.heap.size 57 3 (x.map EntryD.row) v) (hb : Below wr.heap.size wr.drew w1) :
    PostMade wr (w1.alloc (.cells #[.int .i64 n, .string text, v] 89)) w1.heap.size n text x v :=
  have hb : Below wr.heap.size wr w1 := ⟨hb.os, hb.tape, hb.output, hb.size, hb.block⟩
  ⟨by simp, by simp, by simp, ho.alloc _, hb.alloc hb.size _, hb.size, by simp⟩
theorem cell_set_ne {w : World} {b i j : Nat} (h : i ≠ j) (v : Value) : (w.setCell ⟨b, i, none⟩ v).cell? ⟨b, j, none⟩ = w.cell? ⟨b, j, none⟩ := by apply World.cell?_setCell_other; intro e; injection e; contradiction
theorem PostMade.of2 {wr w1 : World} {n : Int} {text : ByteArray} {x : List EntryD} {v u0 u1 u2 : Value} (ho : OwnC w1 (wr.alloc (.cells #[u0, u1, u2] 89)).heap.size 57 3 (x.map EntryD.row) v) (hb : Below (wr.alloc (.cells #[u0, u1, u2] 89)).heap.size (wr.alloc (.cells #[u0, u1, u2] 89)).drew w1) :
    PostMade wr (((w1.setCell ⟨wr.heap.size, 0, none⟩ (.int .i64 n)).setCell ⟨wr.heap.size, 1, none⟩ (.string text)).setCell ⟨wr.heap.size, 2, none⟩ v) wr.heap.size n text x v := by
  have hb : Below (wr.alloc (.cells #[u0, u1, u2] 89)).heap.size (wr.alloc (.cells #[u0, u1, u2] 89)) w1 := ⟨hb.os, hb.tape, hb.output, hb.size, hb.block⟩
  have hc : ∀ o, w1.cell? ⟨wr.heap.size, o, none⟩ = (#[u0, u1, u2] : Array Value)[o]? := fun o => (hb.cell (p := ⟨wr.heap.size, o, none⟩) (by simp)).trans (by simp)
  have hs := hb.size
  simp only [World.alloc, Array.size_push] at hs
  refine ⟨?_, ?_, ?_, ?_, ?_, Nat.le_refl _, ?_⟩
  · rw [cell_set_ne (by decide), cell_set_ne (by decide), World.cell?_setCell_same' _ _ _ (by rw [hc 0]; rfl)]
  · rw [cell_set_ne (by decide)]
    exact World.cell?_setCell_same' _ _ _ (by rw [cell_set_ne (by decide), hc 1]; rfl)
  · exact World.cell?_setCell_same' _ _ _ (by rw [cell_set_ne (by decide), cell_set_ne (by decide), hc 2]; rfl)
  · refine OwnC.lower (OwnC.setBelow (OwnC.setBelow (OwnC.setBelow ho ?_ _) ?_ _) ?_ _) (by simp) <;> simp
  · refine Below.setCell (Below.setCell (Below.setCell (((Below.refl _ _).alloc (Nat.le_refl _) _).trans (hb.mono (by simp))) ?_ _) ?_ _) ?_ _ <;> simp
  · simp [World.setCell]; omega

theorem heap_set_at {w : World} {b i : Nat} {c : Array Value} {t : TypeId} {f : Nat × Nat} (h : w.heap[b]? = some (.cells c t f)) (v : Value) : (w.setCell ⟨b, i, none⟩ v).heap[b]? = some (.cells (c.setIfInBounds i v) t f) := by
  simp [World.setCell, Array.getElem?_modify, h]
/-- A post more. -/
theorem LedAt.pushed {wr w' : World} {b m h : Nat} {pv v v' : Value} {L : LG} (H : LedAt wr b m h pv L) (hT : Turns pv.ownBlock.toList wr w') {n : Int} {text : ByteArray} {x : List EntryD} {rows : List (List Value)} (ha : All2 (PostD.Own wr 0) L.posts rows)
    (ho : OwnC w' 0 89 3 (rows ++ [[.int .i64 n, .string text, v]]) v') (hx : OwnC w' 0 57 3 (x.map EntryD.row) v) (hob : v'.ownBlock = pv.ownBlock ∨ ∃ g, v'.ownBlock = some g ∧ wr.heap.size ≤ g) :
    LedAt (w'.setCell ⟨b, 2, none⟩ v') b m h v' ⟨L.owner, L.accts, L.posts ++ [⟨n, text, x⟩], L.holds⟩ := by
  have hb0 := H.blt
  have hown : ∀ g, v'.ownBlock = some g → g ≠ b := by
    intro g hg e
    rcases hob with h1 | ⟨g', h1, h2⟩
    · exact (H.gne (h1 ▸ hg)).1 e
    · rw [h1] at hg; injection hg with hg; omega
  have hpo : ∃ rows, OwnC wr 0 89 3 rows pv := by obtain ⟨rows, _, h⟩ := H.posts; exact ⟨rows, h⟩
  obtain ⟨r0, hr0⟩ := hpo
  have kind : ∀ i ∈ pv.ownBlock.toList, ∀ cur f, wr.heap[i]? ≠ some (.cells cur 57 f) := by
    intro i hi cur f hc
    simp at hi
    obtain ⟨c', hc'⟩ := OwnC.typed hr0 hi
    rw [hc'] at hc; injection hc with hc; injection hc with _ ht; cases ht
  have ne : ∀ g, g ∈ pv.ownBlock.toList → g ≠ b ∧ g ≠ m ∧ g ≠ h := fun g hg => H.gne (by simpa using hg)
  have hTb : Turns [b] w' (w'.setCell ⟨b, 2, none⟩ v') := (Turns.refl _ _).set_ (.inl (by simp)) _
  have hcell : w'.heap[b]? = some (.cells #[.string L.owner, .map (some m), pv, .map (some h)] 70 (0, 0)) := (hT.block b hb0 (fun hm => (ne b hm).1 rfl)).trans H.cells
  have kb : ∀ i ∈ [b], ∀ cur f, w'.heap[i]? ≠ some (.cells cur 57 f) := by
    intro i hi cur f hc
    simp at hi; subst hi
    rw [hcell] at hc; injection hc with hc; injection hc with _ ht; cases ht
  refine ⟨heap_set_at hcell _, MapOf.turns (MapOf.turns H.accts hT (fun hm => (ne m hm).2.1 rfl)) hTb (by simpa using Ne.symm H.bm), MapOf.turns (MapOf.turns H.holds hT (fun hm => (ne h hm).2.2 rfl)) hTb (by simpa using Ne.symm H.bh), H.apart, _,
    All2.snoc (ha.imp fun p r hp => (hp.turns hT kind).turns hTb kb) ⟨v, rfl, OwnC.turns hx hTb fun g hg hm => ?_⟩, OwnC.turns ho hTb fun g hg => by simpa using hown g hg⟩
  obtain ⟨cur, hc⟩ := OwnC.typed hx hg
  exact kb g hm cur _ hc

set_option maxHeartbeats 2000000 in
theorem book_any (w : World) (b m h : Nat) (pv : Value) (L : LG) (H : LedAt w b m h pv L) (text : ByteArray) (x : List EntryD) (xv : Value) (hx : SlC w w.heap.size 3 (x.map EntryD.row) xv) (hxl : x.length ≤ 64) (htx : text.size ≤ 4096)
    (cb : Nat) (ch : List (KeyD × Int)) (hch : MapOf encKey encInt okKey w cb ch) (hcm : cb ≠ m) (hroom : L.posts.length < 4096)
    (hall : ∀ p ∈ ch, ∃ s, getL L.accts p.1 = some s ∧ -4611686018427387904 ≤ s.bal + p.2 ∧ s.bal + p.2 ≤ 4611686018427387904) :
    Calls Tryd.prog 33 #[.pointer (some ⟨b, 0, none⟩), .string text, xv, .map (some cb)] w fun e w' => e = .returned (.int .i64 ((L.posts.length + 1 : Nat) : Int)) ∧
      (∃ pv', LedAt w' b m h pv' ⟨L.owner, L.accts.map (upd ch), L.posts ++ [⟨((L.posts.length + 1 : Nat) : Int), text, x⟩], L.holds⟩ ∧ (pv'.ownBlock = pv.ownBlock ∨ ∃ g, pv'.ownBlock = some g ∧ w.heap.size ≤ g)) ∧ Turns (b :: m :: pv.ownBlock.toList) w w' := by
  obtain ⟨A, c, rfl, hn, hc, -⟩ := id hx
  have c1 := H.c1
  have hb := H.blt
  have H' := Lib.hid H
  have Hx := Lib.hid hx
  have Hall := Lib.hid hall
  have Hch := Lib.hid hch
  have hchn : (ch.map (·.1)).Nodup := by obtain ⟨_, _, _, _, h, _⟩ := hch; exact h
  have hacn : (L.accts.map (·.1)).Nodup := by obtain ⟨_, _, _, _, h, _⟩ := H.accts; exact h
  have hcok : ∀ p ∈ ch, okKey p.1 := by obtain ⟨_, _, _, _, _, h, _⟩ := hch; exact h
  have Hchn := Lib.hid hchn
  have Hacn := Lib.hid hacn
  have Hcok := Lib.hid hcok
  unfold maxLen at hc
  clear H hx hall hch hchn hacn hcok
  go_enter Tryd.func33, Tryd.ntmps33
  go_wp2_with (at_range; go_must (refine wpList_range_at (encK := encKey) (encV := encInt) (ok := okKey) (b := cb) (l := ch) rfl (.tmp 13) rfl Tryd.underlying84 Hch.out rfl ?_))
  intro ob hrg
  have Hrg := Lib.hid hrg
  clear hrg
  go_wp2
  go_loopg [9, 10, 11] ch.length (fun g _ _ _ wr => ∃ left : List (KeyD × Int), left.length ≤ g ∧ Hid (RangeOf encKey encInt okKey wr cb w.heap.size ch left) ∧ Hid ((left.map (·.1)).Nodup ∧ ∀ p ∈ left, p ∈ ch) ∧ Hid (MapOf encKey encAcct okKey wr m (cur ch left L.accts)) ∧ Hid (Turns [m] w wr))
  case atStart => exact ⟨ch, Nat.le_refl _, Hrg.out, ⟨Hchn.out, fun p hp => hp⟩, by show MapOf _ _ _ _ _ _; rw [cur_start]; exact H'.out.accts.alloc _, (Turns.refl _ _).alloc _⟩
  case round =>
    obtain ⟨left, hg, hrg, hln, hmo, hT⟩ := hrel
    have hL : LedAt wr b m h pv { L with accts := cur ch left L.accts } := H'.out.setAccts hT.out hmo.out
    have d1 := hL.c1
    have hbr := hL.blt
    have HL := Lib.hid hL
    clear hL c1
    go_wp2_with (at_next; go_must (refine wpList_next_at (encK := encKey) (encV := encInt) (ok := okKey) (b := cb) (l := ch) (r := w.heap.size) rfl (.tmp 14) rfl hrg.out rfl ?_ ?_); intro hnil; have Hnil := Lib.hid hnil; clear hnil; rotate_left; intro p A B w1 hAB hr1 ho1 hen; simp only [encInt, encKey] at hen; have Hin : Hid (left = A ++ p :: B ∧ RangeOf encKey encInt okKey w1 cb w.heap.size ch (A ++ B) ∧ OnlyB wr w1 w.heap.size) := ⟨hAB, hr1, ho1⟩; clear hAB hr1 ho1; rotate_right)
    · obtain ⟨prows, hpa, hpo⟩ := HL.out.posts
      have d2 := HL.out.c2
      obtain ⟨PA, pc, hpv, hpn, hpc, -⟩ := hpo.sl
      rw [← hpa.len] at hpv hpn
      subst hpv
      have hxr : SlC wr w.heap.size 3 (x.map EntryD.row) (.slice A (x.map EntryD.row).length c) := SlC.turns Hx.out (fun r hr => by rw [EntryD.rows_len x r hr]; omega) hT.out (by simp; exact H'.out.mcell)
      have hsz := hT.out.size
      have CE : ∀ W, Below wr.heap.size wr W → Calls Tryd.prog 46 #[.slice A x.length c] W fun e W' => ∃ v', e = .returned v' ∧ OwnC W' W.heap.size 57 3 (x.map EntryD.row) v' ∧ Below W.heap.size W W' := fun W hW =>
        by have hlm : x.length = (x.map EntryD.row).length := (List.length_map _).symm; rw [hlm]; exact cloneE_any _ _ W w.heap.size (by have := hW.size; omega) (hxr.below (hW.mono hsz)) (EntryD.rows_len _) (EntryD.rows_one _) (by simp; omega)
      have Hce := Lib.hid CE
      have Hd2 := Lib.hid d2
      have hwr : IntKind.i64.wrap ((L.posts.length : Int) + 1) = (L.posts.length : Int) + 1 := IntWalk.i64_in _ (by omega)
      have hne := World.new_ne wr _ d2
      have Hpa := Lib.hid hpa
      have Hpo := Lib.hid hpo
      have Hpl := Lib.hid hpa.len
      clear CE hxr hpa hpo
      go_cut [12] (fun s12 wx => ∃ (pb : Nat) (A3 : Option Addr) (c3 : Nat), s12 = .pointer (some ⟨pb, 0, none⟩) ∧ PostMade wr wx pb (L.posts.length + 1) text x (.slice A3 x.length c3))
      case first =>
        go_region_held3 (fun W => W.cell? ⟨b, 2, none⟩ = some (.slice PA L.posts.length pc)) (go_keep)
          (first | (go_at_call 46; refine (Hce.out _ ?_).mono ?_; (first | exact Below.drew (Below.refl _ _) | exact Below.drew (Below.alloc (Below.refl _ _) (Nat.le_refl _) _)); rintro e w1 ⟨v1, rfl, ho1, hb1⟩; obtain ⟨A3, c3, hv3, -⟩ := id ho1.sl; rw [List.length_map] at hv3; subst hv3; have hbk : b < wr.heap.size := hbr; obtain ⟨hcb, hfb⟩ := bcell hb1; have d2' : w1.cell? ⟨b, 2, none⟩ = some (.slice PA L.posts.length pc) := (hb1.cell (p := ⟨b, 2, none⟩) (by simp; omega)).trans (by first | exact Hd2.out | exact (World.cell?_alloc_lt wr _ ⟨b, 2, none⟩ hbk).trans Hd2.out)))
        all_goals (go_wp2_with fail; go_meet)
        · exact ⟨_, _, _, rfl, PostMade.of1 (wr := wr) ho1 hb1⟩
        · exact ⟨_, _, _, rfl, PostMade.of2 (wr := wr) ho1 hb1⟩
      case rest =>
        obtain ⟨pb, A3, c3, rfl, hpm⟩ := hcut
        go_wp2
        have q0 := hpm.c0
        have q1 := hpm.c1
        have q2 := hpm.c2
        obtain ⟨z0, z1⟩ := bcell hpm.below
        have e2 : wc.cell? ⟨b, 2, none⟩ = some (.slice PA L.posts.length pc) := (z0 b 2 hbr).trans Hd2.out
        have f2 : wc.frozen? ⟨b, 2, none⟩ = false := (z1 b 2 hbr).trans (HL.out.fz 2)
        have Hpm := Lib.hid hpm
        clear hpm
        have Hrow : Hid (OwnC (wc.alloc (.cells #[.int .i64 (L.posts.length + 1), .string text, .slice A3 x.length c3] 89)).drew 0 89 3 prows (.slice PA L.posts.length pc)) := (Hpo.out.below Hpm.out.below).alloc _
        have Hlit : Hid (SlC (wc.alloc (.cells #[.int .i64 (L.posts.length + 1), .string text, .slice A3 x.length c3] 89)).drew (wc.heap.size + 1) 3 [[.int .i64 (L.posts.length + 1), .string text, .slice A3 x.length c3]] (.slice (some ⟨wc.heap.size, 0, none⟩) 1 1)) := SlC.lit1 wc _ 89 _ rfl (by omega)
        have hbpb : ¬ b = pb := by have := Hpm.out.lo; omega
        have hbpb' : ¬ pb = b := by have := Hpm.out.lo; omega
        have hszc := Hpm.out.below.size
        have hpbc := Hpm.out.hi
        have hbc : b < wc.heap.size := by omega
        go_region_law (refine step_appN rfl (.tmp 51) (.tmp 53) 30 rfl (e := 89) (size := 3) (bytes := 48) Tryd.el30 0 prows (.slice PA L.posts.length pc) (by simp [Act.eval, Act.put]) Hrow.out (wc.heap.size + 1) [[.int .i64 (L.posts.length + 1), .string text, .slice A3 x.length c3]] (.slice (some ⟨wc.heap.size, 0, none⟩) 1 1) (by simp [Act.eval, Act.put]) Hlit.out (by simp) (by simp [Value.oneCell']) (by rw [← Hpl.out]; simp; omega) (by rw [← Hpl.out]; simp [maxLen]; omega) (Nat.zero_le _) ?_; intro v' w' ho' hg' hb' hob'; have Hne : Hid (b < (wc.alloc (.cells #[.int .i64 (L.posts.length + 1), .string text, .slice A3 x.length c3] 89)).drew.heap.size ∧ some b ≠ (Value.slice PA L.posts.length pc).ownBlock) := ⟨by simp; omega, fun e => (HL.out.gne e.symm).1 rfl⟩; have g2 : w'.cell? ⟨b, 2, none⟩ = some (.slice PA L.posts.length pc) := (World.cell?_of_block (hg'.block b Hne.out.1 Hne.out.2)).trans ((World.cell?_alloc_lt wc _ ⟨b, 2, none⟩ (by show b < wc.heap.size; omega)).trans e2); have h2 : w'.frozen? ⟨b, 2, none⟩ = false := (World.frozen?_of_block (hg'.block b Hne.out.1 Hne.out.2)).trans ((World.frozen?_of_block (Below.heap_alloc wc _ b (by omega))).trans f2); have Hne3 : Hid (pb < (wc.alloc (.cells #[.int .i64 (L.posts.length + 1), .string text, .slice A3 x.length c3] 89)).drew.heap.size ∧ some pb ≠ (Value.slice PA L.posts.length pc).ownBlock) := ⟨by simp; omega, fun e => by have := (Hpo.out.lt pb e.symm).2; have := Hpm.out.lo; omega⟩; have k0 : w'.cell? ⟨pb, 0, none⟩ = some (.int .i64 (L.posts.length + 1)) := (World.cell?_of_block (hg'.block pb Hne3.out.1 Hne3.out.2)).trans ((World.cell?_alloc_lt wc _ ⟨pb, 0, none⟩ hpbc).trans q0); obtain ⟨PA', pc', hv', -⟩ := id ho'.sl; subst hv'; have Hw' : Hid (OwnC w' 0 89 3 (prows ++ [[.int .i64 (L.posts.length + 1), .string text, .slice A3 x.length c3]]) (.slice PA' (prows ++ [[Value.int .i64 (L.posts.length + 1), .string text, .slice A3 x.length c3]]).length pc') ∧ ((wc.alloc (.cells #[.int .i64 (L.posts.length + 1), .string text, .slice A3 x.length c3] 89)).drew.grownBy w' (Value.slice PA L.posts.length pc).ownBlock) ∧ ((Value.slice PA' (prows ++ [[Value.int .i64 (L.posts.length + 1), .string text, .slice A3 x.length c3]]).length pc').ownBlock = (Value.slice PA L.posts.length pc).ownBlock ∨ (Value.slice PA' (prows ++ [[Value.int .i64 (L.posts.length + 1), .string text, .slice A3 x.length c3]]).length pc').ownBlock = some (wc.heap.size + 1))) := ⟨ho', hg', by simpa using hob'⟩; clear ho' hg' hb' hob')
        all_goals
          go_wp2
          go_ret
          have hT0 : Turns (b :: m :: (Value.slice PA L.posts.length pc).ownBlock.toList) w wr := hT.out.mono (by simp)
          have hTp : Turns (Value.slice PA L.posts.length pc).ownBlock.toList wr w' := (((Turns.of_below Hpm.out.below).alloc _).drew).grown Hw'.out.2.1 (fun g hg => .inl (by simp [hg]))
          have hTg : Turns (Value.slice PA L.posts.length pc).ownBlock.toList wc w' := (((Turns.refl _ wc).alloc _).drew).grown Hw'.out.2.1 (fun g hg => .inl (by simp [hg]))
          have hxo : OwnC w' 0 57 3 (x.map EntryD.row) (.slice A3 x.length c3) := OwnC.turns (Hpm.out.own.lower (Nat.zero_le _)) hTg (fun g hg hm => by have h1 := (Hpm.out.own.lt g hg).1; have h2 := (Hpo.out.lt g (by simpa using hm)).2; omega)
          have hob : (Value.slice PA' (prows ++ [[Value.int .i64 (L.posts.length + 1), .string text, .slice A3 x.length c3]]).length pc').ownBlock = (Value.slice PA L.posts.length pc).ownBlock ∨ ∃ g, (Value.slice PA' (prows ++ [[Value.int .i64 (L.posts.length + 1), .string text, .slice A3 x.length c3]]).length pc').ownBlock = some g ∧ wr.heap.size ≤ g := Hw'.out.2.2.imp id fun h => ⟨_, h, by omega⟩
          have hL := LedAt.pushed HL.out hTp Hpa.out Hw'.out.1 hxo hob
          have hcur : cur ch left L.accts = L.accts.map (upd ch) := by rw [Hnil.out, cur_end]
          rw [hcur] at hL
          rw [List.length_append, List.length_singleton] at hL hob
          have hsw := hT.out.size
          exact ⟨rfl, ⟨_, hL, hob.imp id fun ⟨g, h1, h2⟩ => ⟨g, h1, by omega⟩⟩, (hT0.trans (hTp.mono (by intro i hi _; simp at hi ⊢; exact .inr (.inr hi)))).set_ (.inl (by simp)) _⟩
    · obtain ⟨hAB, hr1, ho1⟩ := Hin.out
      have hpl : p ∈ left := by rw [hAB]; simp
      have hpc := hln.out.2 p hpl
      have hok := Hcok.out p hpc
      obtain ⟨s, hs, hs1, hs2⟩ := Hall.out p hpc
      have hmw : m < w.heap.size := H'.out.accts.lt
      have hT1 : Turns [m] w w1 := hT.out.only ho1 (.inr (Nat.le_refl _))
      have hmo1 : MapOf encKey encAcct okKey w1 m (cur ch left L.accts) := hmo.out.only ho1 (by omega)
      have hL1 : LedAt w1 b m h pv { L with accts := cur ch left L.accts } := H'.out.setAccts hT1 hmo1
      have d1' := hL1.c1
      have hbr1 := hL1.blt
      have hgc : getL (cur ch left L.accts) p.1 = some s := by
        rw [getL_cur, hs]
        have : (getL left p.1).isSome := by rw [getL_of_mem hln.out.1 (show (p.1, p.2) ∈ left from hpl)]; rfl
        simp [this]
      have hlk : ∀ W, MapOf encKey encAcct okKey W m (cur ch left L.accts) → (Instr.lookup 67 (.map (some m)) (.agg #[.string p.1.1, .string p.1.2]) false).run Tryd.prog W = .ok (.agg #[.int .i64 s.floor, .int .i64 s.bal, .int .i64 s.held]) W := by
        intro W hW
        have := hW.lookup (P := Tryd.prog) encKey_key Tryd.underlying67 (z := .agg #[.int .i64 0, .int .i64 0, .int .i64 0]) (by kernel_rfl) p.1 hok false
        rw [hgc] at this
        exact this
      have l1 := hlk ((w1.alloc (.cells #[.string p.1.1, .string p.1.2] 72)).drew) (hmo1.alloc _).drew
      have l2 := hlk (((w1.alloc (.cells #[.string p.1.1, .string p.1.2] 72)).alloc (.cells #[.int .i64 0, .int .i64 0, .int .i64 0] 74)).drew) ((hmo1.alloc _).alloc _).drew
      have Hs := Lib.hid hs
      have Hok := Lib.hid hok
      have Hst := Lib.hid (cur_step (by rw [← hAB]; exact hln.out.1) (getL_of_mem Hchn.out hpc) Hacn.out hs)
      have Hmo1 := Lib.hid hmo1
      have HT1 := Lib.hid hT1
      have Hr1 := Lib.hid hr1
      have HAB := Lib.hid hAB
      have Hpc := Lib.hid hpc
      clear hlk hL1 hmo1 hT1 hgc hs hok hpc hpl hAB hr1 ho1 d1
      go_region
      all_goals
        go_wp2
        refine region_tail 6 (by kernel_rfl) (by kernel_rfl) ?_
        simp only [List.take_succ_cons, List.take_zero, List.drop_succ_cons, List.drop_zero]
        repeat still_step
        refine wpStill_nil ?_
        refine wpList_mapUpdate_at (encK := encKey) (encV := encAcct) (ok := okKey) (b := m) (l := cur ch left L.accts) rfl (.tmp 34) (.tmp 35) (.tmp 36) rfl encKey_key Tryd.underlying67 ?hM p.1 Hok.out (s.plus p.2) rfl rfl rfl ?_
        case hM => exact (((Hmo1.out.alloc _).alloc _).drewN 2)
        intro w2 hm2 ho2
        go_wp2
        have hlen : (A ++ B).length + 1 ≤ gk := by rw [HAB.out] at hg; simp at hg ⊢; omega
        go_roundg (A ++ B).length
        case rel =>
          refine ⟨A ++ B, Nat.le_refl _, ?_, ⟨?_, fun q hq => ?_⟩, ?_, ?_⟩
          · show RangeOf _ _ _ _ _ _ _ _
            exact (((Hr1.out.alloc _).alloc _).drewN 2).only ho2 hcm (by omega)
          · have := hln.out.1
            rw [HAB.out] at this
            exact this.sublist (List.Sublist.map _ (List.Sublist.append_left (List.sublist_cons_self _ _) _))
          · have := hln.out.2 q
            rw [HAB.out] at this
            exact this (by simp at hq ⊢; rcases hq with h | h; exact .inl h; exact .inr (.inr h))
          · show MapOf _ _ _ _ _ _
            rw [Hst.out, ← HAB.out]; exact hm2
          · show Turns _ _ _
            exact (((HT1.out.alloc _).alloc _).drewN 2).only ho2 (.inl (by simp))
        case measure => omega
end Go.Proofs.YtmjkkmfjpppehaaDoor
