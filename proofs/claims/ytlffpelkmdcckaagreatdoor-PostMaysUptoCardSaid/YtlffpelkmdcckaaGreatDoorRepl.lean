/- strings.NewReplacer's table for the two pairs of field.line: built. -/
import Derived.Test.YtlffpelkmdcckaaGreatDoorOnce
import Derived.Test.YtlffpelkmdcckaaGreatDoorConv
import Derived.Deep.WholeRow
import Derived.Lib.SliceRun
namespace Go.Proofs.YtlffpelkmdcckaaGreatDoor
open Go Go.RowKit Go.Sup
set_option maxRecDepth 100000
/-- A slice of bytes in a block of its own. -/
structure ByteSl (w : World) (s : ByteArray) (g c : Nat) : Prop where
  lt : g < w.heap.size
  le : s.size ≤ c
  hi : c ≤ maxLen
  cell : ∀ j b, s.data.toList[j]? = some b → w.cell? ⟨g, j, none⟩ = some (.int .u8 (b.toNat : Int))
theorem ByteSl.keep {w w' : World} {s : ByteArray} {g c : Nat} (h : ByteSl w s g c) (hs : w.heap.size ≤ w'.heap.size) (hb : w'.heap[g]? = w.heap[g]?) : ByteSl w' s g c :=
  ⟨Nat.lt_of_lt_of_le h.lt hs, h.le, h.hi, fun j b hj => (World.cell?_of_block (a := ⟨g, j, none⟩) hb).trans (h.cell j b hj)⟩
theorem ByteSl.of {w : World} {B g n c : Nat} {s : ByteArray} (h : SlC w B 1 (byteRows s) (.slice (some ⟨g, 0, none⟩) n c)) (hg : g < w.heap.size) : ByteSl w s g c := by
  obtain ⟨A', c', e, h1, h2, h3⟩ := id h
  injection e with e1 e2 e3
  subst e3
  rw [byteRows_len] at h1
  refine ⟨hg, h1, h2, fun j b hj => ?_⟩
  obtain ⟨b', off, ea, _, hc⟩ := SlC.at_ h (k := j) (r := [.int .u8 (b.toNat : Int)]) (by simp only [byteRows, List.getElem?_map, hj]; rfl)
  injection ea with ea
  injection ea with ea1 ea2
  subst ea1; subst ea2
  have := hc 0 _ rfl
  simpa using this
def bs10 : ByteArray := ⟨#[92, 110]⟩
def bs92 : ByteArray := ⟨#[92, 92]⟩
def tabAt (k : Nat) (g10 c10 g92 c92 : Nat) (i : Nat) : Value := if i = 10 ∧ 1 ≤ k then .slice (some ⟨g10, 0, none⟩) 2 c10 else if i = 92 ∧ 2 ≤ k then .slice (some ⟨g92, 0, none⟩) 2 c92 else .slice none 0 0
def repl : List (List Value) := [[.string ⟨#[10]⟩], [.string ⟨#[92]⟩]]
/-- The table behind k of the two pairs. -/
structure TabSt (w0 : World) (k t : Nat) (wx : World) (g10 c10 g92 c92 : Nat) (tv : Value) (Z : Array Value) : Prop where
  cells : wx.heap[t]? = some (.cells Z 228 (0, 0))
  size : Z.size = 257
  last : Z[256]? = some tv
  own : OwnC wx w0.heap.size 9 1 (repl.take k) tv
  ne : tv.ownBlock ≠ some t
  tab : ∀ i, i < 256 → Z[i]? = some (tabAt k g10 c10 g92 c92 i)
  b10 : 1 ≤ k → ByteSl wx bs10 g10 c10 ∧ g10 ≠ t ∧ tv.ownBlock ≠ some g10
  b92 : 2 ≤ k → ByteSl wx bs92 g92 c92 ∧ g92 ≠ t ∧ tv.ownBlock ≠ some g92
  below : Below w0.heap.size w0 wx
  lo : w0.heap.size ≤ t
  l10 : 1 ≤ k → w0.heap.size ≤ g10
  l92 : 2 ≤ k → w0.heap.size ≤ g92
theorem heap_set_at {w : World} {b i : Nat} {c : Array Value} {t : TypeId} {f : Nat × Nat} (h : w.heap[b]? = some (.cells c t f)) (v : Value) : (w.setCell ⟨b, i, none⟩ v).heap[b]? = some (.cells (c.setIfInBounds i v) t f) := by
  simp [World.setCell, Array.getElem?_modify, h]
theorem heap_set_ne {w : World} {p : Addr} {j : Nat} (v : Value) (h : j ≠ p.block) : (w.setCell p v).heap[j]? = w.heap[j]? := Below.heap_setCell w p v j h
/-- One pair more. -/
theorem TabSt.step {w0 wr w2 w4 : World} {k t : Nat} {g10 c10 g92 c92 : Nat} {tv v1 : Value} {Z : Array Value} (T : TabSt w0 k t wr g10 c10 g92 c92 tv Z) (hk : k < 2) {x1 x2 : Array Value} {y1 y2 : TypeId}
    (hov : OwnC w2 w0.heap.size 9 1 (repl.take (k + 1)) v1) (hgr : ((wr.alloc (.cells x1 y1)).alloc (.cells x2 y2)).grownBy w2 tv.ownBlock) (hob : v1.ownBlock = tv.ownBlock ∨ v1.ownBlock = some (wr.heap.size + 2))
    {s : ByteArray} {c' idx : Nat} (hs : (k = 0 ∧ s = bs10 ∧ idx = 10) ∨ (k = 1 ∧ s = bs92 ∧ idx = 92)) (hsl : ByteSl w4 s w2.heap.size c') (hb4 : Below w2.heap.size (w2.setCell ⟨t, 256, none⟩ v1) w4) :
    ∃ g10' c10' g92' c92' Z', TabSt w0 (k + 1) t (w4.setCell ⟨t, idx, none⟩ (.slice (some ⟨w2.heap.size, 0, none⟩) 2 c')) g10' c10' g92' c92' v1 Z' := by
  have htl : t < wr.heap.size := (Array.getElem?_eq_some_iff.1 T.cells).1
  have hsz2 : wr.heap.size + 2 ≤ w2.heap.size := by have := hgr.size; simpa using this
  have hold : ∀ j, j < wr.heap.size → ((wr.alloc (.cells x1 y1)).alloc (.cells x2 y2)).heap[j]? = wr.heap[j]? := fun j hj => (Below.heap_alloc _ _ j (by simp; omega)).trans (Below.heap_alloc wr _ j hj)
  have h2 : ∀ j, j < wr.heap.size → tv.ownBlock ≠ some j → w2.heap[j]? = wr.heap[j]? := fun j hj hn => (hgr.block j (by simp; omega) (fun e => hn e.symm)).trans (hold j hj)
  have h4 : ∀ j, j < w2.heap.size → j ≠ t → w4.heap[j]? = w2.heap[j]? := fun j hj hn => (hb4.block j hj).trans (heap_set_ne _ hn)
  have c2 : w2.heap[t]? = some (.cells Z 228 (0, 0)) := (h2 t htl T.ne).trans T.cells
  have c4 : w4.heap[t]? = some (.cells (Z.setIfInBounds 256 v1) 228 (0, 0)) := (hb4.block t (by omega)).trans (heap_set_at c2 _)
  have hs4 : w2.heap.size ≤ w4.heap.size := by have := hb4.size; simpa [World.setCell] using this
  have hlow := T.below.size
  have hne1 : v1.ownBlock ≠ some t := by
    rcases hob with h | h
    · rw [h]; exact T.ne
    · rw [h]; intro e; injection e with e; omega
  have hlt1 : ∀ g, v1.ownBlock = some g → g < w2.heap.size := fun g hg => (hov.lt g hg).2
  obtain ⟨e, he⟩ : ∃ e, e = Value.slice (some ⟨w2.heap.size, 0, none⟩) 2 c' := ⟨_, rfl⟩
  rw [← he]
  have hidx : idx < 256 := by rcases hs with ⟨_, _, h⟩ | ⟨_, _, h⟩ <;> omega
  have G25 : w2.grownBy (w4.setCell ⟨t, idx, none⟩ e) (some t) := ⟨hb4.os, hb4.tape, hb4.output, by simpa [World.setCell] using hs4, fun j hj hn => by
    have hjt : j ≠ t := fun e => hn (by rw [e])
    exact (heap_set_ne _ hjt).trans (h4 j hj hjt)⟩
  have own5 : OwnC (w4.setCell ⟨t, idx, none⟩ e) w0.heap.size 9 1 (repl.take (k + 1)) v1 := hov.kept G25 (.inr hne1)
  have tab5 : ∀ i, i < 256 → ((Z.setIfInBounds 256 v1).setIfInBounds idx e)[i]? = if i = idx then some e else Z[i]? := by
    intro i hi
    by_cases h : i = idx
    · rw [if_pos h, h, Array.getElem?_setIfInBounds_self_of_lt (by simp [T.size]; omega)]
    · rw [if_neg h, Array.getElem?_setIfInBounds_ne (Ne.symm h), Array.getElem?_setIfInBounds_ne (by omega)]
  have bel5 : Below w0.heap.size w0 (w4.setCell ⟨t, idx, none⟩ e) := by
    have e1 : Below w0.heap.size w0 w2 := ((T.below.alloc hlow _).alloc (by simp; omega) _).grown hgr (by simp; omega) (fun g hg => (T.own.lt g hg).1)
    exact ((e1.setCell (p := ⟨t, 256, none⟩) T.lo _).trans (hb4.mono (by omega))).setCell T.lo _
  have last5 : ((Z.setIfInBounds 256 v1).setIfInBounds idx e)[256]? = some v1 := by
    rw [Array.getElem?_setIfInBounds_ne (by omega), Array.getElem?_setIfInBounds_self_of_lt (by rw [T.size]; omega)]
  have new5 : ByteSl (w4.setCell ⟨t, idx, none⟩ e) s w2.heap.size c' ∧ w2.heap.size ≠ t ∧ v1.ownBlock ≠ some w2.heap.size :=
    ⟨hsl.keep (by simp [World.setCell]) (heap_set_ne _ (by show w2.heap.size ≠ t; omega)), by omega, fun h => by have := hlt1 _ h; omega⟩
  have old5 : ∀ s' g c, ByteSl wr s' g c → g ≠ t → tv.ownBlock ≠ some g → ByteSl (w4.setCell ⟨t, idx, none⟩ e) s' g c ∧ g ≠ t ∧ v1.ownBlock ≠ some g := by
    intro s' g c hb hgt hgo
    refine ⟨hb.keep (by simp [World.setCell]; omega) ((heap_set_ne _ hgt).trans ((h4 g (by have := hb.lt; omega) hgt).trans (h2 g hb.lt hgo))), hgt, ?_⟩
    rcases hob with h | h
    · rw [h]; exact hgo
    · rw [h]; intro e; injection e with e; have := hb.lt; omega
  rcases hs with ⟨rfl, rfl, rfl⟩ | ⟨rfl, rfl, rfl⟩
  · refine ⟨w2.heap.size, c', g92, c92, _, ⟨heap_set_at c4 _, by simp [T.size], last5, own5, hne1, fun i hi => ?_, fun _ => new5, by omega, bel5, T.lo, fun _ => by omega, by omega⟩⟩
    rw [tab5 i hi]
    by_cases h : i = 10
    · rw [if_pos h, he, tabAt, if_pos ⟨h, by omega⟩]
    · rw [if_neg h, T.tab i hi]; simp [tabAt, h]
  · obtain ⟨q1, q2, q3⟩ := T.b10 (by omega)
    refine ⟨g10, c10, w2.heap.size, c', _, ⟨heap_set_at c4 _, by simp [T.size], last5, own5, hne1, fun i hi => ?_, fun _ => old5 _ _ _ q1 q2 q3, fun _ => new5, bel5, T.lo, fun _ => T.l10 (by omega), fun _ => by omega⟩⟩
    rw [tab5 i hi]
    by_cases h : i = 92
    · rw [if_pos h, he, tabAt, if_neg (by omega), if_pos ⟨h, by omega⟩]
    · rw [if_neg h, T.tab i hi]; simp [tabAt, h]
theorem lt_of_cell {w : World} {b o : Nat} {v : Value} (h : w.cell? ⟨b, o, none⟩ = some v) : b < w.heap.size := by
  rcases Nat.lt_or_ge b w.heap.size with h1 | h1
  · exact h1
  · simp [World.cell?, Array.getElem?_eq_none h1] at h
theorem elStrs : ElTy Tryz.prog 23 9 1 16 := ElTy.mk' Tryz.underlying23 (z := .string ByteArray.empty) (by kernel_rfl) rfl (by omega)
set_option maxHeartbeats 4000000 in
theorem build_any (w : World) (b o c : Nat) (_ : 4 ≤ c) (_ : c ≤ maxLen) (h4 : w.cell? ⟨b, 4, none⟩ = some (.slice (some ⟨o, 0, none⟩) 4 c)) (s0 : w.cell? ⟨o, 0, none⟩ = some (.string ⟨#[92]⟩)) (s1 : w.cell? ⟨o, 1, none⟩ = some (.string ⟨#[92, 92]⟩)) (s2 : w.cell? ⟨o, 2, none⟩ = some (.string ⟨#[10]⟩)) (s3 : w.cell? ⟨o, 3, none⟩ = some (.string ⟨#[92, 110]⟩)) :
    Calls Tryz.prog 148 #[.pointer (some ⟨b, 0, none⟩)] w fun e w' => ∃ t g10 c10 g92 c92 tv Z, e = .returned (.iface 229 (.pointer (some ⟨t, 0, none⟩))) ∧ TabSt w 2 t w' g10 c10 g92 c92 tv Z := by
  have hcm := ‹c ≤ maxLen›
  unfold maxLen at hcm
  go_enter Tryz.func148, Tryz.ntmps148
  go_wp2
  go_loopw [5, 4] (fun i al wr => ∃ k : Nat, k ≤ 2 ∧ i = .int .i64 (2 * k) ∧ (k = 2 → al = .bool false) ∧ w = wr) (fun i _ _ => 4 - (intOf i).toNat)
  case atStart => exact ⟨0, by omega, rfl, by omega, rfl⟩
  case round =>
    obtain ⟨k, hk, rfl, hal, rfl⟩ := hrel
    have hk3 : k = 0 ∨ k = 1 ∨ k = 2 := by omega
    rcases hk3 with rfl | rfl | rfl
    · go_wp2
      go_roundw
      case rel => exact ⟨1, by omega, rfl, by omega, trivial⟩
      case measure => simp [intOf]
    · go_wp2
      go_roundw
      case rel => exact ⟨2, by omega, rfl, fun _ => rfl, trivial⟩
      case measure => simp [intOf]
    · have := hal rfl
      subst this
      obtain ⟨ht, ⟨ii, zz, hi, hz, z2, z3, z4⟩, pos⟩ := elStrs
      obtain ⟨w1, hmk, hown, hgr⟩ := run_make_own (P := Tryz.prog) w w.heap.size 23 9 ii zz 1 ht hi hz z2 .i64 .i64 2 (by rw [z3]; decide) (by decide) (Nat.le_refl _)
      rw [show ((2 : Nat) : Int) = 2 from rfl] at hmk
      have Hown := Lib.hid hown
      have Hgr := Lib.hid hgr
      have hz109 : Tryz.zeroCells228.size = 257 := by kernel_rfl
      have hall : ∀ i, i < 256 → Tryz.zeroCells228[i]? = some (.slice none 0 0) := by
        have h : (List.range 256).all (fun i => match Tryz.zeroCells228[i]? with | some (.slice none 0 0) => true | _ => false) = true := by kernel_rfl
        intro i hi
        have := List.all_eq_true.1 h i (List.mem_range.2 hi)
        split at this
        · assumption
        · cases this
      have hone : (Tryz.zeroCells228.setIfInBounds 256 (.slice (some ⟨w.heap.size, 0, none⟩) 0 2)).all (·.oneCell') = true := by
        have h : Tryz.zeroCells228.all (·.oneCell') = true := by kernel_rfl
        rw [Array.all_eq_true] at h ⊢
        intro i hi
        rw [Array.getElem_setIfInBounds]
        split
        · rfl
        · exact h i (by simpa using hi)
      have hst := run_storeCells_new (P := Tryz.prog) w1 228 Tryz.zeroCells228 (Tryz.zeroCells228.setIfInBounds 256 (.slice (some ⟨w.heap.size, 0, none⟩) 0 2)) (by rw [show (Tryz.prog.info? 228).map (·.size) = some 257 by kernel_rfl]; simp [hz109]) (by simp) hone
      rw [Array.toList_setIfInBounds] at hst
      have Hall := Lib.hid hall
      have Hz := Lib.hid hz109
      clear ht hi hz z2 z3 z4 pos hown hgr hone hall hz109
      obtain ⟨Z, hZ⟩ : ∃ Z, Z = Tryz.zeroCells228.setIfInBounds 256 (.slice (some ⟨w.heap.size, 0, none⟩) 0 2) := ⟨_, rfl⟩
      rw [← hZ] at hst
      have HZ := Lib.hid hZ
      obtain ⟨t, ht⟩ : ∃ t, t = w1.heap.size := ⟨_, rfl⟩
      have HT : Hid ((w1.alloc (.cells Z 228)).heap[t]? = some (.cells Z 228 (0, 0))) := by rw [ht]; exact heap_alloc_new w1 _
      have Ht := Lib.hid ht
      have hs1 : w.heap.size ≤ w1.heap.size := Hgr.out.size
      clear hZ ht
      have hown0 : OwnC (w1.alloc (.cells Z 228)) w.heap.size 9 1 (repl.take 0) (.slice (some ⟨w.heap.size, 0, none⟩) 0 2) := by
        refine OwnC.alloc ⟨?_, by simp [repl]⟩ _
        exact Hown.out
      have T0 : Hid (TabSt w 0 t (w1.alloc (.cells Z 228)) 0 0 0 0 (.slice (some ⟨w.heap.size, 0, none⟩) 0 2) Z) := by
        have hlt := Hown.out.lt w.heap.size rfl
        refine ⟨HT.out, by rw [HZ.out]; simp [Hz.out], by rw [HZ.out]; simp [Hz.out], hown0, by rw [Ht.out]; simp [Value.ownBlock]; omega, fun i hi => ?_, by omega, by omega, ?_, by rw [Ht.out]; exact hs1, by omega, by omega⟩
        · rw [HZ.out, Array.getElem?_setIfInBounds_ne (by omega), Hall.out i hi]; simp [tabAt]
        · exact ((Below.refl _ _).grown Hgr.out (Nat.le_refl _) (by simp)).alloc hs1 _
      clear hown0
      go_wp2
      rw [← Ht.out]
      go_loopw [12, 13, 14] (fun i _ _ wx => ∃ k : Nat, k ≤ 2 ∧ i = .int .i64 (2 - 2 * k) ∧ ∃ g10 c10 g92 c92 tv Z, Hid (TabSt w k t wx g10 c10 g92 c92 tv Z)) (fun i _ _ _ => (intOf i + 2).toNat)
      case atStart => exact ⟨0, by omega, rfl, 0, 0, 0, 0, _, Z, T0.out⟩
      case round =>
        clear T0
        obtain ⟨k, hk, rfl, g10, c10, g92, c92, tv, Zk, TK⟩ := hrel
        have hol := lt_of_cell s0
        have hsz := TK.out.below.size
        obtain ⟨z0, z1⟩ := bcell TK.out.below
        have r0 := (z0 o 0 hol).trans s0
        have r1 := (z0 o 1 hol).trans s1
        have r2 := (z0 o 2 hol).trans s2
        have r3 := (z0 o 3 hol).trans s3
        have hzt : ∀ i, wr.cell? ⟨t, i, none⟩ = Zk[i]? := fun i => by simp [World.cell?, TK.out.cells]
        have hft : ∀ i, wr.frozen? ⟨t, i, none⟩ = false := fun i => by simp [World.frozen?, TK.out.cells]
        have htl : t < wr.heap.size := (Array.getElem?_eq_some_iff.1 TK.out.cells).1
        have t256 : wr.cell? ⟨t, 256, none⟩ = some tv := (hzt 256).trans TK.out.last
        have Hzt := Lib.hid hzt
        have Hft := Lib.hid hft
        clear z0 z1 hzt hft s0 s1 s2 s3
        have hk3 : k = 0 ∨ k = 1 ∨ k = 2 := by omega
        rcases hk3 with rfl | rfl | rfl
        · have heq : ∀ W, (binOp .eql 110 (.slice none 0 0) (.slice none 0 0)).run Tryz.prog W = .ok (.bool true) W := fun W => Lib.run_eql_slice_nil W 110 5 none 0 0 0 0 Tryz.underlying110
          have hb10 : ∀ h : 0 < (⟨#[10]⟩ : ByteArray).size, ((⟨#[10]⟩ : ByteArray)[0]'h) = 10 := fun _ => rfl
          have t10 : wr.cell? ⟨t, 10, none⟩ = some (.slice none 0 0) := (Hzt.out 10).trans ((TK.out.tab 10 (by omega)).trans (by simp [tabAt]))
          have hcv1 : (convert 110 9 (.slice (some ⟨wr.heap.size, 0, none⟩) 1 1)).run Tryz.prog (wr.alloc (.cells #[.int .u8 10] 5)) = .ok (.string ⟨#[10]⟩) (wr.alloc (.cells #[.int .u8 10] 5)) :=
            run_convert_bytes_back (P := Tryz.prog) (wr.alloc (.cells #[.int .u8 10] 5)) 110 9 5 ⟨wr.heap.size, 0, none⟩ 1 [10] Tryz.underlying110 Tryz.underlying5 Tryz.underlying9 (fun j hj => by
              have hj0 : j = 0 := by simp at hj; exact hj
              subst hj0
              rw [add_at]; simp)
          have hne := TK.out.ne
          have Hne := Lib.hid hne
          clear hne
          go_wp2_with (at_builtin; go_must (refine wpList_appN _ rfl (.tmp 119) (.tmp 123) 23 rfl elStrs w.heap.size _ tv rfl ((TK.out.own.alloc (.cells #[.int .u8 10] 5)).alloc _) _ [[.string ⟨#[10]⟩]] _ rfl (SlC.litN [[.string ⟨#[10]⟩]] (by simp) rfl 9 (wr.heap.size + 1) 1 (wr.heap.size + 2) rfl (by simp) (by omega) (by unfold maxLen; omega)) (by simp) (by simp [Value.oneCell']) (by simp [repl]) (by simp [repl, maxLen]) (by simp; omega) ?_))
          intro v1 w2 hov hgr hbl hob
          obtain ⟨A1, cc1, hv1, -⟩ := id hov.sl
          have hll : ((repl.take 0) ++ [[Value.string ⟨#[10]⟩]]).length = 1 := rfl
          have hov' : OwnC w2 w.heap.size 9 1 (repl.take 1) v1 := hov
          rw [show (v1 : Value) = .slice A1 1 cc1 from hv1] at hov' hob
          have hgr' := Lib.hid hgr
          have htw : w2.heap[t]? = some (.cells Zk 228 (0, 0)) := by
            refine (hgr.block t (by simp; omega) (fun e => Hne.out e.symm)).trans ?_
            exact (Below.heap_alloc _ _ t (by simp; omega)).trans ((Below.heap_alloc wr _ t htl).trans TK.out.cells)
          have t256b : w2.cell? ⟨t, 256, none⟩ = some tv := by simp [World.cell?, htw, TK.out.last]
          have f256b : w2.frozen? ⟨t, 256, none⟩ = false := by simp [World.frozen?, htw]
          obtain ⟨c', w4, hcv, hsl4, hb4, hsz4⟩ := run_str_bytes (P := Tryz.prog) (w2.setCell ⟨t, 256, none⟩ (.slice A1 1 cc1)) 9 110 5 bs10 Tryz.underlying9 Tryz.underlying110 Tryz.underlying5 (by decide)
          have hz3 : (w2.setCell ⟨t, 256, none⟩ (.slice A1 1 cc1)).heap.size = w2.heap.size := by simp [World.setCell]
          rw [hz3] at hcv hsl4 hb4 hsz4
          have hcv' : (convert 9 110 (.string ⟨#[92, 110]⟩)).run Tryz.prog (w2.setCell ⟨t, 256, none⟩ (.slice A1 1 cc1)) = .ok (.slice (some ⟨w2.heap.size, 0, none⟩) 2 c') w4 := hcv
          have htw4 : w4.heap[t]? = some (.cells (Zk.setIfInBounds 256 (.slice A1 1 cc1)) 228 (0, 0)) := (hb4.block t (by have := hgr.size; simp at this; omega)).trans (heap_set_at htw _)
          have t10b : w4.cell? ⟨t, 10, none⟩ = some (.slice none 0 0) := by
            have := TK.out.tab 10 (by omega)
            simp [World.cell?, htw4, Array.getElem?_setIfInBounds_ne (show (256 : Nat) ≠ 10 by decide), this, tabAt]
          have f10b : w4.frozen? ⟨t, 10, none⟩ = false := by simp [World.frozen?, htw4]
          have BS : ByteSl w4 bs10 w2.heap.size c' := ByteSl.of hsl4 (by omega)
          have ST := Lib.hid (TabSt.step TK.out (by omega) hov' hgr hob (.inl ⟨rfl, rfl, rfl⟩) BS hb4)
          rw [show (v1 : Value) = .slice A1 1 cc1 from hv1]
          clear hov hov' hgr hgr' hbl hob hll hv1 htw htw4 hcv hsl4 hb4 BS
          go_wp2
          go_roundw
          case rel =>
            obtain ⟨q1, q2, q3, q4, q5, q6⟩ := ST.out
            exact ⟨1, by omega, by go_num, q1, q2, q3, q4, _, q5, q6⟩
          case measure => simp [intOf]
        · have heq : ∀ W, (binOp .eql 110 (.slice none 0 0) (.slice none 0 0)).run Tryz.prog W = .ok (.bool true) W := fun W => Lib.run_eql_slice_nil W 110 5 none 0 0 0 0 Tryz.underlying110
          have hb10 : ∀ h : 0 < (⟨#[92]⟩ : ByteArray).size, ((⟨#[92]⟩ : ByteArray)[0]'h) = 92 := fun _ => rfl
          have t10 : wr.cell? ⟨t, 92, none⟩ = some (.slice none 0 0) := (Hzt.out 92).trans ((TK.out.tab 92 (by omega)).trans (by simp [tabAt]))
          have hcv1 : (convert 110 9 (.slice (some ⟨wr.heap.size, 0, none⟩) 1 1)).run Tryz.prog (wr.alloc (.cells #[.int .u8 92] 5)) = .ok (.string ⟨#[92]⟩) (wr.alloc (.cells #[.int .u8 92] 5)) :=
            run_convert_bytes_back (P := Tryz.prog) (wr.alloc (.cells #[.int .u8 92] 5)) 110 9 5 ⟨wr.heap.size, 0, none⟩ 1 [92] Tryz.underlying110 Tryz.underlying5 Tryz.underlying9 (fun j hj => by
              have hj0 : j = 0 := by simp at hj; exact hj
              subst hj0
              rw [add_at]; simp)
          have hne := TK.out.ne
          have Hne := Lib.hid hne
          clear hne
          go_wp2_with (at_builtin; go_must (refine wpList_appN _ rfl (.tmp 119) (.tmp 123) 23 rfl elStrs w.heap.size _ tv rfl ((TK.out.own.alloc (.cells #[.int .u8 92] 5)).alloc _) _ [[.string ⟨#[92]⟩]] _ rfl (SlC.litN [[.string ⟨#[92]⟩]] (by simp) rfl 9 (wr.heap.size + 1) 1 (wr.heap.size + 2) rfl (by simp) (by omega) (by unfold maxLen; omega)) (by simp) (by simp [Value.oneCell']) (by simp [repl]) (by simp [repl, maxLen]) (by simp; omega) ?_))
          intro v1 w2 hov hgr hbl hob
          obtain ⟨A1, cc1, hv1, -⟩ := id hov.sl
          have hll : ((repl.take 1) ++ [[Value.string ⟨#[92]⟩]]).length = 2 := rfl
          have hov' : OwnC w2 w.heap.size 9 1 (repl.take 2) v1 := hov
          rw [show (v1 : Value) = .slice A1 2 cc1 from hv1] at hov' hob
          have hgr' := Lib.hid hgr
          have htw : w2.heap[t]? = some (.cells Zk 228 (0, 0)) := by
            refine (hgr.block t (by simp; omega) (fun e => Hne.out e.symm)).trans ?_
            exact (Below.heap_alloc _ _ t (by simp; omega)).trans ((Below.heap_alloc wr _ t htl).trans TK.out.cells)
          have t256b : w2.cell? ⟨t, 256, none⟩ = some tv := by simp [World.cell?, htw, TK.out.last]
          have f256b : w2.frozen? ⟨t, 256, none⟩ = false := by simp [World.frozen?, htw]
          obtain ⟨c', w4, hcv, hsl4, hb4, hsz4⟩ := run_str_bytes (P := Tryz.prog) (w2.setCell ⟨t, 256, none⟩ (.slice A1 2 cc1)) 9 110 5 bs92 Tryz.underlying9 Tryz.underlying110 Tryz.underlying5 (by decide)
          have hz3 : (w2.setCell ⟨t, 256, none⟩ (.slice A1 2 cc1)).heap.size = w2.heap.size := by simp [World.setCell]
          rw [hz3] at hcv hsl4 hb4 hsz4
          have hcv' : (convert 9 110 (.string ⟨#[92, 92]⟩)).run Tryz.prog (w2.setCell ⟨t, 256, none⟩ (.slice A1 2 cc1)) = .ok (.slice (some ⟨w2.heap.size, 0, none⟩) 2 c') w4 := hcv
          have htw4 : w4.heap[t]? = some (.cells (Zk.setIfInBounds 256 (.slice A1 2 cc1)) 228 (0, 0)) := (hb4.block t (by have := hgr.size; simp at this; omega)).trans (heap_set_at htw _)
          have t10b : w4.cell? ⟨t, 92, none⟩ = some (.slice none 0 0) := by
            have := TK.out.tab 92 (by omega)
            simp [World.cell?, htw4, Array.getElem?_setIfInBounds_ne (show (256 : Nat) ≠ 92 by decide), this, tabAt]
          have f10b : w4.frozen? ⟨t, 92, none⟩ = false := by simp [World.frozen?, htw4]
          have BS : ByteSl w4 bs92 w2.heap.size c' := ByteSl.of hsl4 (by omega)
          have ST := Lib.hid (TabSt.step TK.out (by omega) hov' hgr hob (.inr ⟨rfl, rfl, rfl⟩) BS hb4)
          rw [show (v1 : Value) = .slice A1 2 cc1 from hv1]
          clear hov hov' hgr hgr' hbl hob hll hv1 htw htw4 hcv hsl4 hb4 BS
          go_wp2
          go_roundw
          case rel =>
            obtain ⟨q1, q2, q3, q4, q5, q6⟩ := ST.out
            exact ⟨2, by omega, by go_num, q1, q2, q3, q4, _, q5, q6⟩
          case measure => simp [intOf]
        · go_wp2
          go_ret
          exact ⟨t, g10, c10, g92, c92, tv, Zk, rfl, TK.out⟩
/-- The whole table at t, all of it at B or above. -/
structure TabAt (B t : Nat) (w : World) (g10 c10 g92 c92 : Nat) (tv : Value) (Z : Array Value) : Prop where
  cells : w.heap[t]? = some (.cells Z 228 (0, 0))
  size : Z.size = 257
  last : Z[256]? = some tv
  own : OwnC w B 9 1 repl tv
  tab : ∀ i, i < 256 → Z[i]? = some (tabAt 2 g10 c10 g92 c92 i)
  b10 : ByteSl w bs10 g10 c10
  b92 : ByteSl w bs92 g92 c92
  lo : B ≤ t
  l10 : B ≤ g10
  l92 : B ≤ g92
theorem TabSt.whole {w0 w : World} {t g10 c10 g92 c92 : Nat} {tv : Value} {Z : Array Value} (T : TabSt w0 2 t w g10 c10 g92 c92 tv Z) : TabAt w0.heap.size t w g10 c10 g92 c92 tv Z :=
  ⟨T.cells, T.size, T.last, T.own, T.tab, (T.b10 (by omega)).1, (T.b92 (by omega)).1, T.lo, T.l10 (by omega), T.l92 (by omega)⟩
/-- A world in which nothing at B or above has turned. -/
theorem TabAt.keep {B t : Nat} {w w' : World} {g10 c10 g92 c92 : Nat} {tv : Value} {Z : Array Value} (T : TabAt B t w g10 c10 g92 c92 tv Z) (hs : w.heap.size ≤ w'.heap.size) (hb : ∀ j, B ≤ j → j < w.heap.size → w'.heap[j]? = w.heap[j]?) : TabAt B t w' g10 c10 g92 c92 tv Z := by
  have htl : t < w.heap.size := (Array.getElem?_eq_some_iff.1 T.cells).1
  refine ⟨(hb t T.lo htl).trans T.cells, T.size, T.last, ?_, T.tab, T.b10.keep hs (hb _ T.l10 T.b10.lt), T.b92.keep hs (hb _ T.l92 T.b92.lt), T.lo, T.l10, T.l92⟩
  have hlt := T.own.lt
  obtain ⟨⟨h1, h2⟩, h3⟩ := T.own
  refine ⟨⟨h1, ?_⟩, h3⟩
  rcases h2 with h0 | ⟨g, cap, cur, hv, hbg, hg, r⟩
  · exact .inl h0
  · have hg' := hlt g (by rw [hv]; rfl)
    exact .inr ⟨g, cap, cur, hv, hbg, (hb g hg'.1 hg'.2).trans hg, r⟩
/-- A Replacer at b that is not built yet: its five cells. -/
structure RepNew (w : World) (b o c : Nat) : Prop where
  once : OnceNew w b
  h3 : ∃ v, w.cell? ⟨b, 3, none⟩ = some v
  h4 : w.cell? ⟨b, 4, none⟩ = some (.slice (some ⟨o, 0, none⟩) 4 c)
  fz : ∀ i, w.frozen? ⟨b, i, none⟩ = false
  lo : 4 ≤ c
  hi : c ≤ maxLen
  s0 : w.cell? ⟨o, 0, none⟩ = some (.string ⟨#[92]⟩)
  s1 : w.cell? ⟨o, 1, none⟩ = some (.string ⟨#[92, 92]⟩)
  s2 : w.cell? ⟨o, 2, none⟩ = some (.string ⟨#[10]⟩)
  s3 : w.cell? ⟨o, 3, none⟩ = some (.string ⟨#[92, 110]⟩)
end Go.Proofs.YtlffpelkmdcckaaGreatDoor
