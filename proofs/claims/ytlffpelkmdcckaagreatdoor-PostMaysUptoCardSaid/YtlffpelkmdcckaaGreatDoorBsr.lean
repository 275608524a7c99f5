/- The table's own Replace. -/
import Derived.Test.YtlffpelkmdcckaaGreatDoorCount
import Derived.Test.YtlffpelkmdcckaaGreatDoorFieldP
import Derived.Lib.SliceRun
import Derived.Laws.Cover3
import Derived.Laws.CopyOwn
import Derived.Deep.RegionLaw
import Derived.Deep.DeepMust
namespace Go.Proofs.YtlffpelkmdcckaaGreatDoor
open Go Go.RowKit Go.Sup
set_option maxRecDepth 100000
theorem info_u8 : (Tryz.prog.info? 5).map (fun i => (i.zero, i.size, i.bytes)) = some (some (.int .u8 0), 1, 1) := by kernel_rfl
theorem tab_at {B t : Nat} {w : World} {g10 c10 g92 c92 : Nat} {tv : Value} {Z : Array Value} (T : TabAt B t w g10 c10 g92 c92 tv Z) (b : UInt8) : w.cell? ⟨t, b.toNat, none⟩ = some (tabAt 2 g10 c10 g92 c92 b.toNat) := by
  have := T.tab b.toNat (UInt8.toNat_lt b)
  simp [World.cell?, T.cells, this]
theorem tab_special {g10 c10 g92 c92 : Nat} (b : UInt8) : (special b = true ∧ ∃ g c, tabAt 2 g10 c10 g92 c92 b.toNat = .slice (some ⟨g, 0, none⟩) 2 c) ∨ (special b = false ∧ tabAt 2 g10 c10 g92 c92 b.toNat = .slice none 0 0) := by
  by_cases h : b = 92
  · left; subst h; exact ⟨rfl, g92, c92, rfl⟩
  · by_cases h2 : b = 10
    · left; subst h2; exact ⟨rfl, g10, c10, rfl⟩
    · right
      have e1 : b.toNat ≠ 92 := fun e => h (UInt8.toNat_inj.1 e)
      have e2 : b.toNat ≠ 10 := fun e => h2 (UInt8.toNat_inj.1 e)
      exact ⟨by simp [special, h, h2], by simp [tabAt, e1, e2]⟩
theorem countP_take (l : List UInt8) (k : Nat) (h : k < l.length) : (l.take (k + 1)).countP special = (l.take k).countP special + if special l[k] then 1 else 0 := by
  rw [List.take_succ_eq_append_getElem h, List.countP_append]; simp [List.countP_cons]
theorem countP_le (l : List UInt8) (k : Nat) : (l.take k).countP special ≤ l.length := Nat.le_trans List.countP_le_length (by simp; omega)
/-- How many signs of the first k are written as two. -/
def spN (s : ByteArray) (k : Nat) : Nat := (s.data.toList.take k).countP special
def spB (s : ByteArray) (k : Nat) : Bool := decide (0 < spN s k)
theorem spN_zero (s : ByteArray) : spN s 0 = 0 := rfl
theorem spN_le (s : ByteArray) (k : Nat) : spN s k ≤ s.size := countP_le s.data.toList k
theorem spN_yes {s : ByteArray} {k : Nat} (h : k < s.size) (hs : special s[k] = true) : spN s (k + 1) = spN s k + 1 := by
  have := countP_take s.data.toList k (by simpa using h)
  unfold spN
  rw [this, if_pos (by exact hs)]
theorem spN_no {s : ByteArray} {k : Nat} (h : k < s.size) (hs : special s[k] = false) : spN s (k + 1) = spN s k := by
  have := countP_take s.data.toList k (by simpa using h)
  unfold spN
  rw [this, if_neg (by show ¬ special s[k] = true; rw [hs]; decide)]; rfl
theorem spN_all (s : ByteArray) : spN s s.size = s.data.toList.countP special := by
  unfold spN; rw [List.take_of_length_le (by rw [Array.length_toList]; exact Nat.le_refl _)]
/-- Bytes as cells. -/
def bI (l : List UInt8) : List Value := l.map fun b => .int .u8 (b.toNat : Int)
theorem bI_len (l : List UInt8) : (bI l).length = l.length := by simp [bI]
theorem bI_app (l m : List UInt8) : bI (l ++ m) = bI l ++ bI m := by simp [bI]
/-- What the new row holds behind k signs. -/
def bufAt (s : ByteArray) (N k : Nat) : List Value := bI (escL (s.data.toList.take k)) ++ List.replicate (N - (escL (s.data.toList.take k)).length) (.int .u8 0)
def eLen (s : ByteArray) (k : Nat) : Nat := (escL (s.data.toList.take k)).length
theorem eLen_eq (s : ByteArray) (k : Nat) (h : k ≤ s.size) : eLen s k = k + spN s k := by
  unfold eLen spN
  rw [escL_len, List.length_take, Array.length_toList]
  have : s.data.size = s.size := rfl
  omega
theorem spN_mono (s : ByteArray) : ∀ (k m : Nat), k ≤ m → spN s k ≤ spN s m := fun k m h => by
  unfold spN
  exact List.Sublist.countP_le (List.take_sublist_take_left h)
theorem take_snoc' (s : ByteArray) (k : Nat) (h : k < s.size) : s.data.toList.take (k + 1) = s.data.toList.take k ++ [s[k]] := by
  rw [List.take_succ_eq_append_getElem (by simpa using h)]; rfl
theorem escB_no {b : UInt8} (h : special b = false) : escB b = [b] := by
  unfold special at h
  simp at h
  simp [escB, h]
theorem bufAt_len (s : ByteArray) (N k : Nat) (h : eLen s k ≤ N) : (bufAt s N k).length = N := by
  unfold bufAt
  unfold eLen at h
  rw [List.length_append, bI_len, List.length_replicate]
  omega
theorem bufAt_splice (s : ByteArray) (N k : Nat) (hk : k < s.size) (h : eLen s (k + 1) ≤ N) : splice (bufAt s N k) (eLen s k) (bI (escB s[k])) = bufAt s N (k + 1) := by
  unfold eLen at h
  unfold bufAt eLen splice
  rw [take_snoc' s k hk, escL_snoc] at h ⊢
  rw [List.length_append] at h
  rw [List.take_left' (bI_len _), bI_app, List.length_append, List.append_assoc]
  congr 1
  congr 1
  rw [List.drop_append, List.drop_of_length_le (by rw [bI_len]; omega), List.nil_append, List.drop_replicate, bI_len, bI_len]
  congr 1
  omega
theorem bufAt_set (s : ByteArray) (N k : Nat) (hk : k < s.size) (h : eLen s (k + 1) ≤ N) (hsp : special s[k] = false) : (bufAt s N k).set (eLen s k) (.int .u8 (s[k].toNat : Int)) = bufAt s N (k + 1) := by
  unfold eLen at h
  unfold bufAt eLen
  rw [take_snoc' s k hk, escL_snoc, escB_no hsp] at h ⊢
  rw [List.length_append] at h
  rw [List.set_append_right _ _ (by rw [bI_len]; exact Nat.le_refl _), bI_len, Nat.sub_self, bI_app, List.append_assoc]
  congr 1
  obtain ⟨m, hm⟩ : ∃ m, N - (escL (s.data.toList.take k)).length = m + 1 := ⟨N - (escL (s.data.toList.take k)).length - 1, by simp at h; omega⟩
  rw [hm, List.replicate_succ, List.set_cons_zero]
  simp only [bI, List.map_cons, List.map_nil, List.singleton_append, List.length_append, List.length_singleton]
  rw [show N - ((escL (s.data.toList.take k)).length + 1) = m by omega]
theorem bufAt_zero (s : ByteArray) (N : Nat) : bufAt s N 0 = List.replicate N (.int .u8 0) := by simp [bufAt, escL, bI]
theorem bufAt_all (s : ByteArray) (N : Nat) (h : eLen s s.size = N) : bufAt s N s.size = bI (esc s).data.toList := by
  unfold eLen at h
  unfold bufAt esc
  rw [List.take_of_length_le (by rw [Array.length_toList]; exact Nat.le_refl _)] at h ⊢
  rw [h, Nat.sub_self]
  simp
theorem tab_src {B t : Nat} {w : World} {g10 c10 g92 c92 : Nat} {tv : Value} {Z : Array Value} (T : TabAt B t w g10 c10 g92 c92 tv Z) (b : UInt8) (h : special b = true) :
    ∃ g c, tabAt 2 g10 c10 g92 c92 b.toNat = .slice (some ⟨g, 0, none⟩) 2 c ∧ (escB b).length = 2 ∧ ∀ j v, (bI (escB b))[j]? = some v → w.cell? ⟨g, j, none⟩ = some v := by
  have hl : (escB b).length = 2 := by rw [escB_len, h]; rfl
  unfold special at h
  by_cases h2 : b = 92
  · subst h2
    refine ⟨g92, c92, rfl, hl, fun j v hv => ?_⟩
    simp only [bI, List.getElem?_map, Option.map_eq_some_iff] at hv
    obtain ⟨x, hx, rfl⟩ := hv
    exact T.b92.cell j x hx
  · have h3 : b = 10 := by simpa [h2] using h
    subst h3
    refine ⟨g10, c10, rfl, hl, fun j v hv => ?_⟩
    simp only [bI, List.getElem?_map, Option.map_eq_some_iff] at hv
    obtain ⟨x, hx, rfl⟩ := hv
    exact T.b10.cell j x hx
theorem TabAt.below {B t : Nat} {w w' : World} {g10 c10 g92 c92 : Nat} {tv : Value} {Z : Array Value} (T : TabAt B t w g10 c10 g92 c92 tv Z) (hb : Below w.heap.size w w') : TabAt B t w' g10 c10 g92 c92 tv Z :=
  T.keep hb.size fun j _ hj => hb.block j hj
theorem esc_none {s : ByteArray} (h : spB s s.size = false) : esc s = s := by
  have h0 : s.data.toList.countP special = 0 := by
    have := spN_all s
    unfold spB at h
    simp at h
    omega
  have h1 : s.data.toList.any special = false := by rw [any_special, h0]; rfl
  unfold esc
  rw [escL_plain _ h1]
set_option maxHeartbeats 2000000 in
theorem bsr_lt (W : World) (B t g10 c10 g92 c92 : Nat) (tv : Value) (Z : Array Value) (T : TabAt B t W g10 c10 g92 c92 tv Z) (s : ByteArray) (hlt : s.size < 16) :
    Calls Tryz.prog 225 #[.pointer (some ⟨t, 0, none⟩), .string s] W fun e w' => e = .returned (.string (esc s)) ∧ Below W.heap.size W w' := by
  obtain ⟨A, c, htv, -⟩ := id T.own.sl
  rw [show repl.length = 2 from rfl] at htv
  subst htv
  have t256 : W.cell? ⟨t, 256, none⟩ = some (.slice A 2 c) := by simp [World.cell?, T.cells, T.last]
  have HT := Lib.hid T
  clear T
  have hneq : ∀ g c' w', (binOp .neq 110 (.slice (some ⟨g, 0, none⟩) 2 c') (.slice none 0 0)).run Tryz.prog w' = .ok (.bool true) w' := fun g c' w' => by
    simpa using run_neq_slice_nil_any (P := Tryz.prog) w' 110 5 (some ⟨g, 0, none⟩) 2 c' 0 0 Tryz.underlying110
  have hneq0 : ∀ w', (binOp .neq 110 (.slice none 0 0) (.slice none 0 0)).run Tryz.prog w' = .ok (.bool false) w' := fun w' => by
    simpa using run_neq_slice_nil_any (P := Tryz.prog) w' 110 5 none 0 0 0 0 Tryz.underlying110
  go_enter Tryz.func225, Tryz.ntmps225
  go_wp2
  go_loop [5, 6, 10] (fun n any i => ∃ k : Nat, k ≤ s.size ∧ i = .int .i64 k ∧ n = .int .i64 (s.size + spN s k) ∧ any = .bool (spB s k)) (fun _ _ i => s.size - (intOf i).toNat)
  case atStart => exact ⟨0, Nat.zero_le _, rfl, by simp [spN_zero], by simp [spB, spN_zero]⟩
  case round =>
    obtain ⟨k, hk, rfl, rfl, rfl⟩ := hrel
    have hn1 := spN_le s k
    by_cases hltk : k < s.size
    · have hb := tab_at HT.out s[k]
      have hu := UInt8.toNat_lt s[k]
      rcases tab_special (g10 := g10) (c10 := c10) (g92 := g92) (c92 := c92) s[k] with ⟨hsp, g, c', htab⟩ | ⟨hsp, htab⟩
      · rw [htab] at hb
        have Hx := Lib.hid (spN_yes hltk hsp)
        clear hsp htab
        go_wp2
        go_round
        case rel => exact ⟨k + 1, by omega, by go_num, by rw [Hx.out]; go_num, by simp [spB, Hx.out]⟩
        case measure => simp [intOf]; omega
      · rw [htab] at hb
        have Hx := Lib.hid (spN_no hltk hsp)
        clear hsp htab
        go_wp2
        go_round
        case rel => exact ⟨k + 1, by omega, by go_num, by rw [Hx.out], by simp [spB, Hx.out]⟩
        case measure => simp [intOf]; omega
    · obtain rfl : k = s.size := by omega
      clear hk hltk
      cases hany : spB s s.size
      · go_wp2
        go_ret
        exact ⟨by rw [esc_none hany]; rfl, Below.refl _ _⟩
      · obtain ⟨N, hN⟩ : ∃ N : Nat, N = s.size + spN s s.size := ⟨_, rfl⟩
        have hNs : N ≤ 30 := by omega
        obtain ⟨ii, hi, hz, z2, z3⟩ := info_parts info_u8
        obtain ⟨w1, hmk, hown, hgr⟩ := run_make_full (P := Tryz.prog) W W.heap.size 110 5 ii (.int .u8 0) 1 Tryz.underlying110 hi hz z2 .i64 .i64 N (by rw [z3]; omega) (by unfold maxLen; omega) (Nat.le_refl _)
        rw [show (s.size : Int) + (spN s s.size : Int) = (N : Int) by rw [hN]; simp]
        obtain ⟨g, hg⟩ : ∃ g, g = W.heap.size := ⟨_, rfl⟩
        have Hg := Lib.hid hg
        have hbuf : w1.heap[g]? = some (.cells (bufAt s N 0).toArray 5 (0, 0)) := by
          rcases hown.2 with ⟨h0, _⟩ | ⟨g', cap, cur, he, _, hb, _, _, hsz, htk⟩
          · cases h0
          · injection he with e1 e2 e3
            injection e1 with e1
            injection e1 with e1
            subst e1; subst e3
            rw [hg, hb]
            have : cur.toList = bufAt s N 0 := by
              rw [bufAt_zero, ← toList_madeCells_one (.int .u8 0) N]
              rw [List.take_of_length_le (by rw [Array.length_toList, hsz]; exact Nat.le_refl _)] at htk
              rw [htk, Nat.mul_one]; rfl
            rw [← this]
        have Hown := Lib.hid hown
        have hb1 : Below W.heap.size W w1 := (Below.refl _ _).grown hgr (Nat.le_refl _) (by simp)
        have H1 := Lib.hid (And.intro hbuf hb1)
        have HN := Lib.hid (And.intro hN hany)
        rw [← hg] at hmk
        clear hi hz z2 z3 hown hgr hN hany hg hbuf hb1
        go_wp2
        go_loopw [13, 14] (fun j i wr => ∃ k : Nat, k ≤ s.size ∧ i = .int .i64 k ∧ j = .int .i64 (eLen s k) ∧ Hid (wr.heap[g]? = some (.cells (bufAt s N k).toArray 5 (0, 0)) ∧ Below W.heap.size W wr)) (fun _ i _ => s.size - (intOf i).toNat)
        case atStart => exact ⟨0, Nat.zero_le _, rfl, rfl, H1.out⟩
        case round =>
          obtain ⟨k, hk, rfl, rfl, HR⟩ := hrel
          have hE := eLen_eq s k hk
          have hM := spN_mono s k s.size hk
          have hEN : eLen s k ≤ N := by have := HN.out.1; omega
          have HE := Lib.hid hE
          clear hE
          by_cases hltk : k < s.size
          · have HT2 := Lib.hid ((HT.out.below HR.out.2))
            have hu := UInt8.toNat_lt s[k]
            have hb := tab_at HT2.out s[k]
            have hE1 : eLen s (k + 1) ≤ N := by have := HN.out.1; have := eLen_eq s (k + 1) hltk; have := spN_mono s (k + 1) s.size hltk; omega
            rcases hsp : special s[k]
            · have htab : tabAt 2 g10 c10 g92 c92 s[k].toNat = .slice none 0 0 := by
                rcases tab_special (g10 := g10) (c10 := c10) (g92 := g92) (c92 := c92) s[k] with ⟨h, _⟩ | ⟨_, h⟩
                · rw [hsp] at h; cases h
                · exact h
              rw [htab] at hb
              have hlt1 : eLen s k < N := by have := eLen_eq s (k + 1) hltk; have := HE.out; have := spN_mono s k (k + 1) (by omega); omega
              have Hset := Lib.hid (bufAt_set s N k hltk hE1 hsp)
              have Hx := Lib.hid (And.intro hsp htab)
              obtain ⟨v0, hcg⟩ : ∃ v0, wr.cell? ⟨g, eLen s k, none⟩ = some v0 := by
                simp only [World.cell?, HR.out.1]
                exact ⟨_, Array.getElem?_eq_getElem (by simp [bufAt_len s N k hEN]; exact hlt1)⟩
              have hfg : wr.frozen? ⟨g, eLen s k, none⟩ = false := by simp [World.frozen?, HR.out.1]
              have HE1 : Hid (eLen s (k + 1) = eLen s k + 1) := by
                have h1 := eLen_eq s (k + 1) hltk
                have h2 := spN_no hltk hsp
                have h3 := HE.out
                show eLen s (k + 1) = eLen s k + 1
                omega
              have hgW : W.heap.size ≤ g := by have := Hg.out; omega
              clear hsp htab
              go_wp2
              go_roundw
              case rel =>
                refine ⟨k + 1, hltk, by go_num, by rw [HE1.out]; go_num, ?_⟩
                refine ⟨?_, HR.out.2.setCell hgW _⟩
                rw [heap_set_at HR.out.1, ← Hset.out]
                simp
              case measure => simp [intOf]; omega
            · obtain ⟨gs, cs, htab, hl2, hsrc⟩ := tab_src HT2.out s[k] hsp
              rw [htab] at hb
              have HE1 : Hid (eLen s (k + 1) = eLen s k + 2) := by
                have h1 := eLen_eq s (k + 1) hltk
                have h2 := spN_yes hltk hsp
                have h3 := HE.out
                show eLen s (k + 1) = eLen s k + 2
                omega
              have hlt2 : eLen s k + 2 ≤ N := by have := HE1.out; omega
              have hgW : W.heap.size ≤ g := by have := Hg.out; omega
              have hfit : eLen s k + (bI (escB s[k])).length ≤ (bufAt s N k).length := by rw [bI_len, hl2, bufAt_len s N k hEN]; exact hlt2
              have hone : ∀ v ∈ bI (escB s[k]), v.oneCell' = true := by
                intro v hv
                simp only [bI, List.mem_map] at hv
                obtain ⟨x, _, rfl⟩ := hv
                rfl
              have hlen : (bI (escB s[k])).length = Nat.min 2 (N - eLen s k) := by rw [bI_len, hl2]; show 2 = min 2 (N - eLen s k); omega
              have hcop : ∀ j v, (bI (escB s[k]))[j]? = some v → wr.drew.cell? ((⟨gs, 0, none⟩ : Addr).add j) = some v := fun j v hv => by
                rw [add_at, Nat.zero_add]; exact hsrc j v hv
              have Hc := Lib.hid (And.intro hfit (And.intro hone (And.intro hlen hcop)))
              have Hset := Lib.hid (bufAt_splice s N k hltk hE1)
              have huI : (s[k].toNat : Int) < 256 := by omega
              have hsI : (eLen s k : Int) ≤ N := by omega
              have hs2 : ¬ N = eLen s k := by omega
              have hlb : (bI (escB s[k])).length = 2 := by rw [bI_len, hl2]
              have Hl := Lib.hid hlb
              have Hbd : Hid (Below W.heap.size W wr.drew) := Go.Sup.below_drewN HR.out.2 1
              clear hsp htab hl2 hsrc hfit hone hlen hcop hlb
              go_wp2
              go_region_law (refine step_copy_splice rfl (.tmp 105) (.tmp 111) 110 110 rfl 5 Tryz.underlying110 (by kernel_rfl) _ _ _ _ _ _ rfl rfl g (eLen s k) (bufAt s N k) 5 HR.out.1 (bI (escB s[k])) Hc.out.2.2.1 (fun _ => ⟨rfl, ⟨gs, 0, none⟩, rfl, Hc.out.2.2.2⟩) Hc.out.1 Hc.out.2.1 W.heap.size W Hbd.out hgW ?_; rw [Hl.out]; intro w2 hw2 hb2; have H2 := Lib.hid (And.intro hw2.out hb2); clear hw2 hb2)
              all_goals
                go_wp2
                go_roundw
                case rel =>
                  refine ⟨k + 1, hltk, by go_num, by rw [HE1.out]; go_num, ?_⟩
                  refine ⟨?_, H2.out.2⟩
                  rw [H2.out.1, Hset.out]
                case measure => simp [intOf]; omega
          · obtain rfl : k = s.size := by omega
            clear hltk hk
            have hl : (esc s).data.toList.length = N := by
              have h1 := HN.out.1
              have h2 := HE.out
              unfold eLen at h2
              rw [List.take_of_length_le (by rw [Array.length_toList]; exact Nat.le_refl _)] at h2
              show (escL s.data.toList).length = N
              omega
            have hb := bufAt_all s N (by have h1 := HN.out.1; have h2 := HE.out; omega)
            have hcv := run_convert_bytes_back (P := Tryz.prog) wr 110 9 5 ⟨g, 0, none⟩ N (esc s).data.toList Tryz.underlying110 Tryz.underlying5 Tryz.underlying9 (fun j hj => by
              have h1 := HR.out.1
              rw [hb] at h1
              rw [add_at, Nat.zero_add]
              simp only [World.cell?, h1]
              simp only [bI, List.getElem?_toArray, List.getElem?_map, List.getElem?_eq_getElem hj]
              simp)
            rw [hl] at hcv
            have Hb2 := Lib.hid HR.out.2
            clear hb hl
            go_wp2
            go_ret
            exact ⟨rfl, Hb2.out⟩
def cSum (c1 c2 k : Nat) : Nat := if k = 0 then 0 else if k = 1 then c1 else c1 + c2
def cB (c1 c2 k : Nat) : Bool := decide (0 < cSum c1 c2 k)
set_option maxHeartbeats 2000000 in
theorem bsr_ge (W : World) (B t g10 c10 g92 c92 : Nat) (tv : Value) (Z : Array Value) (T : TabAt B t W g10 c10 g92 c92 tv Z) (s : ByteArray) (hlt : 16 ≤ s.size) (hmax : s.size ≤ 1000000) :
    Calls Tryz.prog 225 #[.pointer (some ⟨t, 0, none⟩), .string s] W fun e w' => e = .returned (.string (esc s)) ∧ Below W.heap.size W w' := by
  obtain ⟨A, c, htv, -⟩ := id T.own.sl
  rw [show repl.length = 2 from rfl] at htv
  subst htv
  have t256 : W.cell? ⟨t, 256, none⟩ = some (.slice A 2 c) := by simp [World.cell?, T.cells, T.last]
  obtain ⟨ga, ca, hga, -⟩ := T.own.form (by decide)
  injection hga with e1 e2 e3
  subst e1; subst e3
  have a0 : W.cell? ⟨ga, 0, none⟩ = some (.string ⟨#[10]⟩) := by simpa using T.own.cellAt (k := 0) (j := 0) (r := [.string ⟨#[10]⟩]) rfl rfl
  have a1 : W.cell? ⟨ga, 1, none⟩ = some (.string ⟨#[92]⟩) := by simpa using T.own.cellAt (k := 1) (j := 0) (r := [.string ⟨#[92]⟩]) rfl rfl
  obtain ⟨c1, hc1⟩ : ∃ c1, c1 = Lib.countByte s.data.toList 10 := ⟨_, rfl⟩
  obtain ⟨c2, hc2⟩ : ∃ c2, c2 = Lib.countByte s.data.toList 92 := ⟨_, rfl⟩
  have hcs : c1 + c2 = spN s s.size := by rw [hc1, hc2, spN_all]; exact count_special _
  have hcl : c1 + c2 ≤ s.size := by rw [hcs]; exact spN_le s s.size
  have HC1 := Lib.hid hc1
  have HC2 := Lib.hid hc2
  have HCS := Lib.hid hcs
  clear hc1 hc2 hcs e2
  have HT := Lib.hid T
  clear T
  have hneq : ∀ g c' w', (binOp .neq 110 (.slice (some ⟨g, 0, none⟩) 2 c') (.slice none 0 0)).run Tryz.prog w' = .ok (.bool true) w' := fun g c' w' => by
    simpa using run_neq_slice_nil_any (P := Tryz.prog) w' 110 5 (some ⟨g, 0, none⟩) 2 c' 0 0 Tryz.underlying110
  have hneq0 : ∀ w', (binOp .neq 110 (.slice none 0 0) (.slice none 0 0)).run Tryz.prog w' = .ok (.bool false) w' := fun w' => by
    simpa using run_neq_slice_nil_any (P := Tryz.prog) w' 110 5 none 0 0 0 0 Tryz.underlying110
  have hd16 : decide ((16 : Int) ≤ (s.size : Int)) = true := by simp; omega
  go_enter Tryz.func225, Tryz.ntmps225
  go_wp2
  go_loopw [5, 6, 32] (fun n any i wr => ∃ k : Nat, k ≤ 2 ∧ i = .int .i64 k ∧ n = .int .i64 (s.size + cSum c1 c2 k) ∧ any = .bool (cB c1 c2 k) ∧ ∃ q, wr = W.drewN q) (fun _ _ i _ => 2 - (intOf i).toNat)
  case atStart => exact ⟨0, Nat.zero_le _, rfl, by simp [cSum], by simp [cB, cSum], 0, rfl⟩
  case round =>
    obtain ⟨k, hk, rfl, rfl, rfl, q, rfl⟩ := hrel
    have hk3 : k = 0 ∨ k = 1 ∨ k = 2 := by omega
    rcases hk3 with rfl | rfl | rfl
    · have t10 : W.cell? ⟨t, 10, none⟩ = some (.slice (some ⟨g10, 0, none⟩) 2 c10) := tab_at HT.out 10
      have hi0 : ∀ h : 0 < (⟨#[10]⟩ : ByteArray).size, ((⟨#[10]⟩ : ByteArray)[0]'h) = 10 := fun _ => rfl
      rw [show cSum c1 c2 0 = 0 from rfl, show cB c1 c2 0 = false from rfl, show ((0 : Nat) : Int) = 0 from rfl, Int.add_zero]
      go_wp2_with fail
      refine (count_one s 10 _).mono ?_
      rintro e w' ⟨rfl, rfl⟩
      rw [← HC1.out]
      rcases Nat.eq_zero_or_pos c1 with h0 | h0
      · have H0 := Lib.hid h0
        have hz : ((c1 : Int) != 0) = false := by simp [h0]
        clear h0
        go_wp2
        go_roundw
        case rel => exact ⟨1, by omega, rfl, by simp [cSum, H0.out], by simp [cB, cSum, H0.out], q, rfl⟩
        case measure => simp [intOf]
      · have hz : ((c1 : Int) != 0) = true := by simp; omega
        go_wp2
        go_quiet (fail)
        go_wp2
        go_roundw
        case rel => exact ⟨1, by omega, rfl, by simp [cSum], by simp [cB, cSum, h0], _, rfl⟩
        case measure => simp [intOf]
    · have t92 : W.cell? ⟨t, 92, none⟩ = some (.slice (some ⟨g92, 0, none⟩) 2 c92) := tab_at HT.out 92
      have hi0 : ∀ h : 0 < (⟨#[92]⟩ : ByteArray).size, ((⟨#[92]⟩ : ByteArray)[0]'h) = 92 := fun _ => rfl
      rw [show cSum c1 c2 1 = c1 from rfl, show cB c1 c2 1 = decide (0 < c1) from rfl, show ((1 : Nat) : Int) = 1 from rfl]
      go_wp2_with fail
      refine (count_one s 92 _).mono ?_
      rintro e w' ⟨rfl, rfl⟩
      rw [← HC2.out]
      rcases Nat.eq_zero_or_pos c2 with h0 | h0
      · have H0 := Lib.hid h0
        have hz : ((c2 : Int) != 0) = false := by simp [h0]
        clear h0
        go_wp2
        go_roundw
        case rel => exact ⟨2, by omega, rfl, by simp [cSum, H0.out], by simp [cB, cSum, H0.out], q, rfl⟩
        case measure => simp [intOf]
      · have hz : ((c2 : Int) != 0) = true := by simp; omega
        go_wp2
        go_quiet (fail)
        go_wp2
        go_roundw
        case rel => exact ⟨2, by omega, rfl, by simp [cSum]; omega, by simp [cB, cSum]; omega, _, rfl⟩
        case measure => simp [intOf]
    · have hn1 : spN s s.size ≤ s.size := spN_le s s.size
      rw [show cSum c1 c2 2 = spN s s.size from HCS.out, show cB c1 c2 2 = spB s s.size by unfold cB spB; rw [← HCS.out]; rfl, show ((2 : Nat) : Int) = 2 from rfl]
      clear hk
      cases hany : spB s s.size
      · go_wp2
        go_ret
        exact ⟨by rw [esc_none hany]; rfl, Go.Sup.below_drewN (Below.refl _ _) _⟩
      · obtain ⟨N, hN⟩ : ∃ N : Nat, N = s.size + spN s s.size := ⟨_, rfl⟩
        have hNs : N ≤ 2000000 := by omega
        obtain ⟨ii, hi, hz, z2, z3⟩ := info_parts info_u8
        obtain ⟨w1, hmk, hown, hgr⟩ : ∃ w1, (Instr.makeSlice 110 (.int .i64 (N : Int)) (.int .i64 (N : Int))).run Tryz.prog (W.drewN q) = .ok (.slice (some ⟨W.heap.size, 0, none⟩) N N) w1 ∧ w1.ownsRow W.heap.size 5 1 (.slice (some ⟨W.heap.size, 0, none⟩) N N) N (madeCells (Value.int .u8 0).cells (N * 1)).toList ∧ (W.drewN q).grownBy w1 none :=
          run_make_full (P := Tryz.prog) (W.drewN q) W.heap.size 110 5 ii (.int .u8 0) 1 Tryz.underlying110 hi hz z2 .i64 .i64 N (by rw [z3]; omega) (by unfold maxLen; omega) (Nat.le_refl _)
        rw [show (s.size : Int) + (spN s s.size : Int) = (N : Int) by rw [hN]; simp]
        obtain ⟨g, hg⟩ : ∃ g, g = W.heap.size := ⟨_, rfl⟩
        have Hg := Lib.hid hg
        have hbuf : w1.heap[g]? = some (.cells (bufAt s N 0).toArray 5 (0, 0)) := by
          rcases hown.2 with ⟨h0, _⟩ | ⟨g', cap, cur, he, _, hb, _, _, hsz, htk⟩
          · cases h0
          · injection he with e1 e2 e3
            injection e1 with e1
            injection e1 with e1
            subst e1; subst e3
            rw [hg, hb]
            have : cur.toList = bufAt s N 0 := by
              rw [bufAt_zero, ← toList_madeCells_one (.int .u8 0) N]
              rw [List.take_of_length_le (by rw [Array.length_toList, hsz]; exact Nat.le_refl _)] at htk
              rw [htk, Nat.mul_one]; rfl
            rw [← this]
        have Hown := Lib.hid hown
        have hb1 : Below W.heap.size W w1 := (Go.Sup.below_drewN (Below.refl _ _) q).grown hgr (Nat.le_refl _) (by simp)
        have H1 := Lib.hid (And.intro hbuf hb1)
        have HN := Lib.hid (And.intro hN hany)
        rw [← hg] at hmk
        clear hi hz z2 z3 hown hgr hN hany hg hbuf hb1
        go_wp2
        go_loopw [13, 14] (fun j i wr => ∃ k : Nat, k ≤ s.size ∧ i = .int .i64 k ∧ j = .int .i64 (eLen s k) ∧ Hid (wr.heap[g]? = some (.cells (bufAt s N k).toArray 5 (0, 0)) ∧ Below W.heap.size W wr)) (fun _ i _ => s.size - (intOf i).toNat)
        case atStart => exact ⟨0, Nat.zero_le _, rfl, rfl, H1.out⟩
        case round =>
          obtain ⟨k, hk, rfl, rfl, HR⟩ := hrel
          have hE := eLen_eq s k hk
          have hM := spN_mono s k s.size hk
          have hEN : eLen s k ≤ N := by have := HN.out.1; omega
          have HE := Lib.hid hE
          clear hE
          by_cases hltk : k < s.size
          · have HT2 := Lib.hid ((HT.out.below HR.out.2))
            have hu := UInt8.toNat_lt s[k]
            have hb := tab_at HT2.out s[k]
            have hE1 : eLen s (k + 1) ≤ N := by have := HN.out.1; have := eLen_eq s (k + 1) hltk; have := spN_mono s (k + 1) s.size hltk; omega
            rcases hsp : special s[k]
            · have htab : tabAt 2 g10 c10 g92 c92 s[k].toNat = .slice none 0 0 := by
                rcases tab_special (g10 := g10) (c10 := c10) (g92 := g92) (c92 := c92) s[k] with ⟨h, _⟩ | ⟨_, h⟩
                · rw [hsp] at h; cases h
                · exact h
              rw [htab] at hb
              have hlt1 : eLen s k < N := by have := eLen_eq s (k + 1) hltk; have := HE.out; have := spN_mono s k (k + 1) (by omega); omega
              have Hset := Lib.hid (bufAt_set s N k hltk hE1 hsp)
              have Hx := Lib.hid (And.intro hsp htab)
              obtain ⟨v0, hcg⟩ : ∃ v0, wr.cell? ⟨g, eLen s k, none⟩ = some v0 := by
                simp only [World.cell?, HR.out.1]
                exact ⟨_, Array.getElem?_eq_getElem (by simp [bufAt_len s N k hEN]; exact hlt1)⟩
              have hfg : wr.frozen? ⟨g, eLen s k, none⟩ = false := by simp [World.frozen?, HR.out.1]
              have HE1 : Hid (eLen s (k + 1) = eLen s k + 1) := by
                have h1 := eLen_eq s (k + 1) hltk
                have h2 := spN_no hltk hsp
                have h3 := HE.out
                show eLen s (k + 1) = eLen s k + 1
                omega
              have hgW : W.heap.size ≤ g := by have := Hg.out; omega
              clear hsp htab
              go_wp2
              go_roundw
              case rel =>
                refine ⟨k + 1, hltk, by go_num, by rw [HE1.out]; go_num, ?_⟩
                refine ⟨?_, HR.out.2.setCell hgW _⟩
                rw [heap_set_at HR.out.1, ← Hset.out]
                simp
              case measure => simp [intOf]; omega
            · obtain ⟨gs, cs, htab, hl2, hsrc⟩ := tab_src HT2.out s[k] hsp
              rw [htab] at hb
              have HE1 : Hid (eLen s (k + 1) = eLen s k + 2) := by
                have h1 := eLen_eq s (k + 1) hltk
                have h2 := spN_yes hltk hsp
                have h3 := HE.out
                show eLen s (k + 1) = eLen s k + 2
                omega
              have hlt2 : eLen s k + 2 ≤ N := by have := HE1.out; omega
              have hgW : W.heap.size ≤ g := by have := Hg.out; omega
              have hfit : eLen s k + (bI (escB s[k])).length ≤ (bufAt s N k).length := by rw [bI_len, hl2, bufAt_len s N k hEN]; exact hlt2
              have hone : ∀ v ∈ bI (escB s[k]), v.oneCell' = true := by
                intro v hv
                simp only [bI, List.mem_map] at hv
                obtain ⟨x, _, rfl⟩ := hv
                rfl
              have hlen : (bI (escB s[k])).length = Nat.min 2 (N - eLen s k) := by rw [bI_len, hl2]; show 2 = min 2 (N - eLen s k); omega
              have hcop : ∀ j v, (bI (escB s[k]))[j]? = some v → wr.drew.cell? ((⟨gs, 0, none⟩ : Addr).add j) = some v := fun j v hv => by
                rw [add_at, Nat.zero_add]; exact hsrc j v hv
              have Hc := Lib.hid (And.intro hfit (And.intro hone (And.intro hlen hcop)))
              have Hset := Lib.hid (bufAt_splice s N k hltk hE1)
              have huI : (s[k].toNat : Int) < 256 := by omega
              have hsI : (eLen s k : Int) ≤ N := by omega
              have hs2 : ¬ N = eLen s k := by omega
              have hlb : (bI (escB s[k])).length = 2 := by rw [bI_len, hl2]
              have Hl := Lib.hid hlb
              have Hbd : Hid (Below W.heap.size W wr.drew) := Go.Sup.below_drewN HR.out.2 1
              clear hsp htab hl2 hsrc hfit hone hlen hcop hlb
              go_wp2
              go_region_law (refine step_copy_splice rfl (.tmp 105) (.tmp 111) 110 110 rfl 5 Tryz.underlying110 (by kernel_rfl) _ _ _ _ _ _ rfl rfl g (eLen s k) (bufAt s N k) 5 HR.out.1 (bI (escB s[k])) Hc.out.2.2.1 (fun _ => ⟨rfl, ⟨gs, 0, none⟩, rfl, Hc.out.2.2.2⟩) Hc.out.1 Hc.out.2.1 W.heap.size W Hbd.out hgW ?_; rw [Hl.out]; intro w2 hw2 hb2; have H2 := Lib.hid (And.intro hw2.out hb2); clear hw2 hb2)
              all_goals
                go_wp2
                go_roundw
                case rel =>
                  refine ⟨k + 1, hltk, by go_num, by rw [HE1.out]; go_num, ?_⟩
                  refine ⟨?_, H2.out.2⟩
                  rw [H2.out.1, Hset.out]
                case measure => simp [intOf]; omega
          · obtain rfl : k = s.size := by omega
            clear hltk hk
            have hl : (esc s).data.toList.length = N := by
              have h1 := HN.out.1
              have h2 := HE.out
              unfold eLen at h2
              rw [List.take_of_length_le (by rw [Array.length_toList]; exact Nat.le_refl _)] at h2
              show (escL s.data.toList).length = N
              omega
            have hb := bufAt_all s N (by have h1 := HN.out.1; have h2 := HE.out; omega)
            have hcv := run_convert_bytes_back (P := Tryz.prog) wr 110 9 5 ⟨g, 0, none⟩ N (esc s).data.toList Tryz.underlying110 Tryz.underlying5 Tryz.underlying9 (fun j hj => by
              have h1 := HR.out.1
              rw [hb] at h1
              rw [add_at, Nat.zero_add]
              simp only [World.cell?, h1]
              simp only [bI, List.getElem?_toArray, List.getElem?_map, List.getElem?_eq_getElem hj]
              simp)
            rw [hl] at hcv
            have Hb2 := Lib.hid HR.out.2
            clear hb hl
            go_wp2
            go_ret
            exact ⟨rfl, Hb2.out⟩
theorem bsr_any (W : World) (B t g10 c10 g92 c92 : Nat) (tv : Value) (Z : Array Value) (T : TabAt B t W g10 c10 g92 c92 tv Z) (s : ByteArray) (hmax : s.size ≤ 1000000) :
    Calls Tryz.prog 225 #[.pointer (some ⟨t, 0, none⟩), .string s] W fun e w' => e = .returned (.string (esc s)) ∧ Below W.heap.size W w' := by
  rcases Nat.lt_or_ge s.size 16 with h | h
  · exact bsr_lt W B t g10 c10 g92 c92 tv Z T s h
  · exact bsr_ge W B t g10 c10 g92 c92 tv Z T s h hmax
end Go.Proofs.YtlffpelkmdcckaaGreatDoor
