/- The referee's Digits: the walk, by induction. -/
import Derived.Test.YtlffpelkmdcckaaGreatDoorNumP
import Derived.Test.YtlffpelkmdcckaaGreatDoorRows
import Derived.Laws.BytesString
import Derived.Laws.Build
import Derived.Lib.ItoaLen
import Derived.Deep.RegionHeldLaw
import Derived.Deep.DeepMust
namespace Go.Proofs.YtlffpelkmdcckaaGreatDoor
open Go Go.RowKit Go.Sup Go.Lib
set_option maxRecDepth 100000
def digS (n : Int) : ByteArray := ⟨(itoa n).toArray⟩
def oneB (x : Int) : ByteArray := ⟨#[UInt8.ofNat x.toNat]⟩
theorem conv1 (W : World) (b : Nat) (c : Nat) (x : Int) (h : W.cell? ⟨b, 0, none⟩ = some (.int .u8 x)) :
    (convert 110 9 (.slice (some ⟨b, 0, none⟩) 1 c)).run Tryz.prog W = .ok (.string (oneB x)) W := by
  rw [run_convert_bytes_string W _ _ 5 _ _ _ Tryz.underlying110 Tryz.underlying5 Tryz.underlying9, run_bytesToString W ⟨b, 0, none⟩ 1 c [x]]
  · rfl
  · rw [show 1 = [Value.int .u8 x].length from rfl, run_loadCells_list W ⟨b, 0, none⟩ [.int .u8 x] (by
      intro j v hj
      match j, hj with
      | 0, hj => simp at hj; subst hj; exact h)]
    rfl
theorem tmod_neg10 {n : Int} (h : n ≤ 0) : n.tmod 10 = -((n.natAbs % 10 : Nat) : Int) := by
  have e : n = -(n.natAbs : Int) := by omega
  rw [e, Int.neg_tmod, Int.natAbs_neg, Int.natAbs_natCast]; rfl
theorem tmod_pos10 {n : Int} (h : 0 ≤ n) : n.tmod 10 = ((n.natAbs % 10 : Nat) : Int) := by
  have e : n = (n.natAbs : Int) := by omega
  rw [e, Int.natAbs_natCast]; rfl
theorem digS_len (n : Int) (h0 : -9223372036854775808 ≤ n) (h1 : n ≤ 9223372036854775807) : (digS n).size ≤ 21 := by
  have : (digS n).size = (itoa n).length := by simp [digS, ByteArray.size]
  rw [this]; exact itoa_length_le n h0 h1
theorem digS_small {n : Int} (h : n < 0) (h1 : -10 < n) : digS n = ⟨#[45]⟩ ++ oneB (48 - n) := by
  unfold digS oneB
  rw [itoa_small h h1, show (48 - n).toNat = 48 + n.natAbs by omega]
  rfl
theorem digS_digit {n : Int} (h : 0 ≤ n) (h1 : n < 10) : digS n = oneB (48 + n) := by
  unfold digS oneB
  rw [itoa_digit h h1, show (48 + n).toNat = 48 + n.natAbs by omega]
theorem digS_neg {n : Int} (h : n ≤ -10) : digS n = digS (n.tdiv 10) ++ oneB (48 - n.tmod 10) := by
  have e : (48 - n.tmod 10).toNat = 48 + n.natAbs % 10 := by rw [tmod_neg10 (by omega)]; omega
  unfold digS oneB
  rw [itoa_grow (Or.inl h), e]
  apply ByteArray.ext
  simp
theorem digS_pos {n : Int} (h : 10 ≤ n) : digS n = digS (n.tdiv 10) ++ oneB (48 + n.tmod 10) := by
  have e : (48 + n.tmod 10).toNat = 48 + n.natAbs % 10 := by rw [tmod_pos10 (by omega)]; omega
  unfold digS oneB
  rw [itoa_grow (Or.inr h), e]
  apply ByteArray.ext
  simp
set_option maxHeartbeats 1000000 in
theorem digits_any (k : Nat) : ∀ (n : Int) (w : World), n.natAbs ≤ k → -9223372036854775808 ≤ n → n ≤ 9223372036854775807 →
    Calls Tryz.prog 77 #[.int .i64 n] w fun e w' => e = .returned (.string (digS n)) ∧ Below w.heap.size w w' := by
  induction k with
  | zero =>
    intro n w hk _ _
    have hn : n = 0 := by omega
    subst hn
    have hc := conv1 (w.alloc (.cells #[.int .u8 48] 5)) w.heap.size 1 48 (by go_simp)
    go_enter Tryz.func77, Tryz.ntmps77
    go_wp2_with fail
    go_ret
    exact ⟨by rw [digS_digit (by omega) (by omega)]; rfl, (Below.refl _ _).alloc (Nat.le_refl _) _⟩
  | succ k ih =>
    intro n w hk h0 h1
    by_cases hn : n < 0
    · by_cases hs : -10 < n
      · have e1 : IntKind.i64.wrap (48 - n) = 48 - n := by rw [IntKind.wrap_i64]; omega
        have e2 : IntKind.u8.wrap (48 - n) = 48 - n := by rw [IntKind.wrap_u8]; omega
        have hc := conv1 (w.alloc (.cells #[.int .u8 (48 - n)] 5)) w.heap.size 1 (48 - n) (by go_simp)
        have hd := Lib.hid (digS_small hn hs)
        have hl : ¬ 9223372036854775807 < (⟨#[45]⟩ : ByteArray).size + (oneB (48 - n)).size := by show ¬ 9223372036854775807 < 1 + 1; decide
        go_enter Tryz.func77, Tryz.ntmps77
        go_wp2_with fail
        go_ret
        exact ⟨by rw [hd.out]; rfl, (Below.refl _ _).alloc (Nat.le_refl _) _⟩
      · have hm := tmod_neg10 (n := n) (by omega)
        obtain ⟨m, hme⟩ : ∃ m, m = n.tmod 10 := ⟨_, rfl⟩
        obtain ⟨q, hqe⟩ : ∃ q, q = n.tdiv 10 := ⟨_, rfl⟩
        have hq : q.natAbs ≤ k ∧ -9223372036854775808 ≤ q ∧ q ≤ 9223372036854775807 := by
          have e : n = -(n.natAbs : Int) := by omega
          have : q = -((n.natAbs / 10 : Nat) : Int) := by
            rw [hqe]
            conv => lhs; rw [e, Int.neg_tdiv]
            rfl
          omega
        have hd := Lib.hid (digS_neg (n := n) (by omega))
        rw [← hme, ← hqe] at hd
        rw [← hme] at hm
        have e0 : IntKind.i64.wrap (n.tdiv 10) = q := by rw [← hqe, IntKind.wrap_i64]; omega
        have e3 : n.tmod 10 = m := hme.symm
        have e4 : n.tdiv 10 = q := hqe.symm
        have e5 : IntKind.i64.wrap q = q := by rw [IntKind.wrap_i64]; omega
        have e6 : IntKind.i64.wrap m = m := by rw [IntKind.wrap_i64]; omega
        have e1 : IntKind.i64.wrap (48 - m) = 48 - m := by rw [IntKind.wrap_i64]; omega
        have e2 : IntKind.u8.wrap (48 - m) = 48 - m := by rw [IntKind.wrap_u8]; omega
        have hl : ¬ 9223372036854775807 < (digS q).size + (oneB (48 - m)).size := by
          have := digS_len q hq.2.1 hq.2.2
          have : (oneB (48 - m)).size = 1 := rfl
          omega
        have IH := Lib.hid (fun W => ih q W hq.1 hq.2.1 hq.2.2)
        have CV := fun W b c h => conv1 W b c (48 - m) h
        clear ih hme hqe hq hm
        go_enter Tryz.func77, Tryz.ntmps77
        go_wp2_with fail
        go_region_held_law (fun _ => True) (trivial) (first | (go_at_call 77; refine (IH.out _).mono ?_; rintro e w1 ⟨rfl, hb1⟩; try have z0 := ((bcell hb1).1 w.heap.size 0 (by show _ < (w.alloc _).heap.size; simp)).trans (show _ = some (Value.int .u8 (48 - m)) by go_simp)))
        all_goals
          go_wp2_with fail
          go_ret
          refine ⟨by rw [hd.out]; rfl, ?_⟩
          first
            | exact ((Go.Sup.below_drewN (Below.refl w.heap.size w) 1).trans hb1).alloc (Nat.le_trans (Nat.le_refl _) hb1.size) _
            | exact (Go.Sup.below_drewN ((Below.refl w.heap.size w).alloc (Nat.le_refl _) _) 1).trans (hb1.mono (show w.heap.size ≤ (w.alloc _).heap.size by simp))
    · by_cases hs : n < 10
      · have e1 : IntKind.i64.wrap (48 + n) = 48 + n := by rw [IntKind.wrap_i64]; omega
        have e2 : IntKind.u8.wrap (48 + n) = 48 + n := by rw [IntKind.wrap_u8]; omega
        have hc := conv1 (w.alloc (.cells #[.int .u8 (48 + n)] 5)) w.heap.size 1 (48 + n) (by go_simp)
        have hd := Lib.hid (digS_digit (n := n) (by omega) hs)
        go_enter Tryz.func77, Tryz.ntmps77
        go_wp2_with fail
        go_ret
        exact ⟨by rw [hd.out]; rfl, (Below.refl _ _).alloc (Nat.le_refl _) _⟩
      · have hm := tmod_pos10 (n := n) (by omega)
        obtain ⟨m, hme⟩ : ∃ m, m = n.tmod 10 := ⟨_, rfl⟩
        obtain ⟨q, hqe⟩ : ∃ q, q = n.tdiv 10 := ⟨_, rfl⟩
        have hq : q.natAbs ≤ k ∧ -9223372036854775808 ≤ q ∧ q ≤ 9223372036854775807 := by
          have e : n = (n.natAbs : Int) := by omega
          have : q = ((n.natAbs / 10 : Nat) : Int) := by
            rw [hqe]
            conv => lhs; rw [e]
            rfl
          omega
        have hd := Lib.hid (digS_pos (n := n) (by omega))
        rw [← hme, ← hqe] at hd
        rw [← hme] at hm
        have e0 : IntKind.i64.wrap (n.tdiv 10) = q := by rw [← hqe, IntKind.wrap_i64]; omega
        have e3 : n.tmod 10 = m := hme.symm
        have e4 : n.tdiv 10 = q := hqe.symm
        have e5 : IntKind.i64.wrap q = q := by rw [IntKind.wrap_i64]; omega
        have e6 : IntKind.i64.wrap m = m := by rw [IntKind.wrap_i64]; omega
        have e1 : IntKind.i64.wrap (48 + m) = 48 + m := by rw [IntKind.wrap_i64]; omega
        have e2 : IntKind.u8.wrap (48 + m) = 48 + m := by rw [IntKind.wrap_u8]; omega
        have hl : ¬ 9223372036854775807 < (digS q).size + (oneB (48 + m)).size := by
          have := digS_len q hq.2.1 hq.2.2
          have : (oneB (48 + m)).size = 1 := rfl
          omega
        have IH := Lib.hid (fun W => ih q W hq.1 hq.2.1 hq.2.2)
        have CV := fun W b c h => conv1 W b c (48 + m) h
        clear ih hme hqe hq hm
        go_enter Tryz.func77, Tryz.ntmps77
        go_wp2_with fail
        go_region_held_law (fun _ => True) (trivial) (first | (go_at_call 77; refine (IH.out _).mono ?_; rintro e w1 ⟨rfl, hb1⟩; try have z0 := ((bcell hb1).1 w.heap.size 0 (by show _ < (w.alloc _).heap.size; simp)).trans (show _ = some (Value.int .u8 (48 + m)) by go_simp)))
        all_goals
          go_wp2_with fail
          go_ret
          refine ⟨by rw [hd.out]; rfl, ?_⟩
          first
            | exact ((Go.Sup.below_drewN (Below.refl w.heap.size w) 1).trans hb1).alloc (Nat.le_trans (Nat.le_refl _) hb1.size) _
            | exact (Go.Sup.below_drewN ((Below.refl w.heap.size w).alloc (Nat.le_refl _) _) 1).trans (hb1.mono (show w.heap.size ≤ (w.alloc _).heap.size by simp))
end Go.Proofs.YtlffpelkmdcckaaGreatDoor
