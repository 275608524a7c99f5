/- slices.Equal at strings. -/
import Derived.Test.YtlffpelkmdcckaaGreatDoorSmall9
namespace Go.Proofs.YtlffpelkmdcckaaGreatDoor
open Go Go.RowKit Go.Sup
set_option maxRecDepth 100000
def strsEq (l m : List ByteArray) : Bool := decide (l = m)
theorem strsEq_len {l m : List ByteArray} (h : l.length ≠ m.length) : strsEq l m = false := by
  unfold strsEq; simp; intro e; exact h (by rw [e])
theorem strsEq_at {l m : List ByteArray} {k : Nat} (h1 : k < l.length) (h2 : k < m.length) (h : l[k] ≠ m[k]) : strsEq l m = false := by
  unfold strsEq; simp; intro e; subst e; exact h rfl
theorem strsEq_all {l m : List ByteArray} (hl : l.length = m.length) (h : l.take l.length = m.take l.length) : strsEq l m = true := by
  unfold strsEq
  rw [List.take_length, hl, List.take_length] at h
  simp [h]
set_option maxHeartbeats 1000000 in
theorem equalS_any (l m : List ByteArray) (w : World) (B : Nat) (v1 v2 : Value) (hv1 : SlC w B 1 (l.map srow) v1) (hv2 : SlC w B 1 (m.map srow) v2) :
    Calls Tryz.prog 34 #[v1, v2] w fun e w' => e = .returned (.bool (strsEq l m)) ∧ ∃ n, w' = w.drewN n := by
  obtain ⟨A1, c1, rfl, hn1, hc1, -⟩ := id hv1
  obtain ⟨A2, c2, rfl, hn2, hc2, -⟩ := id hv2
  rw [List.length_map] at hn1 hv1 hn2 hv2
  simp only [List.length_map]
  unfold maxLen at hc1 hc2
  have Hv1 := Lib.hid hv1
  have Hv2 := Lib.hid hv2
  clear hv1 hv2
  by_cases hl : l.length = m.length
  · have hl' : ((l.length : Int) != (m.length : Int)) = false := by simp [hl]
    have Hl := Lib.hid hl
    clear hl
    go_enter Tryz.func34, Tryz.ntmps34
    go_wp2
    go_loopw [5, 13] (fun _ i wr => ∃ k : Nat, k ≤ l.length ∧ i = .int .i64 k ∧ Hid (l.take k = m.take k) ∧ ∃ n, wr = w.drewN n) (fun _ i _ => l.length - (intOf i).toNat)
    case atStart => exact ⟨0, Nat.zero_le _, rfl, rfl, 0, rfl⟩
    case round =>
      obtain ⟨k, hk, rfl, HT, q, rfl⟩ := hrel
      by_cases hlt : k < l.length
      · have hlt2 : k < m.length := by have := Hl.out; omega
        obtain ⟨b1, o1, rfl, _, x0⟩ := str_at Hv1.out (List.getElem?_eq_getElem hlt)
        obtain ⟨b2, o2, rfl, _, y0⟩ := str_at Hv2.out (List.getElem?_eq_getElem hlt2)
        obtain ⟨s, hs⟩ : ∃ s, s = l[k] := ⟨_, rfl⟩
        obtain ⟨t, ht⟩ : ∃ t, t = m[k] := ⟨_, rfl⟩
        have hlI : (k : Int) < (l.length : Int) := by omega
        have hlI2 : (k : Int) < (m.length : Int) := by omega
        rcases Decidable.em (l[k] = m[k]) with he | he
        · have Hx := Lib.hid he
          rw [← he] at y0
          rw [← hs] at x0 y0
          clear he hs ht
          go_wp2
          go_quiet (fail)
          go_wp2
          go_roundw
          case rel =>
            refine ⟨k + 1, hlt, by go_num, ?_, _, rfl⟩
            show l.take (k + 1) = m.take (k + 1)
            rw [List.take_succ_eq_append_getElem hlt, List.take_succ_eq_append_getElem hlt2, HT.out, Hx.out]
          case measure => simp [intOf]; omega
        · have Hx := Lib.hid (strsEq_at hlt hlt2 he)
          rw [← hs] at x0
          rw [← ht] at y0
          have hne : ¬ s = t := by rw [hs, ht]; exact he
          have e1 := bs_ne hne
          have e2 := bs_ne' hne
          clear he hs ht hne
          go_wp2
          go_quiet (fail)
          go_wp2
          go_ret
          exact ⟨by rw [Hx.out]; rfl, _, World.drewN_drewN _ _ _⟩
      · obtain rfl : k = l.length := by omega
        have Hx := Lib.hid (strsEq_all Hl.out HT.out)
        clear hlt hk
        go_wp2
        go_ret
        exact ⟨by rw [Hx.out]; rfl, _, rfl⟩
  · have hl' : ((l.length : Int) != (m.length : Int)) = true := by simp; omega
    have Hx := Lib.hid (strsEq_len hl)
    clear hl
    go_enter Tryz.func34, Tryz.ntmps34
    go_wp2
    go_ret
    exact ⟨by rw [Hx.out]; rfl, 0, rfl⟩
end Go.Proofs.YtlffpelkmdcckaaGreatDoor
