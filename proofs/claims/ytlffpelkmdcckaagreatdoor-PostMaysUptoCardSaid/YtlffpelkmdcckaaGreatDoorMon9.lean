/- Money: may it be; the program's and the referee's. -/
import Derived.Test.YtlffpelkmdcckaaGreatDoorRefText
namespace Go.Sup
open Go Go.RowKit
def capCh (b : UInt8) : Bool := decide (65 ≤ b) && decide (b ≤ 90)
def oddC (r : Nat) : Bool := decide (r < 65) || decide (90 < r)
/-- Is a text a currency's name? -/
def curOk (l : List UInt8) : Bool := decide (l.length = 3) && l.all capCh
/-- Is an amount no farther from 0 than it may be? -/
def amtOk (n : Int) : Bool := decide (-1099511627776 ≤ n) && decide (n ≤ 1099511627776)
def monOk (c : ByteArray) (n : Int) : Bool := curOk c.data.toList && amtOk n
theorem oddC_high (r : Nat) (h : 128 ≤ r) : oddC r = true := by unfold oddC; simp; omega
theorem oddC_cap (b : UInt8) : oddC b.toNat = !(capCh b) := by
  unfold oddC capCh
  have h1 : (65 ≤ b) = (65 ≤ b.toNat) := rfl
  have h2 : (b ≤ 90) = (b.toNat ≤ 90) := rfl
  rw [Bool.eq_iff_iff]
  simp only [h1, h2, Bool.or_eq_true, Bool.not_eq_true', Bool.and_eq_false_iff, decide_eq_true_eq, decide_eq_false_iff_not]
  omega
theorem capCh_odd (b : UInt8) : capCh b = !(oddC b.toNat) := by rw [oddC_cap]; simp
theorem any_oddC (s : ByteArray) : decide (0 ≤ Lib.idxFunc oddC true s) = !(s.data.toList.all capCh) := by
  rw [contains_bytes oddC oddC_high s, List.not_all_eq_any_not]
  congr 1
  funext b
  exact oddC_cap b
theorem cap_take_succ {l : List UInt8} {k : Nat} (h : k < l.length) : (l.take (k + 1)).all capCh = ((l.take k).all capCh && capCh l[k]) := by
  rw [List.take_succ_eq_append_getElem h, List.all_append]; simp
theorem curOk_bad {l : List UInt8} {k : Nat} (h : k < l.length) (hb : capCh l[k] = false) : curOk l = false := by
  unfold curOk
  have : l.all capCh = false := by
    rw [List.all_eq_false]
    exact ⟨l[k], List.getElem_mem h, by rw [hb]; decide⟩
  rw [this]; simp
end Go.Sup
namespace Go.Proofs.YtlffpelkmdcckaaGreatDoor
open Go Go.RowKit Go.Sup
set_option maxRecDepth 100000
theorem oddC_at (w : World) : PredAt Tryz.prog 101 #[] encR oddC w := fun W r _ => by
  unfold FnGives
  have hc : r < 65 ∨ (65 ≤ r ∧ r ≤ 90) ∨ 90 < r := by omega
  rcases hc with h | ⟨h, h'⟩ | h
  · have H : Hid (oddC r = true) := by show oddC r = true; unfold oddC; simp; omega
    have a : (r : Int) < 65 := by omega
    clear h
    go_enter Tryz.func101, Tryz.ntmps101
    go_wp2
    go_ret
    exact ⟨by rw [H.out]; rfl, 0, rfl⟩
  · have H : Hid (oddC r = false) := by show oddC r = false; unfold oddC; simp; omega
    have a : ¬ (r : Int) < 65 := by omega
    have a2 : ¬ (90 : Int) < (r : Int) := by omega
    clear h
    go_enter Tryz.func101, Tryz.ntmps101
    go_wp2
    go_ret
    exact ⟨by rw [H.out]; rfl, 0, rfl⟩
  · have H : Hid (oddC r = true) := by show oddC r = true; unfold oddC; simp; omega
    have a : ¬ (r : Int) < 65 := by omega
    have a2 : (90 : Int) < (r : Int) := by omega
    clear h
    go_enter Tryz.func101, Tryz.ntmps101
    go_wp2
    go_ret
    exact ⟨by rw [H.out]; rfl, 0, rfl⟩
theorem oddC_calls (s : ByteArray) (w : World) : Calls Tryz.prog 65 #[.string s, .func (.func 101) #[] #[]] w fun e w' => e = .returned (.bool (!(s.data.toList.all capCh))) ∧ Below w.heap.size w w' := by
  rw [← any_oddC]
  exact Tryz.strings_ContainsFunc 101 #[] (enters_of Tryz.func101 (by kernel_rfl) rfl) oddC s w (oddC_at w)
set_option maxHeartbeats 800000 in
theorem currency_any (s : ByteArray) (w : World) : Calls Tryz.prog 66 #[.string s] w fun e w' => e = .returned (.bool (curOk s.data.toList)) ∧ Below w.heap.size w w' := by
  have hl : s.data.toList.length = s.size := Array.length_toList
  by_cases h3 : s.size = 3
  · have H : Hid (curOk s.data.toList = s.data.toList.all capCh) := by
      show curOk _ = _
      unfold curOk; rw [hl]; simp [h3]
    have h3' : ((s.size : Int) == 3) = true := by simp [h3]
    have HC := Lib.hid (fun W => oddC_calls s W)
    clear hl h3
    go_enter Tryz.func66, Tryz.ntmps66
    go_wp2_with fail
    refine (HC.out _).mono ?_
    rintro e w1 ⟨rfl, hb⟩
    have HB := Lib.hid hb
    clear hb
    go_wp2
    go_ret
    exact ⟨by rw [H.out]; simp, HB.out⟩
  · have H : Hid (curOk s.data.toList = false) := by
      show curOk _ = _
      unfold curOk; rw [hl]; simp [h3]
    have h3' : ((s.size : Int) == 3) = false := by simp; omega
    clear hl h3
    go_enter Tryz.func66, Tryz.ntmps66
    go_wp2
    go_ret
    exact ⟨by rw [H.out]; rfl, Below.refl _ _⟩
set_option maxHeartbeats 400000 in
theorem mwithin_any (n : Int) (w : World) : Calls Tryz.prog 67 #[.int .i64 n] w fun e w' => e = .returned (.bool (amtOk n)) ∧ w' = w := by
  have HA : Hid (amtOk n = (decide (-1099511627776 ≤ n) && decide (n ≤ 1099511627776))) := rfl
  by_cases h1 : -1099511627776 ≤ n
  · by_cases h2 : n ≤ 1099511627776
    · go_enter Tryz.func67, Tryz.ntmps67
      go_wp2
      go_ret
      exact ⟨by rw [HA.out]; simp [h1, h2], rfl⟩
    · go_enter Tryz.func67, Tryz.ntmps67
      go_wp2
      go_ret
      exact ⟨by rw [HA.out]; simp [h1]; omega, rfl⟩
  · go_enter Tryz.func67, Tryz.ntmps67
    go_wp2
    go_ret
    exact ⟨by rw [HA.out]; simp; omega, rfl⟩
set_option maxHeartbeats 800000 in
theorem mmay_any (c : ByteArray) (n : Int) (w : World) : Calls Tryz.prog 38 #[.agg #[.string c, .int .i64 n]] w fun e w' => e = .returned (.bool (monOk c n)) ∧ Below w.heap.size w w' := by
  have HM : Hid (monOk c n = (curOk c.data.toList && amtOk n)) := rfl
  have HC := Lib.hid (fun W => currency_any c W)
  have HN := Lib.hid (fun W => mwithin_any n W)
  obtain ⟨b, hb⟩ : ∃ b, b = curOk c.data.toList := ⟨_, rfl⟩
  obtain ⟨d, hd⟩ : ∃ d, d = amtOk n := ⟨_, rfl⟩
  rw [← hb] at HM HC
  rw [← hd] at HM HN
  clear hb hd
  cases b
  · go_enter Tryz.func38, Tryz.ntmps38
    go_wp2_with fail
    refine (HC.out _).mono ?_
    rintro e w1 ⟨rfl, hb1⟩
    have HB : Hid (Below w.heap.size w w1) := ((Below.refl _ _).alloc (Nat.le_refl _) _).trans (hb1.mono (by simp))
    clear hb1
    go_wp2
    go_ret
    exact ⟨by rw [HM.out]; rfl, HB.out⟩
  · go_enter Tryz.func38, Tryz.ntmps38
    go_wp2_with fail
    refine (HC.out _).mono ?_
    rintro e w1 ⟨rfl, hb1⟩
    have HB : Hid (Below w.heap.size w w1) := ((Below.refl _ _).alloc (Nat.le_refl _) _).trans (hb1.mono (by simp))
    have k1 : w1.cell? ⟨w.heap.size, 1, none⟩ = some (.int .i64 n) := ((bcell hb1).1 w.heap.size 1 (by simp)).trans (by go_simp)
    clear hb1
    go_wp2_with fail
    refine (HN.out _).mono ?_
    rintro e w2 ⟨rfl, rfl⟩
    go_wp2
    go_ret
    exact ⟨by rw [HM.out]; simp, HB.out⟩
set_option maxHeartbeats 2000000 in
theorem refCur_any (s : ByteArray) (w : World) : Calls Tryz.prog 71 #[.string s] w fun e w' => e = .returned (.bool (curOk s.data.toList)) ∧ w' = w := by
  have HL : Hid (s.data.toList.length = s.size) := Array.length_toList
  by_cases h3 : s.size = 3
  · have h3' : ((s.size : Int) != 3) = false := by simp [h3]
    have H3 := Lib.hid h3
    clear h3
    go_enter Tryz.func71, Tryz.ntmps71
    go_wp2
    go_loop [3] (fun i => ∃ k : Nat, k ≤ 3 ∧ i = .int .i64 k ∧ Hid ((s.data.toList.take k).all capCh = true)) (fun i => 3 - (intOf i).toNat)
    case atStart => exact ⟨0, Nat.zero_le _, rfl, rfl⟩
    case round =>
      obtain ⟨k, hk, rfl, HA⟩ := hrel
      by_cases hlt : k < 3
      · have hlt2 : k < s.size := by rw [H3.out]; exact hlt
        have hlt' : (k : Int) < 3 := by omega
        have hlt3 : (k : Int) < (s.size : Int) := by omega
        have HB : Hid (capCh s[k] = !(oddC s[k].toNat)) := capCh_odd _
        have HG : Hid ((s.data.toList.take (k + 1)).all capCh = capCh s[k]) := by
          have := cap_take_succ (l := s.data.toList) (k := k) (by rw [HL.out]; exact hlt2)
          rw [HA.out] at this
          exact this
        have HX : Hid (capCh s[k] = false → curOk s.data.toList = false) := fun h => curOk_bad (by rw [HL.out]; exact hlt2) h
        have hc : s[k].toNat < 65 ∨ (65 ≤ s[k].toNat ∧ s[k].toNat ≤ 90) ∨ 90 < s[k].toNat := by omega
        rcases hc with h | ⟨h, h'⟩ | h
        · have H : Hid (capCh s[k] = false) := by show capCh s[k] = false; rw [HB.out]; unfold oddC; simp; omega
          have a : (s[k].toNat : Int) < 65 := by omega
          clear h
          go_wp2
          go_ret
          exact ⟨by rw [HX.out H.out]; rfl, rfl⟩
        · have H : Hid (capCh s[k] = true) := by show capCh s[k] = true; rw [HB.out]; unfold oddC; simp; omega
          have a : ¬ (s[k].toNat : Int) < 65 := by omega
          have a2 : ¬ (90 : Int) < (s[k].toNat : Int) := by omega
          clear h
          go_wp2
          go_round
          case rel => exact ⟨k + 1, hlt, by go_num, HG.out.trans H.out⟩
          case measure => simp [intOf]; omega
        · have H : Hid (capCh s[k] = false) := by show capCh s[k] = false; rw [HB.out]; unfold oddC; simp; omega
          have a : ¬ (s[k].toNat : Int) < 65 := by omega
          have a2 : (90 : Int) < (s[k].toNat : Int) := by omega
          clear h
          go_wp2
          go_ret
          exact ⟨by rw [HX.out H.out]; rfl, rfl⟩
      · obtain rfl : k = 3 := by omega
        have HN : Hid (curOk s.data.toList = true) := by
          show curOk _ = _
          have := HA.out
          have e3 : s.data.toList.length = 3 := by rw [HL.out, H3.out]
          rw [← e3, List.take_length] at this
          unfold curOk
          rw [this, e3]; rfl
        clear hlt hk
        go_wp2
        go_ret
        exact ⟨by rw [HN.out]; rfl, rfl⟩
  · have h3' : ((s.size : Int) != 3) = true := by simp; omega
    have H : Hid (curOk s.data.toList = false) := by
      show curOk _ = _
      unfold curOk; rw [HL.out]; simp [h3]
    clear h3
    go_enter Tryz.func71, Tryz.ntmps71
    go_wp2
    go_ret
    exact ⟨by rw [H.out]; rfl, rfl⟩
set_option maxHeartbeats 800000 in
theorem refMMay_any (c : ByteArray) (n : Int) (w : World) : Calls Tryz.prog 48 #[.agg #[.string c, .int .i64 n]] w fun e w' => e = .returned (.bool (monOk c n)) ∧ Below w.heap.size w w' := by
  have HM : Hid (monOk c n = (curOk c.data.toList && (decide (-1099511627776 ≤ n) && decide (n ≤ 1099511627776)))) := rfl
  have HC := Lib.hid (fun W => refCur_any c W)
  obtain ⟨b, hb⟩ : ∃ b, b = curOk c.data.toList := ⟨_, rfl⟩
  rw [← hb] at HM HC
  clear hb
  cases b
  · go_enter Tryz.func48, Tryz.ntmps48
    go_wp2_with fail
    refine (HC.out _).mono ?_
    rintro e w1 ⟨rfl, rfl⟩
    go_wp2
    go_ret
    exact ⟨by rw [HM.out]; rfl, (Below.refl _ _).alloc (Nat.le_refl _) _⟩
  · by_cases h1 : -1099511627776 ≤ n
    · by_cases h2 : n ≤ 1099511627776
      · go_enter Tryz.func48, Tryz.ntmps48
        go_wp2_with fail
        refine (HC.out _).mono ?_
        rintro e w1 ⟨rfl, rfl⟩
        go_wp2
        go_ret
        exact ⟨by rw [HM.out]; simp [h1, h2], (Below.refl _ _).alloc (Nat.le_refl _) _⟩
      · go_enter Tryz.func48, Tryz.ntmps48
        go_wp2_with fail
        refine (HC.out _).mono ?_
        rintro e w1 ⟨rfl, rfl⟩
        go_wp2
        go_ret
        exact ⟨by rw [HM.out]; simp [h1], (Below.refl _ _).alloc (Nat.le_refl _) _⟩
    · go_enter Tryz.func48, Tryz.ntmps48
      go_wp2_with fail
      refine (HC.out _).mono ?_
      rintro e w1 ⟨rfl, rfl⟩
      go_wp2
      go_ret
      exact ⟨by rw [HM.out]; simp; omega, (Below.refl _ _).alloc (Nat.le_refl _) _⟩
end Go.Proofs.YtlffpelkmdcckaaGreatDoor
