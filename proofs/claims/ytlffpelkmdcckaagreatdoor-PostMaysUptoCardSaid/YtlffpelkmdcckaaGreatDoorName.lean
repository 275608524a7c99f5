/- field.name, field.may. -/
import Derived.Test.YtlffpelkmdcckaaGreatDoorFieldP
import Derived.Test.YtlffpelkmdcckaaGreatDoorShelf
import Derived.Laws.RangeString
import Derived.Laws.RangeAny
namespace Go.Sup
open Go Go.RowKit
theorem contains_from (p : Nat → Bool) (hp : ∀ r, 128 ≤ r → p r = true) (s : ByteArray) : ∀ f pos, s.size ≤ pos + f → decide (0 ≤ Lib.idxFuncFrom p true s f pos) = (s.data.toList.drop pos).any fun b => p b.toNat
  | 0, pos, h => by
    rw [List.drop_of_length_le (by rw [Array.length_toList]; exact h)]
    simp [Lib.idxFuncFrom]
  | f + 1, pos, h => by
    unfold Lib.idxFuncFrom
    by_cases hlt : pos < s.size
    · rw [if_pos hlt]
      have hl : pos < s.data.toList.length := by rw [Array.length_toList]; exact hlt
      rw [List.drop_eq_getElem_cons hl, List.any_cons]
      have hg : s.data.toList[pos] = s[pos] := rfl
      rw [hg]
      by_cases ha : (s[pos]).toNat < 128
      · rw [decode_ascii s pos hlt ha]
        cases hb : p (s[pos]).toNat
        · simp only [Bool.false_eq_true, if_false, Bool.false_or]
          exact contains_from p hp s f (pos + 1) (by omega)
        · simp
      · have := (decode_high s pos hlt (by omega)).1
        rw [hp _ this, hp _ (by omega : 128 ≤ (s[pos]).toNat)]
        simp
    · rw [if_neg hlt, List.drop_of_length_le (by rw [Array.length_toList]; show s.size ≤ pos; omega)]
      simp
theorem contains_bytes (p : Nat → Bool) (hp : ∀ r, 128 ≤ r → p r = true) (s : ByteArray) : decide (0 ≤ Lib.idxFunc p true s) = s.data.toList.any fun b => p b.toNat := contains_from p hp s s.size 0 (by omega)
def oddR (r : Nat) : Bool := (decide (r < 97) || decide (122 < r)) && (decide (r < 48) || decide (57 < r)) && !(decide (r = 45))
theorem oddR_high (r : Nat) (h : 128 ≤ r) : oddR r = true := by unfold oddR; simp; omega
theorem odd_name (b : UInt8) : oddR b.toNat = !(nameCh b) := by
  rw [Bool.eq_iff_iff]
  unfold oddR nameCh
  simp only [Bool.and_eq_true, Bool.or_eq_true, decide_eq_true_eq, Bool.not_eq_true', Bool.or_eq_false_iff, Bool.and_eq_false_iff, decide_eq_false_iff_not, beq_eq_false_iff_ne, ne_eq, UInt8.le_iff_toNat_le, ← UInt8.toNat_inj]
  simp
theorem any_odd (s : ByteArray) : decide (0 ≤ Lib.idxFunc oddR true s) = !(s.data.toList.all nameCh) := by
  rw [contains_bytes oddR oddR_high, List.all_eq_not_any_not]
  simp [odd_name]
end Go.Sup
namespace Go.Proofs.YtlffpelkmdcckaaGreatDoor
open Go Go.RowKit Go.Sup
set_option maxRecDepth 100000
theorem odd_at (w : World) : PredAt Tryz.prog 113 #[] encR oddR w := fun W r _ => by
  unfold FnGives
  have hc : r < 45 ∨ r = 45 ∨ (45 < r ∧ r < 48) ∨ (48 ≤ r ∧ r ≤ 57) ∨ (57 < r ∧ r < 97) ∨ (97 ≤ r ∧ r ≤ 122) ∨ 122 < r := by omega
  rcases hc with h | rfl | ⟨h, h'⟩ | ⟨h, h'⟩ | ⟨h, h'⟩ | ⟨h, h'⟩ | h
  · have H : Hid (oddR r = true) := by show oddR r = true; unfold oddR; simp; omega
    have a : (r : Int) < 45 := by omega
    have b : ((r : Int) != 45) = true := by simp; omega
    clear h
    go_enter Tryz.func113, Tryz.ntmps113
    go_wp2
    go_ret
    exact ⟨by rw [H.out]; rfl, 0, rfl⟩
  · go_enter Tryz.func113, Tryz.ntmps113
    go_wp2
    go_ret
    exact ⟨rfl, 0, rfl⟩
  · have H : Hid (oddR r = true) := by show oddR r = true; unfold oddR; simp; omega
    have a : (r : Int) < 48 := by omega
    have b : ((r : Int) != 45) = true := by simp; omega
    clear h
    go_enter Tryz.func113, Tryz.ntmps113
    go_wp2
    go_ret
    exact ⟨by rw [H.out]; rfl, 0, rfl⟩
  · have H : Hid (oddR r = false) := by show oddR r = false; unfold oddR; simp; omega
    have a : ¬ (r : Int) < 48 := by omega
    have a2 : (r : Int) < 97 := by omega
    have a3 : ¬ (57 : Int) < (r : Int) := by omega
    clear h
    go_enter Tryz.func113, Tryz.ntmps113
    go_wp2
    go_ret
    exact ⟨by rw [H.out]; rfl, 0, rfl⟩
  · have H : Hid (oddR r = true) := by show oddR r = true; unfold oddR; simp; omega
    have a : ¬ (r : Int) < 48 := by omega
    have a2 : (r : Int) < 97 := by omega
    have a3 : (57 : Int) < (r : Int) := by omega
    have b : ((r : Int) != 45) = true := by simp; omega
    clear h
    go_enter Tryz.func113, Tryz.ntmps113
    go_wp2
    go_ret
    exact ⟨by rw [H.out]; rfl, 0, rfl⟩
  · have H : Hid (oddR r = false) := by show oddR r = false; unfold oddR; simp; omega
    have a2 : ¬ (r : Int) < 97 := by omega
    have a3 : ¬ (122 : Int) < (r : Int) := by omega
    clear h
    go_enter Tryz.func113, Tryz.ntmps113
    go_wp2
    go_ret
    exact ⟨by rw [H.out]; rfl, 0, rfl⟩
  · have H : Hid (oddR r = true) := by show oddR r = true; unfold oddR; simp; omega
    have a : ¬ (r : Int) < 48 := by omega
    have a2 : ¬ (r : Int) < 97 := by omega
    have a3 : (122 : Int) < (r : Int) := by omega
    have a4 : (57 : Int) < (r : Int) := by omega
    have b : ((r : Int) != 45) = true := by simp; omega
    clear h
    go_enter Tryz.func113, Tryz.ntmps113
    go_wp2
    go_ret
    exact ⟨by rw [H.out]; rfl, 0, rfl⟩
theorem odd_calls (s : ByteArray) (w : World) : Calls Tryz.prog 65 #[.string s, .func (.func 113) #[] #[]] w fun e w' => e = .returned (.bool (!(s.data.toList.all nameCh))) ∧ Below w.heap.size w w' := by
  rw [← any_odd]
  exact Tryz.strings_ContainsFunc 113 #[] (enters_of Tryz.func113 (by kernel_rfl) rfl) oddR s w (odd_at w)
theorem nameOk_empty : nameOk [] = false := rfl
set_option maxHeartbeats 800000 in
theorem name_any (s : ByteArray) (w : World) : Calls Tryz.prog 95 #[.string s] w fun e w' => e = .returned (.bool (nameOk s.data.toList)) ∧ Below w.heap.size w w' := by
  have hl : s.data.toList.length = s.size := Array.length_toList
  rcases Nat.eq_zero_or_pos s.size with h0 | h0
  · have hs : s = ⟨#[]⟩ := by
      apply ByteArray.ext
      exact Array.eq_empty_of_size_eq_zero h0
    subst hs
    go_enter Tryz.func95, Tryz.ntmps95
    go_wp2
    go_ret
    exact ⟨rfl, Below.refl _ _⟩
  · have hse : s.toList.isEmpty = false := by
      rw [ByteArray.toList_eq]
      cases h : s.data.toList with
      | nil => rw [h] at hl; simp at hl; omega
      | cons a b => rfl
    have hse2 : ¬ s.toList = [] := by intro h; rw [h] at hse; cases hse
    by_cases h16 : s.size ≤ 16
    · have H : Hid (nameOk s.data.toList = s.data.toList.all nameCh) := by
        show nameOk s.data.toList = s.data.toList.all nameCh
        unfold nameOk; rw [hl]; simp; omega
      have h16' : (s.size : Int) ≤ 16 := by omega
      clear hl
      go_enter Tryz.func95, Tryz.ntmps95
      go_wp2_with fail
      refine (odd_calls s _).mono ?_
      rintro e w1 ⟨rfl, hb⟩
      go_wp2
      go_ret
      exact ⟨by rw [H.out]; simp, hb⟩
    · have H : Hid (nameOk s.data.toList = false) := by
        show nameOk s.data.toList = false
        unfold nameOk; rw [hl]; simp; omega
      have h16' : ¬ (s.size : Int) ≤ 16 := by omega
      clear hl
      go_enter Tryz.func95, Tryz.ntmps95
      go_wp2
      go_ret
      exact ⟨by rw [H.out]; rfl, Below.refl _ _⟩
set_option maxHeartbeats 800000 in
theorem may_any (f : Fld) (w : World) : Calls Tryz.prog 90 #[.agg #[.string f.1, .string f.2]] w fun e w' => e = .returned (.bool (mayF f)) ∧ Below w.heap.size w w' := by
  obtain ⟨n, v⟩ := f
  have HF : Hid (mayF (n, v) = (nameOk n.data.toList && decide (v.size ≤ 4096))) := rfl
  cases hn : nameOk n.data.toList
  · have Hn := Lib.hid hn
    clear hn
    go_enter Tryz.func90, Tryz.ntmps90
    go_wp2_with fail
    refine (name_any n _).mono ?_
    rintro e w1 ⟨rfl, hb⟩
    rw [Hn.out]
    have Hb := Lib.hid hb
    clear hb
    go_wp2
    go_ret
    exact ⟨by rw [HF.out, Hn.out]; rfl, ((Below.refl _ _).alloc (Nat.le_refl _) _).trans (Hb.out.mono (by simp))⟩
  · have Hn := Lib.hid hn
    clear hn
    go_enter Tryz.func90, Tryz.ntmps90
    go_wp2_with fail
    refine (name_any n _).mono ?_
    rintro e w1 ⟨rfl, hb⟩
    rw [Hn.out]
    have k1 : w1.cell? ⟨w.heap.size, 1, none⟩ = some (.string v) := ((bcell hb).1 w.heap.size _ (by simp)).trans (by go_simp)
    have Hb := Lib.hid hb
    clear hb
    by_cases hv : v.size ≤ 4096
    · have hv' : (v.size : Int) ≤ 4096 := by omega
      have Hv := Lib.hid hv
      clear hv
      go_wp2
      go_ret
      exact ⟨by rw [HF.out, Hn.out]; simp [Hv.out], ((Below.refl _ _).alloc (Nat.le_refl _) _).trans (Hb.out.mono (by simp))⟩
    · have hv' : ¬ (v.size : Int) ≤ 4096 := by omega
      have Hv := Lib.hid hv
      clear hv
      go_wp2
      go_ret
      exact ⟨by rw [HF.out, Hn.out]; have := Hv.out; simp; omega, ((Below.refl _ _).alloc (Nat.le_refl _) _).trans (Hb.out.mono (by simp))⟩
end Go.Proofs.YtlffpelkmdcckaaGreatDoor
