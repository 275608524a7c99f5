/- 09: post.name. Turned from Name. -/
import Derived.Test.YtlffpelkmdcckaaGreatDoorEqualS
import Derived.Test.YtlffpelkmdcckaaGreatDoorName
namespace Go.Proofs.YtlffpelkmdcckaaGreatDoor
open Go Go.RowKit Go.Sup
set_option maxRecDepth 100000
theorem oddP_at (w : World) : PredAt Tryz.prog 64 #[] encR oddR w := fun W r _ => by
  unfold FnGives
  have hc : r < 45 ∨ r = 45 ∨ (45 < r ∧ r < 48) ∨ (48 ≤ r ∧ r ≤ 57) ∨ (57 < r ∧ r < 97) ∨ (97 ≤ r ∧ r ≤ 122) ∨ 122 < r := by omega
  rcases hc with h | rfl | ⟨h, h'⟩ | ⟨h, h'⟩ | ⟨h, h'⟩ | ⟨h, h'⟩ | h
  · have H : Hid (oddR r = true) := by show oddR r = true; unfold oddR; simp; omega
    have a : (r : Int) < 45 := by omega
    have b : ((r : Int) != 45) = true := by simp; omega
    clear h
    go_enter Tryz.func64, Tryz.ntmps64
    go_wp2
    go_ret
    exact ⟨by rw [H.out]; rfl, 0, rfl⟩
  · go_enter Tryz.func64, Tryz.ntmps64
    go_wp2
    go_ret
    exact ⟨rfl, 0, rfl⟩
  · have H : Hid (oddR r = true) := by show oddR r = true; unfold oddR; simp; omega
    have a : (r : Int) < 48 := by omega
    have b : ((r : Int) != 45) = true := by simp; omega
    clear h
    go_enter Tryz.func64, Tryz.ntmps64
    go_wp2
    go_ret
    exact ⟨by rw [H.out]; rfl, 0, rfl⟩
  · have H : Hid (oddR r = false) := by show oddR r = false; unfold oddR; simp; omega
    have a : ¬ (r : Int) < 48 := by omega
    have a2 : (r : Int) < 97 := by omega
    have a3 : ¬ (57 : Int) < (r : Int) := by omega
    clear h
    go_enter Tryz.func64, Tryz.ntmps64
    go_wp2
    go_ret
    exact ⟨by rw [H.out]; rfl, 0, rfl⟩
  · have H : Hid (oddR r = true) := by show oddR r = true; unfold oddR; simp; omega
    have a : ¬ (r : Int) < 48 := by omega
    have a2 : (r : Int) < 97 := by omega
    have a3 : (57 : Int) < (r : Int) := by omega
    have b : ((r : Int) != 45) = true := by simp; omega
    clear h
    go_enter Tryz.func64, Tryz.ntmps64
    go_wp2
    go_ret
    exact ⟨by rw [H.out]; rfl, 0, rfl⟩
  · have H : Hid (oddR r = false) := by show oddR r = false; unfold oddR; simp; omega
    have a2 : ¬ (r : Int) < 97 := by omega
    have a3 : ¬ (122 : Int) < (r : Int) := by omega
    clear h
    go_enter Tryz.func64, Tryz.ntmps64
    go_wp2
    go_ret
    exact ⟨by rw [H.out]; rfl, 0, rfl⟩
  · have H : Hid (oddR r = true) := by show oddR r = true; unfold oddR; simp; omega
    have a : ¬ (r : Int) < 48 := by omega
    have a2 : ¬ (r : Int) < 97 := by omega
    have a3 : (122 : Int) < (r : Int) := by omega
    have a4 : (57 : Int) < (r : Int) := by omega
    have b : ((r : Int) != 45) = true := by simp; omega
    clear h
    go_enter Tryz.func64, Tryz.ntmps64
    go_wp2
    go_ret
    exact ⟨by rw [H.out]; rfl, 0, rfl⟩
theorem oddP_calls (s : ByteArray) (w : World) : Calls Tryz.prog 65 #[.string s, .func (.func 64) #[] #[]] w fun e w' => e = .returned (.bool (!(s.data.toList.all nameCh))) ∧ Below w.heap.size w w' := by
  rw [← any_odd]
  exact Tryz.strings_ContainsFunc 64 #[] (enters_of Tryz.func64 (by kernel_rfl) rfl) oddR s w (oddP_at w)
set_option maxHeartbeats 800000 in
theorem postname_any (s : ByteArray) (w : World) : Calls Tryz.prog 37 #[.string s] w fun e w' => e = .returned (.bool (nameOk s.data.toList)) ∧ Below w.heap.size w w' := by
  have hl : s.data.toList.length = s.size := Array.length_toList
  rcases Nat.eq_zero_or_pos s.size with h0 | h0
  · have hs : s = ⟨#[]⟩ := by
      apply ByteArray.ext
      exact Array.eq_empty_of_size_eq_zero h0
    subst hs
    go_enter Tryz.func37, Tryz.ntmps37
    go_wp2
    go_ret
    exact ⟨rfl, Below.refl _ _⟩
  · have hse : s.toList.isEmpty = false := by
      rw [ByteArray.toList_eq]
      cases h : s.data.toList with
      | nil => rw [h] at hl; simp at hl; omega
      | cons a b => rfl
    have hse2 : ¬ s.toList = [] := by intro h; rw [h] at hse; cases hse
    by_cases h16 : s.size ≤ 16
    · have H : Hid (nameOk s.data.toList = s.data.toList.all nameCh) := by
        show nameOk s.data.toList = s.data.toList.all nameCh
        unfold nameOk; rw [hl]; simp; omega
      have h16' : (s.size : Int) ≤ 16 := by omega
      clear hl
      go_enter Tryz.func37, Tryz.ntmps37
      go_wp2_with fail
      refine (oddP_calls s _).mono ?_
      rintro e w1 ⟨rfl, hb⟩
      go_wp2
      go_ret
      exact ⟨by rw [H.out]; simp, hb⟩
    · have H : Hid (nameOk s.data.toList = false) := by
        show nameOk s.data.toList = false
        unfold nameOk; rw [hl]; simp; omega
      have h16' : ¬ (s.size : Int) ≤ 16 := by omega
      clear hl
      go_enter Tryz.func37, Tryz.ntmps37
      go_wp2
      go_ret
      exact ⟨by rw [H.out]; rfl, Below.refl _ _⟩
end Go.Proofs.YtlffpelkmdcckaaGreatDoor
