/- Small leaves: the two signs, digits below 100. -/
import Derived.Test.YtmjkkmfjpppehaaDoorRows
import Derived.Test.YtmjkkmfjpppehaaDoorTypes
namespace Go.Proofs.YtmjkkmfjpppehaaDoor
open Go.RowKit Go.Sup
set_option maxRecDepth 100000
theorem pos_any (n : Int) (w : World) : Calls Tryd.prog 23 #[.int .i64 n] w fun e w' => e = .returned (.bool (decide (0 < n))) ∧ w = w' := by
  go_enter Tryd.func23, Tryd.ntmps23
  go_wp2
  go_ret
  exact ⟨rfl, rfl⟩
theorem neg_any (n : Int) (w : World) : Calls Tryd.prog 24 #[.int .i64 n] w fun e w' => e = .returned (.bool (decide (n < 0))) ∧ w = w' := by
  go_enter Tryd.func24, Tryd.ntmps24
  go_wp2
  go_ret
  exact ⟨rfl, rfl⟩
/-- The digits of a number below 100. -/
def dig (i : Nat) : ByteArray := if i < 10 then ⟨#[UInt8.ofNat (48 + i)]⟩ else ⟨#[UInt8.ofNat (48 + i / 10), UInt8.ofNat (48 + i % 10)]⟩
theorem ret_str {a b : ByteArray} (h : a = b) : Ending.returned (.string a) = .returned (.string b) := by rw [h]
theorem small1 : ∀ i : Nat, i < 10 → (ByteArray.mk #[48, 49, 50, 51, 52, 53, 54, 55, 56, 57, 97, 98, 99, 100, 101, 102, 103, 104, 105, 106, 107, 108, 109, 110, 111, 112, 113, 114, 115, 116, 117, 118, 119, 120, 121, 122]).extract i (i + 1) = ⟨#[UInt8.ofNat (48 + i)]⟩ := by decide +kernel
theorem small2 : ∀ i : Nat, i < 100 → ¬ i < 10 → (ByteArray.mk #[48, 48, 48, 49, 48, 50, 48, 51, 48, 52, 48, 53, 48, 54, 48, 55, 48, 56, 48, 57, 49, 48, 49, 49, 49, 50, 49, 51, 49, 52, 49, 53, 49, 54, 49, 55, 49, 56, 49, 57, 50, 48, 50, 49, 50, 50, 50, 51, 50, 52, 50, 53, 50, 54, 50, 55, 50, 56, 50, 57, 51, 48, 51, 49, 51, 50, 51, 51, 51, 52, 51, 53, 51, 54, 51, 55, 51, 56, 51, 57, 52, 48, 52, 49, 52, 50, 52, 51, 52, 52, 52, 53, 52, 54, 52, 55, 52, 56, 52, 57, 53, 48, 53, 49, 53, 50, 53, 51, 53, 52, 53, 53, 53, 54, 53, 55, 53, 56, 53, 57, 54, 48, 54, 49, 54, 50, 54, 51, 54, 52, 54, 53, 54, 54, 54, 55, 54, 56, 54, 57, 55, 48, 55, 49, 55, 50, 55, 51, 55, 52, 55, 53, 55, 54, 55, 55, 55, 56, 55, 57, 56, 48, 56, 49, 56, 50, 56, 51, 56, 52, 56, 53, 56, 54, 56, 55, 56, 56, 56, 57, 57, 48, 57, 49, 57, 50, 57, 51, 57, 52, 57, 53, 57, 54, 57, 55, 57, 56, 57, 57]).extract (i * 2) (i * 2 + 2) = ⟨#[UInt8.ofNat (48 + i / 10), UInt8.ofNat (48 + i % 10)]⟩ := by decide +kernel
theorem small_any (i : Nat) (h : i < 100) (w : World) : Calls Tryd.prog 67 #[.int .i64 i] w fun e w' => e = .returned (.string (dig i)) ∧ w = w' := by
  by_cases h10 : i < 10
  · go_enter Tryd.func67, Tryd.ntmps67
    go_wp2
    go_ret
    refine ⟨ret_str ?_, rfl⟩
    rw [dig, if_pos h10]
    exact small1 i h10
  · go_enter Tryd.func67, Tryd.ntmps67
    go_wp2
    go_ret
    refine ⟨ret_str ?_, rfl⟩
    rw [dig, if_neg h10]
    exact small2 i h h10
theorem digits_any (i : Nat) (h : i < 100) (w : World) : Calls Tryd.prog 27 #[.int .i64 i] w fun e w' => e = .returned (.string (dig i)) ∧ Below w.heap.size w w' := by
  go_enter Tryd.func27, Tryd.ntmps27
  go_wp2_with (refine wpList_conv_byte _ rfl (.tmp 8) 103 9 5 rfl Tryd.underlying103 Tryd.underlying5 Tryd.underlying9 w _ 5 rfl _ 1 rfl rfl ?_)
  go_loopw [0, 3] (fun n s wr => Below w.heap.size w wr ∧ ((n = .int .i64 i ∧ s = .string (byteStr (48 + (i : Int) % 10))) ∨ (n = .int .i64 (i / 10 : Nat) ∧ ¬ i < 10 ∧ s = .string (dig i)))) (fun n _ _ => (intOf n).toNat)
  case atStart => exact ⟨(Below.refl _ _).alloc (Nat.le_refl _) _, .inl ⟨rfl, rfl⟩⟩
  case round =>
    obtain ⟨hb, ⟨rfl, rfl⟩ | ⟨rfl, h10, rfl⟩⟩ := hrel
    · by_cases h10 : i < 10
      · have hm : i % 10 = i := Nat.mod_eq_of_lt h10
        have Hm := Lib.hid hm
        clear hm
        go_wp2
        go_ret
        exact ⟨ret_str (by rw [dig, if_pos h10, byteStr, show (48 + (i : Int) % 10).toNat = 48 + i by omega]), hb⟩
      · go_wp2_with (refine wpList_conv_byte _ rfl (.tmp 18) 103 9 5 rfl Tryd.underlying103 Tryd.underlying5 Tryd.underlying9 wr _ 5 rfl _ 1 rfl rfl ?_)
        go_roundw
        case rel => 
          refine ⟨hb.alloc hb.size _, .inr ⟨by go_num, h10, ?_⟩⟩
          have e1 : byteStr (48 + (i : Int) / 10 % 10) = ⟨#[UInt8.ofNat (48 + i / 10)]⟩ := by
            have : (48 + (i : Int) / 10 % 10).toNat = 48 + i / 10 := by omega
            rw [byteStr, this]
          have e2 : byteStr (48 + (i : Int) % 10) = ⟨#[UInt8.ofNat (48 + i % 10)]⟩ := by
            have : (48 + (i : Int) % 10).toNat = 48 + i % 10 := by omega
            rw [byteStr, this]
          rw [e1, e2, dig, if_neg h10]; rfl
        case measure => simp [intOf]; omega
    · have hlt : i / 10 < 10 := by omega
      go_wp2
      go_ret
      exact ⟨rfl, hb⟩
theorem fmtInt_any (i : Nat) (h : i < 100) (w : World) : Calls Tryd.prog 58 #[.int .i64 i, .int .i64 10] w fun e w' => e = .returned (.string (dig i)) ∧ w = w' := by
  go_enter Tryd.func58, Tryd.ntmps58
  go_wp2_with (go_at_call 67; refine (small_any i h _).mono ?_; rintro e w' ⟨rfl, rfl⟩)
  go_ret
  exact ⟨rfl, rfl⟩
theorem itoaI_any (i : Nat) (h : i < 100) (w : World) : Calls Tryd.prog 44 #[.int .i64 i] w fun e w' => e = .returned (.string (dig i)) ∧ w = w' := by
  go_enter Tryd.func44, Tryd.ntmps44
  go_wp2_with (go_at_call 58; refine (fmtInt_any i h _).mono ?_; rintro e w' ⟨rfl, rfl⟩)
  go_ret
  exact ⟨rfl, rfl⟩
theorem itoa_any (i : Nat) (h : i < 100) (w : World) : Calls Tryd.prog 25 #[.int .i64 i] w fun e w' => e = .returned (.string (dig i)) ∧ w = w' := by
  go_enter Tryd.func25, Tryd.ntmps25
  go_wp2_with (go_at_call 44; refine (itoaI_any i h _).mono ?_; rintro e w' ⟨rfl, rfl⟩)
  go_ret
  exact ⟨rfl, rfl⟩
end Go.Proofs.YtmjkkmfjpppehaaDoor
