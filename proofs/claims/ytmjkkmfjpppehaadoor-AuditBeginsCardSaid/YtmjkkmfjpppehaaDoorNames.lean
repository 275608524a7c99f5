/- A ledger's names and currencies: what the program's two tests say of texts that are right. -/
import Derived.Test.YtmjkkmfjpppehaaDoorIdxFn
import Derived.Test.YtmjkkmfjpppehaaDoorLedT
namespace Go.Proofs.YtmjkkmfjpppehaaDoor
open Go.RowKit Go.Sup Go.Lib Go.Shelf
set_option maxRecDepth 100000
def oddN (b : Nat) : Bool := (decide (b < 97) || decide (122 < b)) && (decide (b < 48) || decide (57 < b)) && (b != 45) && (b != 58)
def oddC (b : Nat) : Bool := decide (b < 65) || decide (90 < b)
theorem enters47 : ∀ args w, (callFunc 47 args).run Tryd.prog w = .ok (.enter 47 args) w := enters_of Tryd.func47 (by kernel_rfl) rfl
theorem enters49 : ∀ args w, (callFunc 49 args).run Tryd.prog w = .ok (.enter 49 args) w := enters_of Tryd.func49 (by kernel_rfl) rfl
theorem ret_bool {a b : Bool} (h : a = b) : Ending.returned (.bool a) = .returned (.bool b) := by rw [h]
theorem oddC_any (w : World) : PredAt Tryd.prog 49 #[] encR oddC w := fun W r _ => by
  unfold FnGives
  show Calls Tryd.prog 49 #[.int .i32 (r : Int)] W _
  by_cases h1 : (r : Int) < 65
  all_goals
    go_enter Tryd.func49, Tryd.ntmps49
    go_wp2
    go_ret
    exact ⟨ret_bool (by rw [Bool.eq_iff_iff]; simp [oddC]; omega), 0, rfl⟩
theorem oddN_any (w : World) : PredAt Tryd.prog 47 #[] encR oddN w := fun W r _ => by
  unfold FnGives
  show Calls Tryd.prog 47 #[.int .i32 (r : Int)] W _
  by_cases h1 : (r : Int) < 48
  · have h2 : (r : Int) < 97 := by omega
    by_cases h3 : r = 45
    · subst h3
      go_enter Tryd.func47, Tryd.ntmps47
      go_wp2
      go_ret
      exact ⟨rfl, 0, rfl⟩
    · have e3 : ((r : Int) != 45) = true := by rw [bne_iff_ne]; omega
      have e4 : ((r : Int) != 58) = true := by rw [bne_iff_ne]; omega
      have H3 := Lib.hid h3
      clear h3
      go_enter Tryd.func47, Tryd.ntmps47
      go_wp2
      go_ret
      exact ⟨ret_bool (by have := H3.out; simp [oddN]; omega), 0, rfl⟩
  · by_cases h4 : (r : Int) < 97
    · by_cases h5 : 57 < (r : Int)
      · have e3 : ((r : Int) != 45) = true := by rw [bne_iff_ne]; omega
        by_cases h6 : r = 58
        · subst h6
          go_enter Tryd.func47, Tryd.ntmps47
          go_wp2
          go_ret
          exact ⟨rfl, 0, rfl⟩
        · have e4 : ((r : Int) != 58) = true := by rw [bne_iff_ne]; omega
          have H3 := Lib.hid h6
          clear h6
          go_enter Tryd.func47, Tryd.ntmps47
          go_wp2
          go_ret
          exact ⟨ret_bool (by have := H3.out; simp [oddN]; omega), 0, rfl⟩
      · go_enter Tryd.func47, Tryd.ntmps47
        go_wp2
        go_ret
        exact ⟨ret_bool (by rw [eq_comm]; simp [oddN]; omega), 0, rfl⟩
    · by_cases h7 : 122 < (r : Int)
      · have e3 : ((r : Int) != 45) = true := by rw [bne_iff_ne]; omega
        have e4 : ((r : Int) != 58) = true := by rw [bne_iff_ne]; omega
        have e5 : 57 < (r : Int) := by omega
        go_enter Tryd.func47, Tryd.ntmps47
        go_wp2
        go_ret
        exact ⟨ret_bool (by rw [eq_comm]; simp [oddN]; omega), 0, rfl⟩
      · go_enter Tryd.func47, Tryd.ntmps47
        go_wp2
        go_ret
        exact ⟨ret_bool (by rw [eq_comm]; simp [oddN]; omega), 0, rfl⟩
/-- Texts that can name an account; that are a currency. -/
structure GoodN (s : ByteArray) : Prop where
  lo : 1 ≤ s.size
  hi : s.size ≤ 32
  idx : Lib.idxFunc oddN true s = -1
structure GoodC (s : ByteArray) : Prop where
  len : s.size = 3
  idx : Lib.idxFunc oddC true s = -1
theorem name_any (s : ByteArray) (h : GoodN s) (w : World) : Calls Tryd.prog 29 #[.string s] w fun e w' => e = .returned (.bool true) ∧ Below w.heap.size w w' := by
  have h1 := h.lo
  have h2 := h.hi
  have H := Lib.hid (IndexFunc_any 47 enters47 oddN s w (oddN_any w))
  have H3 := Lib.hid h.idx
  clear h
  go_enter Tryd.func29, Tryd.ntmps29
  go_wp2_with (go_at_call 48; refine H.out.mono ?_; rintro e w' ⟨rfl, hb⟩)
  go_ret
  exact ⟨ret_bool (by rw [H3.out]; rfl), hb⟩
theorem currency_any (s : ByteArray) (h : GoodC s) (w : World) : Calls Tryd.prog 30 #[.string s] w fun e w' => e = .returned (.bool true) ∧ Below w.heap.size w w' := by
  have h1 : ((s.size : Int) == 3) = true := by rw [beq_iff_eq, h.len]; rfl
  have H := Lib.hid (IndexFunc_any 49 enters49 oddC s w (oddC_any w))
  have H3 := Lib.hid h.idx
  clear h
  go_enter Tryd.func30, Tryd.ntmps30
  go_wp2_with (go_at_call 48; refine H.out.mono ?_; rintro e w' ⟨rfl, hb⟩)
  go_ret
  exact ⟨ret_bool (by rw [H3.out]; rfl), hb⟩
end Go.Proofs.YtmjkkmfjpppehaaDoor
