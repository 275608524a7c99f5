/- strings.IndexFunc at whatever function value that only reads: where the first rune begins at which it holds, or -1. (After the library's own proof for its shelf, at this program's numbers.) -/
import Derived.Test.YtmjkkmfjpppehaaDoorRows
import Derived.Test.YtmjkkmfjpppehaaDoorMem
import Derived.Shelf.GgClosure.StringsIndexFunc
namespace Go.Proofs.YtmjkkmfjpppehaaDoor
open Go.RowKit Go.Sup Go.Lib Go.Shelf
set_option maxRecDepth 100000
set_option maxHeartbeats 1000000 in
theorem indexFunc_any (g : Nat) (eg : ∀ args w, (callFunc g args).run Tryd.prog w = .ok (.enter g args) w) (p : Nat → Bool) (s : ByteArray) (w : World) (hp : PredAt Tryd.prog g #[] encR p w) :
    Calls Tryd.prog 59 #[.string s, .func (.func g) #[] #[], .bool true] w fun e w' => e = .returned (.int .i64 (Lib.idxFunc p true s)) ∧ Below w.heap.size w w' := by
  go_enter Tryd.func59, Tryd.ntmps59
  go_wp2
  go_loopg [] s.size (fun gf wx => ∃ pos : Nat, wx.heap[w.heap.size]? = some (.stringIter s pos) ∧ Below w.heap.size w wx ∧ Lib.idxFuncFrom p true s gf pos = Lib.idxFunc p true s ∧ s.size ≤ pos + gf)
  case atStart => exact ⟨0, World.iter_heap w s 0, (Below.refl _ w).alloc (Nat.le_refl _) _, rfl, by omega⟩
  case round =>
    obtain ⟨pos, hit, hbw, hleft, hfu⟩ := hrel
    by_cases hps : pos < s.size
    · obtain ⟨g', rfl⟩ : ∃ g', gk = g' + 1 := ⟨gk - 1, by omega⟩
      have hnx : ∀ ty, (Instr.next (.pointer (some ⟨w.heap.size, 0, none⟩)) true ty).run Tryd.prog wr = _ := fun ty => Lib.run_next_any_at wr w.heap.size s pos ty hit hps
      have hwd := Lib.width_pos s pos
      obtain ⟨R, hR⟩ : ∃ R, (Utf8.decode s pos).1 = R := ⟨_, rfl⟩
      obtain ⟨K, hK⟩ : ∃ K, (Utf8.decode s pos).2 = K := ⟨_, rfl⟩
      simp only [Lib.idxFuncFrom, hps, if_true, hR, hK] at hleft
      rw [hR, hK] at hnx
      rw [hK] at hwd
      have hit2 := Lib.iterAt_heap wr w.heap.size s pos (pos + K) hit
      have hbw2 := Lib.below_iterAt hbw (k := w.heap.size) (Nat.le_refl _) s (pos + K)
      obtain ⟨W, hWd⟩ : ∃ W, wr.iterAt w.heap.size s (pos + K) = W := ⟨_, rfl⟩
      rw [hWd] at hnx hit2 hbw2
      have cS : Calls Tryd.prog g (#[.int .i32 (R : Int)] ++ #[]) W _ := hp W R hbw2
      clear hp
      cases hsp : p R <;> rw [hsp] at cS <;> simp only [hsp, if_true, Bool.false_eq_true, if_false] at hleft
      · go_wp2_with (go_at_fn g; refine cS.mono ?_; rintro e W' ⟨rfl, q, rfl⟩)
        go_roundg g'
        case rel => exact ⟨pos + K, hit2, below_drewN hbw2 q, hleft, by omega⟩
        case measure => omega
      · go_wp2_with (go_at_fn g; refine cS.mono ?_; rintro e W' ⟨rfl, q, rfl⟩)
        go_ret
        exact ⟨by rw [← hleft] <;> rfl, below_drewN hbw2 q⟩
    · have hnx : ∀ ty, (Instr.next (.pointer (some ⟨w.heap.size, 0, none⟩)) true ty).run Tryd.prog wr = _ := fun ty => Lib.run_next_end_at wr w.heap.size s pos ty hit hps
      rw [Lib.idxFuncFrom_end p true s gk pos hps] at hleft
      go_wp2
      go_ret
      exact ⟨by rw [← hleft] <;> rfl, hbw⟩
theorem IndexFunc_any (g : Nat) (eg : ∀ args w, (callFunc g args).run Tryd.prog w = .ok (.enter g args) w) (p : Nat → Bool) (s : ByteArray) (w : World) (hp : PredAt Tryd.prog g #[] encR p w) :
    Calls Tryd.prog 48 #[.string s, .func (.func g) #[] #[]] w fun e w' => e = .returned (.int .i64 (Lib.idxFunc p true s)) ∧ Below w.heap.size w w' := by
  have H := Lib.hid (indexFunc_any g eg p s w hp)
  clear hp
  obtain ⟨I, hI⟩ : ∃ I, Lib.idxFunc p true s = I := ⟨_, rfl⟩
  rw [hI] at H ⊢
  go_enter Tryd.func48, Tryd.ntmps48
  go_wp2_with (go_at_call 59; refine H.out.mono ?_; rintro e w' ⟨rfl, hb⟩)
  go_ret
  exact ⟨rfl, hb⟩
end Go.Proofs.YtmjkkmfjpppehaaDoor
