/- field.Set and the reference's: the walks. -/
import Derived.Test.YtnohmhemniopoaaGet
namespace Go.Proofs.Ytnohmhemniopoaa
open Go Go.RowKit Go.Sup
set_option maxRecDepth 100000
set_option maxHeartbeats 800000 in
theorem clone_any (l : List Fld) (v : Value) (w : World) (B : Nat) (hB : B ≤ w.heap.size) (hs : SlC w B 2 (l.map frow) v) (hb : l.length ≤ 1000000) :
    Calls Try.prog 30 #[v] w fun e w' => ∃ v', e = .returned v' ∧ OwnC w' w.heap.size 42 2 (l.map frow) v' ∧ Below w.heap.size w w' := by
  obtain ⟨A, c, rfl, hn, hc, hh⟩ := id hs
  have q22 : ∀ (w : World) (a : Option Addr) (n c n' c' : Nat), (binOp .eql 22 (.slice a n c) (.slice none n' c')).run Try.prog w = .ok (.bool a.isNone) w := fun w a n c n' c' => Lib.run_eql_slice_nil w _ _ a n c n' c' Try.underlying22
  have Hs := Lib.hid hs
  clear hs
  rcases A with _ | ad
  · have hr : l = [] := by
      rcases l with _ | ⟨r, rest⟩
      · rfl
      · obtain ⟨_, _, h, _⟩ := hh (by simp)
        cases h
    subst hr
    clear hh
    go_enter Try.func30, Try.ntmps30
    go_wp2
    go_ret
    exact ⟨_, rfl, OwnC.nil_ _ _ _ _, Below.refl _ _⟩
  · clear hh
    go_enter Try.func30, Try.ntmps30
    go_wp2_with (at_builtin; go_must (refine wpList_appN _ rfl (.tmp 5) (.tmp 6) 22 rfl elFlds w.heap.size [] _ rfl (OwnC.empty_ 42 2 (Nat.le_refl _)) w.heap.size (l.map frow) _ rfl ((Hs.out.more hB).alloc (Nat.le_refl _) _) (frow_len l) (frow_one l) ?_ ?_ ?_ ?_))
    · simp; omega
    · unfold maxLen; simp; omega
    · simp
    · intro v' w' ho' hg' hb' _
      have HO : Hid (OwnC w' w.heap.size 42 2 (l.map frow) v' ∧ Below w.heap.size w w') := ⟨by simpa using ho', ((Below.refl _ _).alloc (Nat.le_refl _) _).trans hb'⟩
      clear ho' hg' hb'
      go_wp2
      go_ret
      exact ⟨_, rfl, HO.out.1, HO.out.2⟩
set_option maxHeartbeats 1000000 in
theorem set_any (l : List Fld) (n x : ByteArray) (v : Value) (w : World) (B : Nat) (hB : B ≤ w.heap.size) (hs : SlC w B 2 (l.map frow) v) (hb : l.length ≤ 100000) :
    Calls Try.prog 17 #[v, .string n, .string x] w fun e w' => ∃ v', e = .returned v' ∧ OwnC w' w.heap.size 42 2 ((setF l n x).map frow) v' ∧ Below w.heap.size w w' := by
  have HC := Lib.hid (clone_any l v w B hB hs (by omega))
  clear hs
  go_enter Try.func17, Try.ntmps17
  go_wp2_with fail
  refine HC.out.mono ?_
  rintro e w1 ⟨v1, rfl, ho1, hb1⟩
  have HO1 := Lib.hid (And.intro ho1 hb1)
  clear ho1 hb1
  go_wp2_with fail
  refine (place_any l n _ _ _ HO1.out.1.sl (Nat.le_refl _)).mono ?_
  rintro e w2 ⟨i, rfl, hp, hb2⟩
  have HO2 : Hid (OwnC w2 w.heap.size 42 2 (l.map frow) v1 ∧ Below w.heap.size w w2) := ⟨HO1.out.1.below hb2, HO1.out.2.trans (hb2.mono HO1.out.2.size)⟩
  have hsz2 := HO2.out.2.size
  clear hb2
  rcases hp with ⟨rfl, h⟩ | ⟨k, u, rfl, hk, hbf⟩
  · have HX : Hid (setF l n x = l ++ [(n, x)]) := setF_none h
    clear h
    go_wp2_with (at_builtin; go_must (refine wpList_appN _ rfl (.tmp 16) (.tmp 20) 22 rfl elFlds w.heap.size _ v1 rfl (HO2.out.1.alloc _) _ [frow (n, x)] _ rfl (SlC.litN [frow (n, x)] (by simp [frow]) rfl 42 w2.heap.size 1 (w2.heap.size + 1) rfl rfl (by omega) (by unfold maxLen; omega)) (by simp [frow]) (by simp [frow, Value.oneCell']) (by simp; omega) (by unfold maxLen; simp; omega) (by simp; omega) ?_))
    intro v3 w3 ho3 hg3 hb3 _
    have HO3 : Hid (OwnC w3 w.heap.size 42 2 ((l ++ [(n, x)]).map frow) v3 ∧ Below w.heap.size w w3) := ⟨by simpa using ho3, (HO2.out.2.alloc hsz2 _).trans hb3⟩
    clear ho3 hg3 hb3
    go_wp2
    go_ret
    exact ⟨_, rfl, by rw [HX.out]; exact HO3.out.1, HO3.out.2⟩
  · have HX : Hid (setF l n x = l.set k (n, x)) := setF_some hk hbf
    have hkl : k < l.length := (List.getElem?_eq_some_iff.1 hk).1
    have hkm : (l.map frow)[k]? = some (frow (n, u)) := by simp [hk]
    obtain ⟨g, cap, hv1, hg1, hg2, hg3, hg4, hfz⟩ := HO2.out.1.form (by simp; omega)
    rw [List.length_map] at hv1 hg3
    subst hv1
    have c1 : w2.cell? ⟨g, k * 2 + 1, none⟩ = some (.string u) := HO2.out.1.cellAt hkm rfl
    have f1 := hfz (k * 2 + 1)
    have hkI : (k : Int) < (l.length : Int) := by omega
    have HS : Hid (OwnC (w2.setCell ⟨g, k * 2 + 1, none⟩ (.string x)) w.heap.size 42 2 ((l.set k (n, x)).map frow) (.slice (some ⟨g, 0, none⟩) l.length cap)) := by
      have := OwnC.set_ HO2.out.1 hkm (j := 1) (by omega) (.string x)
      rw [frow_set l k n u x hk] at this
      exact this
    clear hk hbf hkm hfz
    go_wp2
    go_ret
    exact ⟨_, rfl, by rw [HX.out]; exact HS.out, HO2.out.2.setCell hg1 _⟩
/-- What is still to come of the reference's Set. -/
def setRest (d : Bool) (l : List Fld) (n x : ByteArray) : List Fld := if d then l else setF l n x
set_option maxHeartbeats 2000000 in
theorem refSet_any (l : List Fld) (n x : ByteArray) (v : Value) (w : World) (B : Nat) (hB : B ≤ w.heap.size) (hs : SlC w B 2 (l.map frow) v) (hb : l.length ≤ 100000) :
    Calls Try.prog 18 #[v, .string n, .string x] w fun e w' => ∃ v', e = .returned v' ∧ OwnC w' w.heap.size 42 2 ((setF l n x).map frow) v' ∧ Below w.heap.size w w' := by
  obtain ⟨A, c, rfl, hn, hc, -⟩ := id hs
  rw [List.length_map] at hn hs ⊢
  unfold maxLen at hc
  have Hv := Lib.hid hs
  clear hs
  have hE : Hid (OwnC (w.alloc (.cells #[] 42)) w.heap.size 42 2 (([] : List Fld).map frow) (.slice (some ⟨w.heap.size, 0, none⟩) 0 0)) := OwnC.empty_ 42 2 (Nat.le_refl _)
  go_enter Try.func18, Try.ntmps18
  go_wp2
  go_loopw [7, 8, 9] (fun o dn i wr => ∃ (k : Nat) (d : Bool) (acc : List Fld), k ≤ l.length ∧ i = .int .i64 k ∧ dn = .bool d ∧ acc.length = k ∧ Hid (setF l n x = acc ++ setRest d (l.drop k) n x) ∧ Hid (OwnC wr w.heap.size 42 2 (acc.map frow) o ∧ Below w.heap.size w wr)) (fun _ _ i _ => l.length - (intOf i).toNat)
  case atStart => exact ⟨0, false, [], Nat.zero_le _, rfl, rfl, rfl, rfl, hE.out, (Below.refl _ _).alloc (Nat.le_refl _) _⟩
  case round =>
    obtain ⟨k, d, acc, hk, rfl, rfl, hacc, HS, HO⟩ := hrel
    have hsz := HO.out.2.size
    have HK := Lib.hid hacc
    have hal : (acc.map frow).length ≤ 100000 := by rw [List.length_map]; omega
    clear hacc
    by_cases hlt : k < l.length
    · have hlk : l[k]? = some l[k] := List.getElem?_eq_getElem hlt
      have HL : Hid (SlC wr B 2 (l.map frow) (.slice A l.length c)) := Hv.out.keep fun p hp => HO.out.2.cell (by omega)
      obtain ⟨b0, off, rfl, hb0, c0, c1⟩ := fld_at HL.out hlk
      have hlt' : (k : Int) < (l.length : Int) := by omega
      obtain ⟨f, hf⟩ : ∃ f, f = l[k] := ⟨_, rfl⟩
      rw [← hf] at c0 c1
      have HD : Hid (l.drop k = f :: l.drop (k + 1)) := by show _ = _; rw [List.drop_eq_getElem_cons hlt, hf]
      clear hf hlk
      by_cases hc1 : f.1 = n ∧ d = false
      · obtain ⟨he, rfl⟩ := hc1
        have HN : Hid (setF l n x = (acc ++ [(f.1, x)]) ++ setRest true (l.drop (k + 1)) n x) := by
          show _ = _
          rw [HS.out, HD.out]
          simp [setRest, setF, he]
        have e1 : (f.1.toList == n.toList) = true := by rw [he]; simp
        have e2 : f.1.toList = n.toList := by rw [he]
        clear he
        go_wp2_with (at_builtin; go_must (refine wpList_appN _ rfl (.tmp 32) (.tmp 34) 22 rfl elFlds w.heap.size _ u7 rfl ((HO.out.1.alloc _).alloc _) _ [frow (f.1, x)] _ rfl (SlC.litN [frow (f.1, x)] (by simp [frow]) rfl 42 (wr.heap.size + 1) 1 (wr.heap.size + 2) rfl (by simp) (by omega) (by unfold maxLen; omega)) (by simp [frow]) (by simp [frow, Value.oneCell']) (by simp at hal ⊢; omega) (by unfold maxLen; simp at hal ⊢; omega) (by simp; omega) ?_))
        intro v3 w3 ho3 hg3 hb3 _
        have HO3 : Hid (OwnC w3 w.heap.size 42 2 ((acc ++ [(f.1, x)]).map frow) v3 ∧ Below w.heap.size w w3) := ⟨by simpa using ho3, ((HO.out.2.alloc hsz _).alloc (by simp; omega) _).trans hb3⟩
        clear ho3 hg3 hb3
        go_wp2
        go_roundw
        case rel => exact ⟨k + 1, true, acc ++ [(f.1, x)], hlt, by go_num, rfl, by simp [HK.out], HN.out, HO3.out⟩
        case measure => simp [intOf]; omega
      · have HN : Hid (setF l n x = (acc ++ [f]) ++ setRest d (l.drop (k + 1)) n x) := by
          show _ = _
          rw [HS.out, HD.out]
          cases d
          · have : ¬ f.1 = n := fun h => hc1 ⟨h, rfl⟩
            simp [setRest, setF, this]
          · simp [setRest]
        have hcase : (f.1 = n ∧ d = true) ∨ ¬ f.1 = n := by
          by_cases h : f.1 = n
          · left; refine ⟨h, ?_⟩; cases d; exact absurd ⟨h, rfl⟩ hc1; rfl
          · exact .inr h
        clear hc1
        have hbool : ∀ b : Bool, ((f.1.toList == n.toList) = b) → (b = false ∨ d = true) → True := fun _ _ _ => trivial
        rcases hcase with ⟨he, rfl⟩ | he
        · have e1 : (f.1.toList == n.toList) = true := by rw [he]; simp
          have e2 : f.1.toList = n.toList := by rw [he]
          clear he hbool
          go_wp2_with (at_builtin; go_must (refine wpList_appN _ rfl (.tmp 32) (.tmp 34) 22 rfl elFlds w.heap.size _ u7 rfl ((HO.out.1.alloc _).alloc _) _ [frow (f.1, f.2)] _ rfl (SlC.litN [frow (f.1, f.2)] (by simp [frow]) rfl 42 (wr.heap.size + 1) 1 (wr.heap.size + 2) rfl (by simp) (by omega) (by unfold maxLen; omega)) (by simp [frow]) (by simp [frow, Value.oneCell']) (by simp at hal ⊢; omega) (by unfold maxLen; simp at hal ⊢; omega) (by simp; omega) ?_))
          intro v3 w3 ho3 hg3 hb3 _
          have HO3 : Hid (OwnC w3 w.heap.size 42 2 ((acc ++ [f]).map frow) v3 ∧ Below w.heap.size w w3) := ⟨by simpa using ho3, ((HO.out.2.alloc hsz _).alloc (by simp; omega) _).trans hb3⟩
          clear ho3 hg3 hb3
          go_wp2
          go_roundw
          case rel => exact ⟨k + 1, true, acc ++ [f], hlt, by go_num, rfl, by simp [HK.out], HN.out, HO3.out⟩
          case measure => simp [intOf]; omega
        · have e1 := bs_ne he
          have e2 := bs_ne' he
          clear he hbool
          go_wp2_with (at_builtin; go_must (refine wpList_appN _ rfl (.tmp 32) (.tmp 34) 22 rfl elFlds w.heap.size _ u7 rfl ((HO.out.1.alloc _).alloc _) _ [frow (f.1, f.2)] _ rfl (SlC.litN [frow (f.1, f.2)] (by simp [frow]) rfl 42 (wr.heap.size + 1) 1 (wr.heap.size + 2) rfl (by simp) (by omega) (by unfold maxLen; omega)) (by simp [frow]) (by simp [frow, Value.oneCell']) (by simp at hal ⊢; omega) (by unfold maxLen; simp at hal ⊢; omega) (by simp; omega) ?_))
          intro v3 w3 ho3 hg3 hb3 _
          have HO3 : Hid (OwnC w3 w.heap.size 42 2 ((acc ++ [f]).map frow) v3 ∧ Below w.heap.size w w3) := ⟨by simpa using ho3, ((HO.out.2.alloc hsz _).alloc (by simp; omega) _).trans hb3⟩
          clear ho3 hg3 hb3
          go_wp2
          go_roundw
          case rel => exact ⟨k + 1, d, acc ++ [f], hlt, by go_num, rfl, by simp [HK.out], HN.out, HO3.out⟩
          case measure => simp [intOf]; omega
    · obtain rfl : k = l.length := by omega
      have HSL : Hid (setF l n x = acc ++ setRest d [] n x) := by
        have := HS.out
        rw [List.drop_of_length_le (Nat.le_refl _)] at this
        exact this
      clear hlt hk
      cases d
      · have HN : Hid (setF l n x = acc ++ [(n, x)]) := HSL.out
        go_wp2_with (at_builtin; go_must (refine wpList_appN _ rfl (.tmp 38) (.tmp 42) 22 rfl elFlds w.heap.size _ u7 rfl (HO.out.1.alloc _) _ [frow (n, x)] _ rfl (SlC.litN [frow (n, x)] (by simp [frow]) rfl 42 wr.heap.size 1 (wr.heap.size + 1) rfl (by simp) (by omega) (by unfold maxLen; omega)) (by simp [frow]) (by simp [frow, Value.oneCell']) (by simp at hal ⊢; omega) (by unfold maxLen; simp at hal ⊢; omega) (by simp; omega) ?_))
        intro v3 w3 ho3 hg3 hb3 _
        have HO3 : Hid (OwnC w3 w.heap.size 42 2 ((acc ++ [(n, x)]).map frow) v3 ∧ Below w.heap.size w w3) := ⟨by simpa using ho3, (HO.out.2.alloc hsz _).trans hb3⟩
        clear ho3 hg3 hb3
        go_wp2
        go_ret
        exact ⟨_, rfl, by rw [HN.out]; exact HO3.out.1, HO3.out.2⟩
      · have HN : Hid (setF l n x = acc) := by
          show setF l n x = acc
          have := HSL.out
          simpa [setRest] using this
        go_wp2
        go_ret
        exact ⟨_, rfl, by rw [HN.out]; exact HO.out.1, HO.out.2⟩
end Go.Proofs.Ytnohmhemniopoaa
