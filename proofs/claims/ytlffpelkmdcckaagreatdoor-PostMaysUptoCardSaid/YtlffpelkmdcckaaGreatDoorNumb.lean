/- field.Number: the walk. What the row's listed variables give it. -/
import Derived.Test.YtlffpelkmdcckaaGreatDoorRefN
import Derived.Test.YtlffpelkmdcckaaGreatDoorShelf
import Derived.Lib.LaidTab
import Derived.Lib.AppendIntMem
import Derived.Lib.ConvBytes
namespace Go.Proofs.YtlffpelkmdcckaaGreatDoor
open Go Go.RowKit Go.Sup Go.Lib
set_option maxRecDepth 100000
theorem var_below {P : Program} {w w' : World} {name : String} {cs : Array Value} (h : w.var? P name = some cs) (hb : Below w.heap.size w w') : w'.var? P name = some cs := by
  unfold World.var? at *
  cases hg : P.globalNamed name with
  | none => simp [hg] at h
  | some g =>
    simp only [hg, Option.bind_some] at h ⊢
    have hlt : g < w.heap.size := by
      rcases Nat.lt_or_ge g w.heap.size with h' | h'
      · exact h'
      · rw [Array.getElem?_eq_none h'] at h; simp at h
    rw [hb.block g hlt]
    exact h
/-- What the listed variables give. -/
structure NumW (w : World) : Prop where
  tab : Lib.TabIs Tryz.prog w "internal/strconv.uint64pow10" .u64 Lib.pow10Tab
  syn : ∃ tp p, w.var? Tryz.prog "strconv.ErrSyntax" = some #[.iface tp p]
  ran : ∃ tp p, w.var? Tryz.prog "strconv.ErrRange" = some #[.iface tp p]
theorem NumW.below {w w' : World} (h : NumW w) (hb : Below w.heap.size w w') : NumW w' := by
  obtain ⟨h1, ⟨t2, p2, h2⟩, ⟨t3, p3, h3⟩⟩ := h
  exact ⟨var_below h1 hb, ⟨t2, p2, var_below h2 hb⟩, ⟨t3, p3, var_below h3 hb⟩⟩
theorem bytes_below (w : World) (e : TypeId) (t : ByteArray) : Below w.heap.size w (Lib.bytesWorld w e t) :=
  ⟨rfl, rfl, rfl, by rw [Lib.bytesWorld_size]; omega, fun i hi => Lib.bytesWorld_at_old w e t i hi⟩
theorem format_any (n : Int) (h0 : -9223372036854775808 ≤ n) (h1 : n ≤ 9223372036854775807) (w : World) (hW : NumW w) :
    Calls Tryz.prog 106 #[.int .i64 n, .int .i64 10] w fun e w' => e = .returned (.string (digS n)) ∧ Below w.heap.size w w' := by
  refine (Tryz.strconv_FormatInt_10 n h0 h1 w hW.tab).mono ?_
  rintro e w' ⟨rfl, k, os, rfl⟩
  exact ⟨rfl, below_grow _ w (Nat.le_refl _) k os⟩
theorem parse_ok (s : ByteArray) (hs : s.size ≤ 1000000) (v : Int) (h : Lib.parseIntB 64 s.data.toList = .ok v) (w : World) :
    Calls Tryz.prog 105 #[.string s, .int .i64 10, .int .i64 64] w fun e w' => e = .returned (.tuple #[.int .i64 v, .nilIface]) ∧ Below w.heap.size w w' := by
  refine (Tryz.strconv_ParseInt_10_at64_ok s (by omega) v h w).mono ?_
  rintro e w' ⟨rfl, rfl | ⟨t, rfl⟩⟩
  · exact ⟨rfl, Below.refl _ _⟩
  · exact ⟨rfl, bytes_below w _ t⟩
theorem parse_no (s : ByteArray) (hs : s.size ≤ 1000000) (h : ∀ v, Lib.parseIntB 64 s.data.toList ≠ .ok v) (w : World) (hW : NumW w) :
    Calls Tryz.prog 105 #[.string s, .int .i64 10, .int .i64 64] w fun e w' => (∃ x tp p, e = .returned (.tuple #[.int .i64 x, .iface tp (.pointer (some p))])) ∧ Below w.heap.size w w' := by
  rcases hp : Lib.parseIntB 64 s.data.toList with v | _ | _
  · exact absurd hp (h v)
  · obtain ⟨tp, p, hv⟩ := hW.syn
    refine (Tryz.strconv_ParseInt_10_at64_syntax_var s (by omega) hp tp p w hv).mono ?_
    rintro e w' ⟨N, rfl, _, _, hb⟩
    exact ⟨⟨_, _, _, rfl⟩, hb⟩
  · obtain ⟨tp, p, hv⟩ := hW.ran
    refine (Tryz.strconv_ParseInt_10_at64_range_var s (by omega) hp tp p w hv).mono ?_
    rintro e w' ⟨N, rfl, _, _, hb⟩
    exact ⟨⟨_, _, _, rfl⟩, hb⟩
set_option maxHeartbeats 2000000 in
theorem number_any (s : ByteArray) (hs : s.size ≤ 1000000) (w : World) (hW : NumW w) : Calls Tryz.prog 82 #[.string s] w fun e w' => e = .returned (numV (numOf s.data.toList)) ∧ Below w.heap.size w w' := by
  by_cases hp : ∃ v, Lib.parseIntB 64 s.data.toList = .ok v
  · obtain ⟨v, hv⟩ := hp
    have HP := Lib.hid (fun W => parse_ok s hs v hv W)
    have HE : Hid (numOf s.data.toList = if inN v && decide (itoa v = s.data.toList) then some v else none) := by
      show numOf s.data.toList = _
      unfold numOf; rw [hv]
    have HN := Lib.hid hW
    clear hv hW
    by_cases g1 : v < -4611686018427387904
    · have H : Hid (numOf s.data.toList = none) := by
        show numOf s.data.toList = none
        rw [HE.out, if_neg]
        intro hx
        simp only [Bool.and_eq_true, inN_iff] at hx
        omega
      go_enter Tryz.func82, Tryz.ntmps82
      go_wp2_with (go_at_call 105; refine (HP.out _).mono ?_; rintro e w1 ⟨rfl, hb1⟩; have HB1 := Lib.hid hb1; clear hb1)
      go_ret2
      exact ⟨by rw [H.out]; rfl, HB1.out⟩
    · by_cases g2 : 4611686018427387904 < v
      · have H : Hid (numOf s.data.toList = none) := by
          show numOf s.data.toList = none
          rw [HE.out, if_neg]
          intro hx
          simp only [Bool.and_eq_true, inN_iff] at hx
          omega
        go_enter Tryz.func82, Tryz.ntmps82
        go_wp2_with (go_at_call 105; refine (HP.out _).mono ?_; rintro e w1 ⟨rfl, hb1⟩; have HB1 := Lib.hid hb1; clear hb1)
        go_ret2
        exact ⟨by rw [H.out]; rfl, HB1.out⟩
      · have HI : Hid (inN v = true) := by
          show inN v = true
          rw [inN_iff]; omega
        have HD : Hid (∀ W, NumW W → Calls Tryz.prog 106 #[.int .i64 v, .int .i64 10] W fun e w' => e = .returned (.string (digS v)) ∧ Below W.heap.size W w') := fun W h => format_any v (by omega) (by omega) W h
        by_cases he : digS v = s
        · have H : Hid (numOf s.data.toList = some v) := by
            show numOf s.data.toList = some v
            rw [HE.out, HI.out, digS_eq he]; simp
          have e1 : ((digS v).toList == s.toList) = true := by rw [he]; simp
          have e2 : (digS v).toList = s.toList := by rw [he]
          clear he
          go_enter Tryz.func82, Tryz.ntmps82
          go_wp2_with (first | (go_at_call 105; refine (HP.out _).mono ?_; rintro e w1 ⟨rfl, hb1⟩; have HB1 := Lib.hid hb1; clear hb1) | (go_at_call 106; refine (HD.out _ (HN.out.below HB1.out)).mono ?_; rintro e w2 ⟨rfl, hb2⟩; have HB2 := Lib.hid (HB1.out.trans (hb2.mono HB1.out.size)); clear hb2))
          go_ret2
          exact ⟨by rw [H.out]; rfl, HB2.out⟩
        · have H : Hid (numOf s.data.toList = none) := by
            show numOf s.data.toList = none
            rw [HE.out, if_neg]
            intro hx
            simp only [Bool.and_eq_true, decide_eq_true_eq] at hx
            exact digS_ne he hx.2
          have e1 : ((digS v).toList == s.toList) = false := by rw [bs_beq]; simp [he]
          have e2 : ¬ (digS v).toList = s.toList := (fun hx => he (bs_ext hx))
          clear he
          go_enter Tryz.func82, Tryz.ntmps82
          go_wp2_with (first | (go_at_call 105; refine (HP.out _).mono ?_; rintro e w1 ⟨rfl, hb1⟩; have HB1 := Lib.hid hb1; clear hb1) | (go_at_call 106; refine (HD.out _ (HN.out.below HB1.out)).mono ?_; rintro e w2 ⟨rfl, hb2⟩; have HB2 := Lib.hid (HB1.out.trans (hb2.mono HB1.out.size)); clear hb2))
          go_ret2
          exact ⟨by rw [H.out]; rfl, HB2.out⟩
  · have HP := Lib.hid (fun W h => parse_no s hs (fun v hv => hp ⟨v, hv⟩) W h)
    have H : Hid (numOf s.data.toList = none) := by
      show numOf s.data.toList = none
      unfold numOf
      split
      · rename_i v hv; exact absurd ⟨v, hv⟩ hp
      · rfl
    have HN := Lib.hid hW
    clear hp hW
    go_enter Tryz.func82, Tryz.ntmps82
    go_wp2_with (go_at_call 105; refine (HP.out _ HN.out).mono ?_; rintro e w1 ⟨⟨x, tp, p, rfl⟩, hb1⟩; have HB1 := Lib.hid hb1; clear hb1)
    go_ret2
    exact ⟨by rw [H.out]; rfl, HB1.out⟩
end Go.Proofs.YtlffpelkmdcckaaGreatDoor
