/- FieldGets: the walk. -/
import Derived.Test.YtnohmhemniopoaaAwake5
import Derived.Test.YtnohmhemniopoaaLong
import Derived.Test.YtnohmhemniopoaaSet
namespace Go.Proofs.Ytnohmhemniopoaa
open Go Go.RowKit Go.Sup
set_option maxRecDepth 100000
theorem refl_frows (l : List Fld) : frowsEq l l = true := by simp [frowsEq]
set_option maxHeartbeats 4000000 in
theorem fieldGets_any (l : List Fld) (n x o : ByteArray) (w : World) (v : Value) (hv : SlC w w.heap.size 2 (l.map frow) v) :
    Calls Try.prog 5 #[v, .string n, .string x, .string o] w fun e w' => e = .returned (.bool true) ∧ Below w.heap.size w w' := by
  have CL : Hid (∀ W, Below w.heap.size w W → Calls Try.prog 6 #[v] W fun e w' => e = .returned (.bool (longB l)) ∧ Below W.heap.size W w') := fun W h => long_any l W w.heap.size v (hv.below h) h.size
  have HV := Lib.hid hv
  obtain ⟨A, c, rfl, hn, hcc, -⟩ := id hv
  rw [List.length_map] at CL HV hn ⊢
  clear hv
  cases hl : longB l
  · rw [hl] at CL
    have hlen := (long_small hl).1
    clear hl
    have e1 : (100 : Int) < (n.size : Int) ∨ ¬ (100 : Int) < (n.size : Int) := by omega
    have e2 : (200 : Int) < (x.size : Int) ∨ ¬ (200 : Int) < (x.size : Int) := by omega
    have e3 : (100 : Int) < (o.size : Int) ∨ ¬ (100 : Int) < (o.size : Int) := by omega
    rcases e1 with e1 | e1
    · go_enter Try.func5, Try.ntmps5
      go_wp2_with fail
      refine (CL.out _ (Below.refl _ _)).mono ?_
      rintro e w1 ⟨rfl, hb1⟩
      have HB1 := Lib.hid hb1
      clear hb1
      go_wp2_with fail
      refine (awake_any _).mono ?_
      rintro e w2 ⟨rfl, hb2⟩
      have HB2 : Hid (Below w.heap.size w w2) := HB1.out.trans (hb2.mono HB1.out.size)
      clear hb2
      go_wp2
      go_ret
      exact ⟨rfl, HB2.out⟩
    · rcases e2 with e2 | e2
      · go_enter Try.func5, Try.ntmps5
        go_wp2_with fail
        refine (CL.out _ (Below.refl _ _)).mono ?_
        rintro e w1 ⟨rfl, hb1⟩
        have HB1 := Lib.hid hb1
        clear hb1
        go_wp2_with fail
        refine (awake_any _).mono ?_
        rintro e w2 ⟨rfl, hb2⟩
        have HB2 : Hid (Below w.heap.size w w2) := HB1.out.trans (hb2.mono HB1.out.size)
        clear hb2
        go_wp2
        go_ret
        exact ⟨rfl, HB2.out⟩
      · rcases e3 with e3 | e3
        · go_enter Try.func5, Try.ntmps5
          go_wp2_with fail
          refine (CL.out _ (Below.refl _ _)).mono ?_
          rintro e w1 ⟨rfl, hb1⟩
          have HB1 := Lib.hid hb1
          clear hb1
          go_wp2_with fail
          refine (awake_any _).mono ?_
          rintro e w2 ⟨rfl, hb2⟩
          have HB2 : Hid (Below w.heap.size w w2) := HB1.out.trans (hb2.mono HB1.out.size)
          clear hb2
          go_wp2
          go_ret
          exact ⟨rfl, HB2.out⟩
        · obtain ⟨s1, hs1⟩ : ∃ s1, s1 = getS l n := ⟨_, rfl⟩
          obtain ⟨b1, hb1⟩ : ∃ b1, b1 = getB l n := ⟨_, rfl⟩
          obtain ⟨s2, hs2⟩ : ∃ s2, s2 = getS l o := ⟨_, rfl⟩
          obtain ⟨b2, hb2⟩ : ∃ b2, b2 = getB l o := ⟨_, rfl⟩
          obtain ⟨s3, hs3⟩ : ∃ s3, s3 = getS (setF l n x) o := ⟨_, rfl⟩
          obtain ⟨b3, hb3⟩ : ∃ b3, b3 = getB (setF l n x) o := ⟨_, rfl⟩
          have HO : Hid (o = n ∨ (s3 = s2 ∧ b3 = b2)) := by
            by_cases h : o = n
            · exact .inl h
            · right
              rw [hs3, hs2, hb3, hb2]
              unfold getS getB
              rw [setF_other l n x o h]
              exact ⟨rfl, rfl⟩
          have HG1 : Hid (∀ W, Below w.heap.size w W → Calls Try.prog 15 #[.slice A l.length c, .string n] W fun e w' => e = .returned (.tuple #[.string s1, .bool b1]) ∧ Below W.heap.size W w') := fun W h => by rw [hs1, hb1]; exact get_any l n W w.heap.size _ (HV.out.below h) h.size
          have HG2 : Hid (∀ W, Below w.heap.size w W → Calls Try.prog 15 #[.slice A l.length c, .string o] W fun e w' => e = .returned (.tuple #[.string s2, .bool b2]) ∧ Below W.heap.size W w') := fun W h => by rw [hs2, hb2]; exact get_any l o W w.heap.size _ (HV.out.below h) h.size
          have HR1 : Hid (∀ W, Below w.heap.size w W → Calls Try.prog 16 #[.slice A l.length c, .string n] W fun e w' => e = .returned (.tuple #[.string s1, .bool b1]) ∧ w' = W) := fun W h => by rw [hs1, hb1]; exact refGet_any l n W w.heap.size _ (HV.out.below h)
          have HG3 : Hid (∀ W v', SlC W W.heap.size 2 ((setF l n x).map frow) v' → Calls Try.prog 15 #[v', .string n] W fun e w' => e = .returned (.tuple #[.string x, .bool true]) ∧ Below W.heap.size W w') := fun W v' h => by
            have := get_any (setF l n x) n W W.heap.size v' h (Nat.le_refl _)
            unfold getS getB at this
            rw [setF_get] at this
            exact this
          have HG4 : Hid (∀ W v', SlC W W.heap.size 2 ((setF l n x).map frow) v' → Calls Try.prog 15 #[v', .string o] W fun e w' => e = .returned (.tuple #[.string s3, .bool b3]) ∧ Below W.heap.size W w') := fun W v' h => by rw [hs3, hb3]; exact get_any (setF l n x) o W W.heap.size v' h (Nat.le_refl _)
          clear hs1 hb1 hs2 hb2 hs3 hb3
          go_enter Try.func5, Try.ntmps5
          go_wp2_with fail
          refine (CL.out _ (Below.refl _ _)).mono ?_
          rintro e w1 ⟨rfl, hb1⟩
          have HB1 := Lib.hid hb1
          have hz1 := hb1.size
          clear hb1
          go_wp2_with (at_builtin; go_must (refine wpList_appN _ rfl (.tmp 39) (.tmp 40) 22 rfl elFlds w.heap.size [] _ rfl ((OwnC.empty_ 42 2 hz1)) w.heap.size (l.map frow) _ rfl ((HV.out.below HB1.out).alloc hz1 _) (frow_len l) (frow_one l) ?_ ?_ ?_ ?_))
          · simp; omega
          · unfold maxLen; simp; omega
          · simp; omega
          · intro vw w2 ho2 hg2 hb2 _
            have HW : Hid (OwnC w2 w.heap.size 42 2 (l.map frow) vw ∧ Below w.heap.size w w2) := ⟨by simpa using ho2, (HB1.out.alloc hz1 _).trans hb2⟩
            clear ho2 hg2 hb2
            obtain ⟨Aw, cw, hvw, -⟩ := id HW.out.1.sl
            rw [List.length_map] at hvw
            subst hvw
            go_wp2_with fail
            refine (HG1.out _ HW.out.2).mono ?_
            rintro e w3 ⟨rfl, hb3⟩
            have HB3 : Hid (Below w.heap.size w w3) := HW.out.2.trans (hb3.mono HW.out.2.size)
            have HW3 : Hid (SlC w3 w3.heap.size 2 (l.map frow) (.slice Aw l.length cw)) := (HW.out.1.below hb3).sl
            clear hb3
            go_wp2_with fail
            refine (HR1.out _ HB3.out).mono ?_
            rintro e w4 ⟨rfl, rfl⟩
            go_wp2_with fail
            refine (set_any l n x _ _ w.heap.size HB3.out.size (HV.out.below HB3.out) (by omega)).mono ?_
            rintro e w5 ⟨v5, rfl, ho5, hb5⟩
            have HB5 : Hid (Below w.heap.size w w5) := HB3.out.trans (hb5.mono HB3.out.size)
            have HW5 : Hid (SlC w5 w5.heap.size 2 (l.map frow) (.slice Aw l.length cw)) := (HW3.out.below hb5).more hb5.size
            have HO5 := Lib.hid ho5
            clear hb5 ho5
            obtain ⟨A5, c5, hv5, -⟩ := id HO5.out.sl
            rw [List.length_map] at hv5
            subst hv5
            go_wp2_with fail
            refine (refSet_any l n x _ _ w.heap.size HB5.out.size (HV.out.below HB5.out) (by omega)).mono ?_
            rintro e w6 ⟨v6, rfl, ho6, hb6⟩
            have HB6 : Hid (Below w.heap.size w w6) := HB5.out.trans (hb6.mono HB5.out.size)
            have HW6 : Hid (SlC w6 w6.heap.size 2 (l.map frow) (.slice Aw l.length cw)) := (HW5.out.below hb6).more hb6.size
            have HS6 : Hid (SlC w6 w6.heap.size 2 ((setF l n x).map frow) (.slice A5 (setF l n x).length c5)) := (HO5.out.sl.below hb6).more hb6.size
            have HO6 := Lib.hid ho6.sl
            clear hb6 ho6
            obtain ⟨A6, c6, hv6, -⟩ := id HO6.out
            rw [List.length_map] at hv6
            subst hv6
            go_wp2_with fail
            refine (refSame_any (setF l n x) (setF l n x) _ w6.heap.size _ _ HS6.out HO6.out).mono ?_
            rintro e w7 ⟨rfl, q7, rfl⟩
            rw [refl_frows]
            go_wp2_with fail
            refine (refSame_any l l (w6.drewN q7) w6.heap.size _ _ (((HV.out.below HB6.out).more HB6.out.size).drewN q7) (HW6.out.drewN q7)).mono ?_
            rintro e w8 ⟨rfl, q8, rfl⟩
            rw [refl_frows]
            go_wp2_with fail
            refine (HG3.out (w6.drewN (q7 + q8)) _ (HS6.out.drewN (q7 + q8))).mono ?_
            rintro e w9 ⟨rfl, hb9⟩
            have HB9 : Hid (Below w.heap.size w w9) := (below_drewN HB6.out (q7 + q8)).trans (hb9.mono HB6.out.size)
            have HS9 : Hid (SlC w9 w9.heap.size 2 ((setF l n x).map frow) (.slice A5 (setF l n x).length c5)) := ((HS6.out.drewN (q7 + q8)).below hb9).more hb9.size
            clear hb9
            go_wp2_with fail
            refine (HG2.out _ HB9.out).mono ?_
            rintro e w10 ⟨rfl, hb10⟩
            have HB10 : Hid (Below w.heap.size w w10) := HB9.out.trans (hb10.mono HB9.out.size)
            have HS10 : Hid (SlC w10 w10.heap.size 2 ((setF l n x).map frow) (.slice A5 (setF l n x).length c5)) := (HS9.out.below hb10).more hb10.size
            clear hb10
            go_wp2_with fail
            refine (HG4.out _ _ HS10.out).mono ?_
            rintro e w11 ⟨rfl, hb11⟩
            have HB11 : Hid (Below w.heap.size w w11) := HB10.out.trans (hb11.mono HB10.out.size)
            clear hb11
            by_cases hon : o = n
            · subst hon
              go_wp2_with fail
              refine (awake_any _).mono ?_
              rintro e w12 ⟨rfl, hb12⟩
              have HB12 : Hid (Below w.heap.size w w12) := HB11.out.trans (hb12.mono HB11.out.size)
              clear hb12
              go_wp2
              go_ret
              exact ⟨rfl, HB12.out⟩
            · obtain ⟨rfl, rfl⟩ := HO.out.resolve_left hon
              have z1 := bs_ne hon
              have z2 := bs_ne' hon
              clear hon
              go_wp2_with fail
              refine (awake_any _).mono ?_
              rintro e w12 ⟨rfl, hb12⟩
              have HB12 : Hid (Below w.heap.size w w12) := HB11.out.trans (hb12.mono HB11.out.size)
              clear hb12
              go_wp2
              go_ret
              exact ⟨rfl, HB12.out⟩
  · rw [hl] at CL
    clear hl
    go_enter Try.func5, Try.ntmps5
    go_wp2_with fail
    refine (CL.out _ (Below.refl _ _)).mono ?_
    rintro e w1 ⟨rfl, hb1⟩
    have HB1 := Lib.hid hb1
    clear hb1
    go_wp2_with fail
    refine (awake_any _).mono ?_
    rintro e w2 ⟨rfl, hb2⟩
    have HB2 : Hid (Below w.heap.size w w2) := HB1.out.trans (hb2.mono HB1.out.size)
    clear hb2
    go_wp2
    go_ret
    exact ⟨rfl, HB2.out⟩
end Go.Proofs.Ytnohmhemniopoaa
