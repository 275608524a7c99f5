/- The reference's Name, May and Text. -/
import Derived.Test.YtlffpelkmdcckaaGreatDoorText
namespace Go.Sup
open Go Go.RowKit
theorem all_take_succ {l : List UInt8} {k : Nat} (h : k < l.length) : (l.take (k + 1)).all nameCh = ((l.take k).all nameCh && nameCh l[k]) := by
  rw [List.take_succ_eq_append_getElem h, List.all_append]; simp
theorem nameOk_bad {l : List UInt8} {k : Nat} (h : k < l.length) (hb : nameCh l[k] = false) : nameOk l = false := by
  unfold nameOk
  have : l.all nameCh = false := by
    rw [List.all_eq_false]
    exact ⟨l[k], List.getElem_mem h, by rw [hb]; decide⟩
  rw [this]; simp
theorem nameCh_odd (b : UInt8) : nameCh b = !(oddR b.toNat) := by rw [odd_name]; simp
end Go.Sup
namespace Go.Proofs.YtlffpelkmdcckaaGreatDoor
open Go Go.RowKit Go.Sup
set_option maxRecDepth 100000
set_option maxHeartbeats 2000000 in
theorem refName_any (s : ByteArray) (hs : s.size ≤ 1000000000) (w : World) : Calls Tryz.prog 44 #[.string s] w fun e w' => e = .returned (.bool (nameOk s.data.toList)) ∧ w' = w := by
  have HL : Hid (s.data.toList.length = s.size) := Array.length_toList
  go_enter Tryz.func44, Tryz.ntmps44
  go_wp2
  go_loop [3] (fun i => ∃ k : Nat, k ≤ s.size ∧ i = .int .i64 k ∧ Hid ((s.data.toList.take k).all nameCh = true)) (fun i => s.size - (intOf i).toNat)
  case atStart => exact ⟨0, Nat.zero_le _, rfl, rfl⟩
  case round =>
    obtain ⟨k, hk, rfl, HA⟩ := hrel
    by_cases hlt : k < s.size
    · have hlt' : (k : Int) < (s.size : Int) := by omega
      have HB : Hid (nameCh s[k] = !(oddR s[k].toNat)) := nameCh_odd _
      have HG : Hid ((s.data.toList.take (k + 1)).all nameCh = nameCh s[k]) := by
        have := all_take_succ (l := s.data.toList) (k := k) (by rw [HL.out]; exact hlt)
        rw [HA.out] at this
        exact this
      have HX : Hid (nameCh s[k] = false → nameOk s.data.toList = false) := fun h => nameOk_bad (by rw [HL.out]; exact hlt) h
      have hu := UInt8.toNat_lt s[k]
      have hc : s[k].toNat < 45 ∨ s[k].toNat = 45 ∨ (45 < s[k].toNat ∧ s[k].toNat < 48) ∨ (48 ≤ s[k].toNat ∧ s[k].toNat ≤ 57) ∨ (57 < s[k].toNat ∧ s[k].toNat < 97) ∨ (97 ≤ s[k].toNat ∧ s[k].toNat ≤ 122) ∨ 122 < s[k].toNat := by omega
      rcases hc with h | h | ⟨h, h'⟩ | ⟨h, h'⟩ | ⟨h, h'⟩ | ⟨h, h'⟩ | h
      · have H : Hid (nameCh s[k] = false) := by show nameCh s[k] = false; rw [HB.out]; unfold oddR; simp; omega
        have a : (s[k].toNat : Int) < 45 := by omega
        have b : ((s[k].toNat : Int) != 45) = true := by simp; omega
        clear h
        go_wp2
        go_ret
        exact ⟨by rw [HX.out H.out]; rfl, rfl⟩
      · have H : Hid (nameCh s[k] = true) := by show nameCh s[k] = true; rw [HB.out, h]; rfl
        have a1 : (s[k].toNat : Int) < 97 := by omega
        have a2 : (s[k].toNat : Int) < 48 := by omega
        have b : ((s[k].toNat : Int) != 45) = false := by simp [h]
        clear h
        go_wp2
        go_round
        case rel => exact ⟨k + 1, hlt, by go_num, HG.out.trans H.out⟩
        case measure => simp [intOf]; omega
      · have H : Hid (nameCh s[k] = false) := by show nameCh s[k] = false; rw [HB.out]; unfold oddR; simp; omega
        have a : (s[k].toNat : Int) < 48 := by omega
        have b : ((s[k].toNat : Int) != 45) = true := by simp; omega
        clear h
        go_wp2
        go_ret
        exact ⟨by rw [HX.out H.out]; rfl, rfl⟩
      · have H : Hid (nameCh s[k] = true) := by show nameCh s[k] = true; rw [HB.out]; unfold oddR; simp; omega
        have a : ¬ (s[k].toNat : Int) < 48 := by omega
        have a2 : (s[k].toNat : Int) < 97 := by omega
        have a3 : ¬ (57 : Int) < (s[k].toNat : Int) := by omega
        clear h
        go_wp2
        go_round
        case rel => exact ⟨k + 1, hlt, by go_num, HG.out.trans H.out⟩
        case measure => simp [intOf]; omega
      · have H : Hid (nameCh s[k] = false) := by show nameCh s[k] = false; rw [HB.out]; unfold oddR; simp; omega
        have a : ¬ (s[k].toNat : Int) < 48 := by omega
        have a2 : (s[k].toNat : Int) < 97 := by omega
        have a3 : (57 : Int) < (s[k].toNat : Int) := by omega
        have b : ((s[k].toNat : Int) != 45) = true := by simp; omega
        clear h
        go_wp2
        go_ret
        exact ⟨by rw [HX.out H.out]; rfl, rfl⟩
      · have H : Hid (nameCh s[k] = true) := by show nameCh s[k] = true; rw [HB.out]; unfold oddR; simp; omega
        have a2 : ¬ (s[k].toNat : Int) < 97 := by omega
        have a3 : ¬ (122 : Int) < (s[k].toNat : Int) := by omega
        clear h
        go_wp2
        go_round
        case rel => exact ⟨k + 1, hlt, by go_num, HG.out.trans H.out⟩
        case measure => simp [intOf]; omega
      · have H : Hid (nameCh s[k] = false) := by show nameCh s[k] = false; rw [HB.out]; unfold oddR; simp; omega
        have a : ¬ (s[k].toNat : Int) < 48 := by omega
        have a2 : ¬ (s[k].toNat : Int) < 97 := by omega
        have a3 : (122 : Int) < (s[k].toNat : Int) := by omega
        have a4 : (57 : Int) < (s[k].toNat : Int) := by omega
        have b : ((s[k].toNat : Int) != 45) = true := by simp; omega
        clear h
        go_wp2
        go_ret
        exact ⟨by rw [HX.out H.out]; rfl, rfl⟩
    · obtain rfl : k = s.size := by omega
      have HN : Hid (nameOk s.data.toList = (decide (1 ≤ s.size) && decide (s.size ≤ 16))) := by
        show nameOk _ = _
        have := HA.out
        rw [← HL.out, List.take_length] at this
        unfold nameOk
        rw [this, HL.out]; simp
      clear hlt hk
      have e1 : (1 : Int) ≤ (s.size : Int) ∨ ¬ (1 : Int) ≤ (s.size : Int) := by omega
      have e2 : (s.size : Int) ≤ 16 ∨ ¬ (s.size : Int) ≤ 16 := by omega
      rcases e1 with e1 | e1
      · rcases e2 with e2 | e2
        · have HX : Hid (nameOk s.data.toList = true) := by show _ = _; rw [HN.out]; simp; omega
          go_wp2
          go_ret
          exact ⟨by rw [HX.out]; first | rfl | (simp; done) | (simp; omega), rfl⟩
        · have HX : Hid (nameOk s.data.toList = false) := by show _ = _; rw [HN.out]; simp; omega
          go_wp2
          go_ret
          exact ⟨by rw [HX.out]; first | rfl | (simp; done) | (simp; omega), rfl⟩
      · have HX : Hid (nameOk s.data.toList = false) := by show _ = _; rw [HN.out]; simp; omega
        go_wp2
        go_ret
        exact ⟨by rw [HX.out]; first | rfl | (simp; done) | (simp; omega), rfl⟩
set_option maxHeartbeats 800000 in
theorem refMay_any (f : Fld) (hs : f.1.size ≤ 1000000000) (w : World) : Calls Tryz.prog 60 #[.agg #[.string f.1, .string f.2]] w fun e w' => e = .returned (.bool (mayF f)) ∧ Below w.heap.size w w' := by
  obtain ⟨n, v⟩ := f
  have HF : Hid (mayF (n, v) = (nameOk n.data.toList && decide (v.size ≤ 4096))) := rfl
  have e1 : (v.size : Int) ≤ 4096 ∨ ¬ (v.size : Int) ≤ 4096 := by omega
  simp only at hs
  have HC := Lib.hid (refName_any n hs)
  cases hn : nameOk n.data.toList
  · rw [hn] at HC
    have HX : Hid (mayF (n, v) = false) := by show _ = _; rw [HF.out, hn]; rfl
    clear hn HF
    go_enter Tryz.func60, Tryz.ntmps60
    go_wp2_with fail
    refine (HC.out _).mono ?_
    rintro e w1 ⟨rfl, rfl⟩
    go_wp2
    go_ret
    exact ⟨by rw [HX.out]; rfl, (Below.refl _ _).alloc (Nat.le_refl _) _⟩
  · rw [hn] at HC
    rcases e1 with e1 | e1
    · have HX : Hid (mayF (n, v) = true) := by show _ = _; rw [HF.out, hn]; simp; omega
      clear hn HF
      go_enter Tryz.func60, Tryz.ntmps60
      go_wp2_with fail
      refine (HC.out _).mono ?_
      rintro e w1 ⟨rfl, rfl⟩
      go_wp2
      go_ret
      exact ⟨by rw [HX.out]; first | rfl | (simp; done) | (simp; omega), (Below.refl _ _).alloc (Nat.le_refl _) _⟩
    · have HX : Hid (mayF (n, v) = false) := by show _ = _; rw [HF.out, hn]; simp; omega
      clear hn HF
      go_enter Tryz.func60, Tryz.ntmps60
      go_wp2_with fail
      refine (HC.out _).mono ?_
      rintro e w1 ⟨rfl, rfl⟩
      go_wp2
      go_ret
      exact ⟨by rw [HX.out]; first | rfl | (simp; done) | (simp; omega), (Below.refl _ _).alloc (Nat.le_refl _) _⟩
theorem ba_add (a b : ByteArray) : (a ++ b).data.toList = a.data.toList ++ b.data.toList := by simp [ByteArray.data_append]
theorem ba_add_size (a b : ByteArray) : (a ++ b).size = a.size + b.size := by simp
theorem ba_ext_one (s : ByteArray) (j : Nat) (h : j < s.size) : (s.extract j (j + 1)).data.toList = [s[j]] := by
  have hl : j < s.data.toList.length := by rw [Array.length_toList]; exact h
  simp
  rw [List.drop_eq_getElem_cons (by simpa using hl)]
  simp
  rfl
theorem escL_take (s : ByteArray) (j : Nat) (h : j < s.size) : escL (s.data.toList.take (j + 1)) = escL (s.data.toList.take j) ++ escB s[j] := by
  rw [take_snoc' s j h, escL_snoc]
theorem escL_le (s : ByteArray) (j : Nat) : (escL (s.data.toList.take j)).length ≤ 2 * s.size := by
  rw [escL_len]
  have h1 : (s.data.toList.take j).length ≤ s.size := by rw [List.length_take, Array.length_toList]; exact Nat.min_le_right _ _
  have h2 : (s.data.toList.take j).countP special ≤ (s.data.toList.take j).length := List.countP_le_length
  omega
set_option maxHeartbeats 4000000 in
theorem refText_any (l : List Fld) (hs : ∀ f ∈ l, SmallF f) (w : World) (B : Nat) (v : Value) (hv : SlC w B 2 (l.map frow) v) (hB : B ≤ w.heap.size) :
    Calls Tryz.prog 24 #[v] w fun e w' => e = .returned (.tuple #[.string (textS l), .int .i64 (textE l)]) ∧ Below w.heap.size w w' := by
  obtain ⟨A, c, rfl, hn, hc, -⟩ := id hv
  rw [List.length_map] at hn hv ⊢
  unfold maxLen at hc
  have Hv := Lib.hid hv
  have Hs := Lib.hid hs
  clear hv hs
  by_cases h64 : 64 < l.length
  · have h64' : (64 : Int) < (l.length : Int) := by omega
    have HE : Hid (textE l = 7) := by show textE l = 7; simp [textE, h64]
    have HT : Hid (textS l = ⟨#[]⟩) := by show textS l = ⟨#[]⟩; unfold textS; rw [HE.out]; rfl
    clear h64
    go_enter Tryz.func24, Tryz.ntmps24
    go_wp2
    go_ret2
    exact ⟨by rw [HE.out, HT.out]; rfl, Below.refl _ _⟩
  · have h64' : ¬ (64 : Int) < (l.length : Int) := by omega
    go_enter Tryz.func24, Tryz.ntmps24
    go_wp2
    go_loopw [4, 5] (fun s4 i wr => ∃ (k : Nat) (t : ByteArray), k ≤ l.length ∧ i = .int .i64 k ∧ s4 = .string t ∧ t.size ≤ 200000000 ∧ Hid (t.data.toList = textL (l.take k)) ∧ Hid (∀ f ∈ l.take k, mayF f = true) ∧ Hid (Below w.heap.size w wr)) (fun _ i _ => l.length - (intOf i).toNat)
    case atStart => exact ⟨0, ⟨#[]⟩, Nat.zero_le _, rfl, rfl, by decide, rfl, (by intro f hf; simp at hf), Below.refl _ _⟩
    case round =>
      obtain ⟨k, t, hk, rfl, rfl, ht, HT, Hm, H⟩ := hrel
      have hsz := H.out.size
      by_cases hlt : k < l.length
      · have hlk : l[k]? = some l[k] := List.getElem?_eq_getElem hlt
        have HL : Hid (SlC wr B 2 (l.map frow) (.slice A l.length c)) := Hv.out.keep fun p hp => H.out.cell (by omega)
        obtain ⟨b0, off, rfl, hb0, c0, c1⟩ := fld_at HL.out hlk
        have hlt' : (k : Int) < (l.length : Int) := by omega
        obtain ⟨f, hf⟩ : ∃ f, f = l[k] := ⟨_, rfl⟩
        rw [← hf] at c0 c1
        have Hf := Lib.hid (And.intro hf hlk)
        have HS : Hid (SmallF f) := Hs.out f (by rw [hf]; exact List.getElem_mem hlt)
        have HTL : Hid ((textL (l.take (k + 1))).length ≤ 192000128) := by
          have h1 := textL_le (l.take (k + 1)) (fun g hg => Hs.out g (List.mem_of_mem_take hg))
          have h4 : (l.take (k + 1)).length ≤ 64 := by rw [List.length_take]; omega
          exact Nat.le_trans h1 (Nat.le_trans (Nat.mul_le_mul_right _ h4) (by decide))
        have HTS : Hid (textL (l.take (k + 1)) = textL (l.take k) ++ lineL f) := by
          show _ = _
          rw [List.take_succ_eq_append_getElem hlt, textL_snoc, ← hf]
        clear hf hlk
        go_wp2_with fail
        refine (refMay_any f (by have := HS.out.1; omega) _).mono ?_
        rintro e w1 ⟨rfl, hb1⟩
        have HB1 : Hid (Below w.heap.size w w1) := H.out.trans (hb1.mono hsz)
        have hbw : b0 < wr.heap.size := by omega
        have c0 := ((bcell hb1).1 _ _ hbw).trans c0
        have c1 := ((bcell hb1).1 _ _ hbw).trans c1
        clear hb1
        cases hmf : mayF f
        · have HMF := Lib.hid hmf
          clear hmf
          have HE : Hid (textE l = 1) := by
            show textE l = 1
            unfold textE
            rw [if_neg (by omega), if_neg]
            intro h
            rw [List.all_eq_true] at h
            have := h f (by rw [Hf.out.1]; exact List.getElem_mem hlt)
            rw [HMF.out] at this
            cases this
          have HTX : Hid (textS l = ⟨#[]⟩) := by show textS l = ⟨#[]⟩; unfold textS; rw [HE.out]; rfl
          go_wp2
          go_ret2
          exact ⟨by rw [HE.out, HTX.out]; rfl, HB1.out⟩
        · have HMF := Lib.hid hmf
          clear hmf
          have hs1 : f.1.size ≤ 1000000 := HS.out.1
          have hs2 : f.2.size ≤ 1000000 := HS.out.2
          have g1 : ¬ 9223372036854775807 < f.1.size + 1 := by omega
          have g2 : ¬ 9223372036854775807 < t.size + (f.1.size + 1) := by omega
          go_wp2
          obtain ⟨t1, ht1⟩ : ∃ t1 : ByteArray, t1 = t ++ (f.1 ++ ⟨#[61]⟩) := ⟨_, rfl⟩
          rw [← ht1]
          have HT1 : Hid (t1.data.toList = textL (l.take k) ++ (f.1.data.toList ++ [61])) := by
            show _ = _
            rw [ht1, ba_add, ba_add, HT.out]
          have hz1 : t1.size ≤ 201000001 := by rw [ht1, ba_add_size, ba_add_size]; show _ + (_ + 1) ≤ _; omega
          clear ht1
          go_loop [4, 6] (fun s4 i => ∃ (j : Nat) (u : ByteArray), j ≤ f.2.size ∧ i = .int .i64 j ∧ s4 = .string u ∧ u.size ≤ 201000001 + 2 * j ∧ Hid (u.data.toList = t1.data.toList ++ escL (f.2.data.toList.take j))) (fun _ i => f.2.size - (intOf i).toNat)
          case atStart => exact ⟨0, t1, Nat.zero_le _, rfl, rfl, by omega, (by show _ = _; simp [escL])⟩
          case round =>
            obtain ⟨j, u, hj, rfl, rfl, hu, HU⟩ := hrel
            by_cases hjl : j < f.2.size
            · have hjl' : (j : Int) < (f.2.size : Int) := by omega
              have HJ := Lib.hid (escL_take f.2 j hjl)
              have g1 : ¬ 9223372036854775807 < u.size + 2 := by omega
              have hub := UInt8.toNat_lt f.2[j]
              by_cases h92 : f.2[j] = 92
              · have e1 : ((f.2[j].toNat : Int) == 92) = true := by rw [h92]; rfl
                have HE : Hid (escB f.2[j] = [92, 92]) := by show _ = _; rw [h92]; rfl
                clear h92
                go_wp2
                go_round
                case rel =>
                  refine ⟨j + 1, _, hjl, by go_num, rfl, ?_, ?_⟩
                  · rw [ba_add_size]; show _ + 2 ≤ _; omega
                  · show _ = _
                    rw [ba_add, HU.out, HJ.out, HE.out, List.append_assoc]
                case measure => simp [intOf]; omega
              · have e1 : ((f.2[j].toNat : Int) == 92) = false := by
                  have : ¬ f.2[j].toNat = 92 := fun h => h92 (UInt8.toNat_inj.1 h)
                  simp; omega
                by_cases h10 : f.2[j] = 10
                · have e2 : ((f.2[j].toNat : Int) == 10) = true := by rw [h10]; rfl
                  have HE : Hid (escB f.2[j] = [92, 110]) := by show _ = _; rw [h10]; rfl
                  clear h92 h10
                  go_wp2
                  go_round
                  case rel =>
                    refine ⟨j + 1, _, hjl, by go_num, rfl, ?_, ?_⟩
                    · rw [ba_add_size]; show _ + 2 ≤ _; omega
                    · show _ = _
                      rw [ba_add, HU.out, HJ.out, HE.out, List.append_assoc]
                  case measure => simp [intOf]; omega
                · have e2 : ((f.2[j].toNat : Int) == 10) = false := by
                    have : ¬ f.2[j].toNat = 10 := fun h => h10 (UInt8.toNat_inj.1 h)
                    simp; omega
                  have HE : Hid (escB f.2[j] = [f.2[j]]) := by show _ = _; simp [escB, h92, h10]
                  have HX := Lib.hid (ba_ext_one f.2 j hjl)
                  have hxs : (f.2.extract j (j + 1)).size = 1 := by
                    have := congrArg List.length HX.out
                    rw [Array.length_toList] at this
                    exact this
                  have g2 : ¬ 9223372036854775807 < u.size + (f.2.extract j (j + 1)).size := by omega
                  have HXS := Lib.hid hxs
                  clear h92 h10 hxs
                  go_wp2
                  go_round
                  case rel =>
                    refine ⟨j + 1, _, hjl, by go_num, rfl, ?_, ?_⟩
                    · rw [ba_add_size, HXS.out]; omega
                    · show _ = _
                      rw [ba_add, HU.out, HJ.out, HE.out, HX.out, List.append_assoc]
                  case measure => simp [intOf]; omega
            · obtain rfl : j = f.2.size := by omega
              clear hjl hj
              have g1 : ¬ 9223372036854775807 < u.size + 1 := by omega
              have HF : Hid ((u ++ ⟨#[10]⟩).data.toList = textL (l.take (k + 1))) := by
                show _ = _
                have e : f.2.data.toList.take f.2.size = f.2.data.toList := List.take_of_length_le (by rw [Array.length_toList]; exact Nat.le_refl _)
                rw [ba_add, HU.out, HT1.out, HTS.out, e]
                simp [lineL]
              have hFS : (u ++ ⟨#[10]⟩ : ByteArray).size ≤ 200000000 := by
                have h1 := congrArg List.length HF.out
                rw [Array.length_toList] at h1
                have h2 := HTL.out
                have h3 : (u ++ ⟨#[10]⟩ : ByteArray).data.size = (u ++ ⟨#[10]⟩ : ByteArray).size := rfl
                omega
              have HFS := Lib.hid hFS
              clear hFS
              go_wp2
              go_roundw
              case rel =>
                refine ⟨k + 1, _, hlt, by go_num, rfl, HFS.out, HF.out, ?_, HB1.out⟩
                intro g hg
                rw [List.take_succ_eq_append_getElem hlt] at hg
                rcases List.mem_append.1 hg with hg | hg
                · exact Hm.out g hg
                · simp at hg; rw [hg, ← Hf.out.1]; exact HMF.out
              case measure => simp [intOf]; omega
      · obtain rfl : k = l.length := by omega
        have HE : Hid (textE l = 0) := by
          show textE l = 0
          unfold textE
          rw [if_neg (by omega), if_pos]
          rw [List.all_eq_true]
          have := Hm.out
          rw [List.take_length] at this
          exact this
        have HTX : Hid (textS l = t) := by
          show textS l = t
          unfold textS; rw [if_pos HE.out]
          have := HT.out
          rw [List.take_length] at this
          rw [← this]
        clear hlt hk
        go_wp2
        go_ret2
        exact ⟨by rw [HE.out, HTX.out]; rfl, H.out⟩
end Go.Proofs.YtlffpelkmdcckaaGreatDoor
