/- What the reference's Remits tells of two rows of posts; are two rows of lines the same. -/
import Derived.Test.YtmjkkmfjpppehaaDoorRemits
namespace Go.Proofs.YtmjkkmfjpppehaaDoor
open Go.RowKit Go.Sup
set_option maxRecDepth 100000
set_option maxHeartbeats 1000000 in
theorem refRemits_any (fr to : ByteArray) (hfr : fr.size ≤ 1000) (hto : to.size ≤ 1000) (pa pb : List PostD) (va vb : Value) (w : World) (ha : PostsAt w w.heap.size pa va) (hb : PostsAt w w.heap.size pb vb) (fa : Fair pa) (fb : Fair pb) :
    Calls Tryd.prog 10 #[.string fr, .string to, va, vb] w fun e w' => ∃ v', e = .returned v' ∧ SlC w' w'.heap.size 1 (strRows (remitsS fr to pa pb)) v' ∧ Below w.heap.size w w' := by
  have H1 := Lib.hid (Moved_any pa va (vostro to) 1 w ha (.inl rfl) fa.am (Nat.le_trans fa.big (by omega)))
  have Hb := Lib.hid hb
  have Hfb := Lib.hid fb
  have Hfa := Lib.hid fa
  obtain ⟨rowsa, -, Aa, ca, rfl, -⟩ := ha
  obtain ⟨rowsb, -, Ab, cb, rfl, -⟩ := id hb
  clear hb fa fb
  go_enter Tryd.func10, Tryd.ntmps10
  go_wp2_with fail
  refine H1.out.mono ?_
  rintro e w1 ⟨v1, rfl, ho1, hb1⟩
  have H2 := Lib.hid (Moved_any pb _ (nostro fr) (-1) w1 ((Hb.out.below hb1).more hb1.size) (.inr rfl) Hfb.out.am (Nat.le_trans Hfb.out.big (by omega)))
  have Ho1 := Lib.hid ho1
  have Hb1 := Lib.hid hb1
  clear ho1 hb1
  go_wp2_with fail
  refine H2.out.mono ?_
  rintro e w2 ⟨v2, rfl, ho2, hb2⟩
  have hsz := hb2.size
  have hg : Tryd.prog.eqGuardType Tryd.prog.depth 62 = false := by kernel_rfl
  have ho1' := (Ho1.out.below hb2)
  obtain ⟨A1, c1, rfl, hn1, hc1, -⟩ := id ho1'
  obtain ⟨A2, c2, rfl, hn2, hc2, -⟩ := id ho2
  rw [List.length_map] at hn1 hn2
  have hl2 := mv_len_all (nostro fr) (-1) pb Hfb.out
  obtain ⟨sent, hsent⟩ : ∃ sent, sent = mv (vostro to) 1 pa := ⟨_, rfl⟩
  obtain ⟨got, hgot⟩ : ∃ got, got = mv (nostro fr) (-1) pb := ⟨_, rfl⟩
  have hrem : remitsS fr to pa pb = match firstBad sent got with | some i => [remLine fr to i] | none => [] := by rw [hsent, hgot]; rfl
  rw [← hsent] at hn1 ho1' ⊢
  rw [← hgot] at hn2 ho2 hl2 ⊢
  rw [List.length_map, List.length_map]
  rw [List.length_map] at ho1' ho2
  have Ho1' := Lib.hid ho1'
  have Ho2 := Lib.hid ho2
  have Hb2 := Lib.hid (Hb1.out.trans (hb2.mono Hb1.out.size))
  have Hrem := Lib.hid hrem
  unfold maxLen at hc1 hc2
  clear ho1' ho2 hb2 hsent hgot hrem H1 H2 Ho1 Hb1 Hb Hfa Hfb
  go_wp2
  go_loopw [11] (fun i wr => ∃ k : Nat, k ≤ got.length ∧ i = .int .i64 k ∧ Hid (Below w2.heap.size w2 wr) ∧ Hid (∀ j, j < k → badAt sent got j = false)) (fun i _ => got.length - (intOf i).toNat)
  case atStart => exact ⟨0, by omega, rfl, Below.refl _ _, fun j h => absurd h (by omega)⟩
  case round =>
    obtain ⟨k, hk, rfl, hbel, hok⟩ := hrel
    by_cases hlt : k < got.length
    · obtain ⟨m, hm⟩ : ∃ m, got[k]? = some m := ⟨_, List.getElem?_eq_getElem hlt⟩
      obtain ⟨b, off, hA, hb, hcell⟩ := (Ho2.out.below hbel.out).at_ (k := k) (r := m.row) (by simp [hm])
      subst hA
      have d0 : wr.cell? ⟨b, off + k * 2, none⟩ = some (.string m.currency) := hcell 0 _ rfl
      have d1 := hcell 1 (.int .i64 m.amount) rfl
      have Hm := Lib.hid hm
      clear hm hcell
      have hdg : (dig k).size ≤ 2 := dig_size k
      have hst : fr.size + 1 + to.size + 9 ≤ 10000 := by omega
      by_cases hks : k < sent.length
      · obtain ⟨s, hs⟩ : ∃ s, sent[k]? = some s := ⟨_, List.getElem?_eq_getElem hks⟩
        obtain ⟨b3, off3, hA3, hb3, hcell3⟩ := (Ho1'.out.below (hbel.out.mono hsz)).at_ (k := k) (r := s.row) (by simp [hs])
        subst hA3
        have q3 : b3 < wr.heap.size := by have := hbel.out.size; omega
        have s0 : wr.cell? ⟨b3, off3 + k * 2, none⟩ = some (.string s.currency) := hcell3 0 _ rfl
        have s1 := hcell3 1 (.int .i64 s.amount) rfl
        have Hs := Lib.hid hs
        have hne := fun W => neqM s m W
        clear hs hcell3
        have hge : decide (sent.length ≤ k) = false := by simp; omega
        go_wp2
        go_quiet (fail)
        go_wp2_with (go_at_call 27; refine (digits_any k (by omega) _).mono ?_; rintro e w' ⟨rfl, hbd⟩)
        · go_ret
          have hbad : (!sameM s m) = true := by assumption
          have hf : firstBad sent got = some k := firstBad_some hlt hok.out (by unfold badAt; rw [Hs.out, Hm.out]; exact hbad)
          have hr := Hrem.out
          rw [hf] at hr
          refine ⟨_, rfl, ?_, ?_⟩
          · rw [hr]; exact SlC.lit1 _ [.string (remLine fr to k)] 9 _ (by simp) (by simp)
          · exact Hb2.out.trans (((below_drewN hbel.out nq).trans (hbd.mono (by simp; have := hbel.out.size; omega)) |>.alloc (by have := hbel.out.size; have := hbd.size; simp at this; omega) _).mono Hb2.out.size)
        · go_roundw
          case rel =>
            have hbad : (!sameM s m) = false := by assumption
            refine ⟨k + 1, by omega, by go_num, below_drewN hbel.out nq, ?_⟩
            show ∀ j, j < k + 1 → badAt sent got j = false
            intro j hj
            by_cases h : j = k
            · subst h; unfold badAt; rw [Hs.out, Hm.out]; exact hbad
            · exact hok.out j (by omega)
          case measure => simp [intOf]; omega
      · have hge : decide (sent.length ≤ k) = true := by simp; omega
        go_wp2
        go_quiet (fail)
        go_wp2_with (go_at_call 27; refine (digits_any k (by omega) _).mono ?_; rintro e w' ⟨rfl, hbd⟩)
        go_ret
        have hf : firstBad sent got = some k := firstBad_some hlt hok.out (by unfold badAt; rw [List.getElem?_eq_none (by omega)])
        have hr := Hrem.out
        rw [hf] at hr
        refine ⟨_, rfl, ?_, ?_⟩
        · rw [hr]; exact SlC.lit1 _ [.string (remLine fr to k)] 9 _ (by simp) (by simp)
        · exact Hb2.out.trans (((below_drewN hbel.out nq).trans (hbd.mono (by simp; have := hbel.out.size; omega)) |>.alloc (by have := hbel.out.size; have := hbd.size; simp at this; omega) _).mono Hb2.out.size)
    · go_wp2
      go_ret
      have hk' : k = got.length := by omega
      have hf : firstBad sent got = none := firstBad_none (fun j hj => hok.out j (by omega))
      have hr := Hrem.out
      rw [hf] at hr
      refine ⟨_, rfl, ?_, Hb2.out.trans (hbel.out.mono Hb2.out.size)⟩
      rw [hr]; exact SlC.nil_ _ _ _

set_option maxHeartbeats 400000 in
theorem same_any (xs ys : List ByteArray) (va vb : Value) (w : World) (K L : Nat)
    (ha : SlC w K 1 (strRows xs) va) (hb : SlC w L 1 (strRows ys) vb) :
    Calls Tryd.prog 8 #[va, vb] w fun e w' => e = .returned (.bool (decide (xs = ys))) ∧ ∃ k, w' = w.drewN k := by
  obtain ⟨A, c, rfl, hn, hc, -⟩ := id ha
  obtain ⟨B, d, rfl, hm, hd, -⟩ := id hb
  simp only [strRows, List.length_map] at hn hm ⊢
  have ha' := ha
  have hb' := hb
  simp only [strRows, List.length_map] at ha' hb'
  unfold maxLen at hc hd
  clear ha hb
  by_cases hnm : xs.length = ys.length
  · have hne : ((xs.length : Int) != (ys.length : Int)) = false := by simp [hnm]
    have Hnm := Lib.hid hnm
    have Ha := Lib.hid ha'
    have Hb := Lib.hid hb'
    clear hnm ha' hb'
    go_enter Tryd.func8, Tryd.ntmps8
    go_wp2
    go_loopw [5] (fun i wr => ∃ k q : Nat, k ≤ xs.length ∧ i = .int .i64 k ∧ wr = w.drewN q ∧ Hid (xs.take k = ys.take k)) (fun i _ => xs.length - (intOf i).toNat)
    case atStart => exact ⟨0, 0, by omega, rfl, rfl, rfl⟩
    case round =>
      obtain ⟨k, q, hk, rfl, rfl, heq⟩ := hrel
      by_cases hlt : k < xs.length
      · obtain ⟨s, hs⟩ : ∃ s, xs[k]? = some s := ⟨_, List.getElem?_eq_getElem hlt⟩
        obtain ⟨t, ht⟩ : ∃ t, ys[k]? = some t := ⟨_, List.getElem?_eq_getElem (by have := Hnm.out; omega)⟩
        obtain ⟨b, off, hA, -, hcell⟩ := Ha.out.at_ (k := k) (r := [.string s]) (by simp [hs])
        obtain ⟨b2, off2, hB, -, hcell2⟩ := Hb.out.at_ (k := k) (r := [.string t]) (by simp [ht])
        subst hA; subst hB
        have d0 : w.cell? ⟨b, off + k * 1, none⟩ = some (.string s) := hcell 0 _ rfl
        have d1 : w.cell? ⟨b2, off2 + k * 1, none⟩ = some (.string t) := hcell2 0 _ rfl
        rw [Nat.mul_one] at d0 d1
        have hk2 : k < ys.length := by have := Hnm.out; omega
        have Hs := Lib.hid hs
        have Ht := Lib.hid ht
        clear hs ht hcell hcell2
        go_wp2
        go_quiet (fail)
        go_wp2
        · go_ret
          have hne : (!s.toList == t.toList) = true := by assumption
          refine ⟨?_, _, World.drewN_drewN _ _ _⟩
          have : xs ≠ ys := fun h => by
            have h1 := Hs.out; have h2 := Ht.out
            rw [h, h2] at h1
            cases h1
            simp at hne
          simp [this]
        · go_roundw
          case rel =>
            have he : (!s.toList == t.toList) = false := by assumption
            refine ⟨k + 1, _, by omega, by go_num, rfl, ?_⟩
            have h1 := Hs.out; have h2 := Ht.out
            have h3 : s = t := bs_ext (by simpa using he)
            show _ = _
            rw [List.take_add_one, List.take_add_one, h1, h2, h3, heq.out]
          case measure => simp [intOf]; omega
      · go_wp2
        go_ret
        refine ⟨?_, q, rfl⟩
        have := heq.out
        rw [List.take_of_length_le (by omega), List.take_of_length_le (by have := Hnm.out; omega)] at this
        simp [this]
  · have hne : ((xs.length : Int) != (ys.length : Int)) = true := by rw [bne_iff_ne]; omega
    go_enter Tryd.func8, Tryd.ntmps8
    go_wp2
    go_ret
    have : xs ≠ ys := fun h => hnm (by rw [h])
    exact ⟨by simp [this], 0, rfl⟩
end Go.Proofs.YtmjkkmfjpppehaaDoor
