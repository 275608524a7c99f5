/- What audit's moved gives of a ledger's posts: the reference's Moved. -/
import Derived.Test.YtmjkkmfjpppehaaDoorLeaf
import Derived.Test.YtmjkkmfjpppehaaDoorOwn
import Derived.Test.YtmjkkmfjpppehaaDoorMoved
namespace Go.Proofs.YtmjkkmfjpppehaaDoor
open Go.RowKit Go.Sup
set_option maxRecDepth 100000
theorem sum_mem : ∀ (ps : List PostD) (p : PostD), p ∈ ps → p.entries.length ≤ (ps.map fun p => p.entries.length).sum
  | q :: ps, p, h => by
    rcases List.mem_cons.1 h with rfl | h
    · simp
    · have := sum_mem ps p h; simp; omega

set_option maxHeartbeats 1000000 in
theorem movedP_any (ps : List PostD) (pv : Value) (b : Nat) (acc : ByteArray) (w : World) (B : Nat) (hB : B ≤ w.heap.size) (hc : w.cell? ⟨b, 2, none⟩ = some pv) (ha : PostsAt w B ps pv)
    (ham : ∀ p ∈ ps, ∀ e ∈ p.entries, -1099511627776 ≤ e.amount ∧ e.amount ≤ 1099511627776)
    (hbig : (ps.map fun p => p.entries.length).sum ≤ 1000000) (hps : ps.length ≤ 1000000) :
    Calls Tryd.prog 22 #[.pointer (some ⟨b, 0, none⟩), .string acc, .func (.func 23) #[] #[]] w fun e w' => ∃ v', e = .returned v' ∧ SlC w' w'.heap.size 2 ((mv acc 1 ps).map MoneyD.row) v' ∧ Below w.heap.size w w' := by
  have hbe : ∀ p ∈ ps, p.entries.length * 40 ≤ 140737488355328 := fun p hp => by have := sum_mem ps p hp; omega
  have HP := Lib.hid (posts_any ps pv w b B hB hc ha (by omega) hbe)
  have HlenH := Lib.hid (fun k m => Nat.le_trans (mv_len acc 1 ps k m) hbig)
  have Ham := Lib.hid ham
  clear hc ha ham hbig hbe
  go_enter Tryd.func22, Tryd.ntmps22
  go_wp2_with fail
  refine HP.out.mono ?_
  rintro e w1 ⟨v1, rfl, ho1, hb1⟩
  obtain ⟨rows, hf, hs⟩ := ho1
  have hll : ps.length = rows.length := hf.len
  obtain ⟨A, c, rfl, hn, hc, -⟩ := id hs
  rw [← hll] at hs hn ⊢
  unfold maxLen at hc
  have Hll := Lib.hid hll
  have Hs := Lib.hid hs
  have Hf := Lib.hid hf
  have Hb1 := Lib.hid hb1
  clear hll hs hf hb1
  go_wp2
  go_loopw [15, 7, 9, 11] (fun i v _ _ wr => ∃ k : Nat, k ≤ ps.length ∧ i = .int .i64 k ∧ Hid (OwnC wr w1.heap.size 62 2 ((mv acc 1 (ps.take k)).map MoneyD.row) v) ∧ Hid (Below w1.heap.size w1 wr)) (fun i _ _ _ _ => ps.length - (intOf i).toNat)
  case atStart => exact ⟨0, by omega, rfl, OwnC.nil_ _ _ _ _, Below.refl _ _⟩
  case round =>
    obtain ⟨k, hk, rfl, hown, hbel⟩ := hrel
    by_cases hlt : k < ps.length
    · obtain ⟨p, hp⟩ : ∃ p, ps[k]? = some p := ⟨_, List.getElem?_eq_getElem hlt⟩
      obtain ⟨r, hr, v2, hrow, hse⟩ := Hf.out.at_ hp
      obtain ⟨b, off, hA, hb, hcell⟩ := (Hs.out.below hbel.out).at_ hr
      subst hA
      obtain ⟨Ae, ce, hv2, hne, hce, -⟩ := id hse
      rw [List.length_map] at hv2 hne
      subst hv2
      have c0 : wr.cell? ⟨b, off + k * 3, none⟩ = some (.int .i64 p.number) := hcell 0 _ (by rw [hrow]; rfl)
      have c1 : wr.cell? ⟨b, off + k * 3 + 1, none⟩ = some (.string p.text) := hcell 1 _ (by rw [hrow]; rfl)
      have c2 : wr.cell? ⟨b, off + k * 3 + 2, none⟩ = some (.slice Ae p.entries.length ce) := hcell 2 _ (by rw [hrow]; rfl)
      unfold maxLen at hce
      have Hp := Lib.hid hp
      have Hse := Lib.hid hse
      clear hp hr hcell hrow hse
      go_wp2
      go_loopw [22, 7, 11] (fun j v _ wr => ∃ m : Nat, m ≤ p.entries.length ∧ j = .int .i64 m ∧ Hid (OwnC wr w1.heap.size 62 2 ((mv acc 1 (ps.take k) ++ mvEs acc 1 (p.entries.take m)).map MoneyD.row) v) ∧ Hid (Below w1.heap.size w1 wr)) (fun i _ _ _ => p.entries.length - (intOf i).toNat)
      case atStart => 
        refine ⟨0, by omega, rfl, ?_, ?_⟩
        · show OwnC _ _ _ _ _ _
          simpa [mvEs] using hown.out.alloc _
        · exact hbel.out.alloc hbel.out.size _
      case round =>
        obtain ⟨m, hm, rfl, hown2, hbel2⟩ := hrel
        by_cases hlt2 : m < p.entries.length
        · obtain ⟨e, he⟩ : ∃ e, p.entries[m]? = some e := ⟨_, List.getElem?_eq_getElem hlt2⟩
          obtain ⟨be, oe, hAe, hbe, hcell2⟩ := (Hse.out.below hbel2.out).at_ (k := m) (r := e.row) (by simp [he])
          subst hAe
          have d0 : wr.cell? ⟨be, oe + m * 3, none⟩ = some (.string e.account) := hcell2 0 _ rfl
          have d1 := hcell2 1 (.string e.currency) rfl
          have d2 := hcell2 2 (.int .i64 e.amount) rfl
          obtain ⟨am1, am2⟩ := Ham.out p (List.mem_of_getElem? Hp.out) e (List.mem_of_getElem? he)
          have He := Lib.hid he
          clear he hcell2
          have Hst := Lib.hid (mvEs_snoc acc 1 He.out)
          by_cases hacc : e.account = acc ∧ 0 < e.amount
          · obtain ⟨hacc, hpos⟩ := hacc
            have hq : (e.account.toList == acc.toList) = true := by simp [hacc]
            have hmve : mvE acc 1 e = [⟨e.currency, e.amount * 1⟩] := by rw [mvE, if_pos ⟨hacc, by omega⟩]
            have Hmve := Lib.hid hmve
            clear hacc hmve
            have Hb := hbel2.out.size
            have Hl : (mv acc 1 (ps.take k)).length + (mvEs acc 1 (p.entries.take m)).length ≤ 1000000 := by have := HlenH.out k m; rw [Hp.out] at this; exact this
            go_wp2_with (first | (go_at_call 23; refine (pos_any _ _).mono ?_; rintro e w' ⟨rfl, rfl⟩) | (at_builtin; go_must (refine wpList_app1 _ rfl (.tmp 36) (.tmp 46) 58 rfl Tryd.el58 w1.heap.size ((mv acc 1 (ps.take k) ++ mvEs acc 1 (p.entries.take m)).map MoneyD.row) _ rfl (wr.alloc (.cells #[.string e.account, .string e.currency, .int .i64 e.amount] 57)) [.string e.currency, .int .i64 (e.amount * 1)] 62 ?_ (hown2.out.alloc _) _ 1 rfl ?_ rfl ?_ ?_ ?_ ?_ ?_)))
            · have : e.amount * 1 = e.amount := by omega
              rw [this]
            · simp
            · intro u hu; simp at hu; rcases hu with rfl | rfl <;> rfl
            · simp; omega
            · unfold maxLen; simp; omega
            · simp; omega
            · intro v' w' ho' hb' hz' _
              go_wp2
              go_roundw
              case rel =>
                refine ⟨m + 1, by omega, by go_num, ?_, ?_⟩
                · show OwnC _ _ _ _ _ _
                  rw [Hst.out, Hmve.out]
                  simpa [MoneyD.row] using ho'
                · show Below _ _ _
                  exact ((hbel2.out.alloc hbel2.out.size _).alloc (by simp; omega) _).trans hb'
              case measure => simp [intOf]; omega
          · have hmve : mvE acc 1 e = [] := by rw [mvE, if_neg (fun h => hacc ⟨h.1, by omega⟩)]
            have Hmve := Lib.hid hmve
            clear hmve
            by_cases h1 : e.account = acc
            · have hq : (e.account.toList == acc.toList) = true := by simp [h1]
              have hpos : ¬ 0 < e.amount := fun h => hacc ⟨h1, h⟩
              clear h1 hacc
              go_wp2_with (go_at_call 23; refine (pos_any _ _).mono ?_; rintro e w' ⟨rfl, rfl⟩)
              go_roundw
              case rel =>
                refine ⟨m + 1, by omega, by go_num, ?_, ?_⟩
                · show OwnC _ _ _ _ _ _
                  rw [Hst.out, Hmve.out, List.append_nil]
                  exact hown2.out.alloc _
                · show Below _ _ _
                  exact hbel2.out.alloc hbel2.out.size _
              case measure => simp [intOf]; omega
            · have hq : (e.account.toList == acc.toList) = false := by rw [bs_beq]; simp [h1]
              clear h1 hacc
              go_wp2
              go_roundw
              case rel =>
                refine ⟨m + 1, by omega, by go_num, ?_, ?_⟩
                · show OwnC _ _ _ _ _ _
                  rw [Hst.out, Hmve.out, List.append_nil]
                  exact hown2.out.alloc _
                · show Below _ _ _
                  exact hbel2.out.alloc hbel2.out.size _
              case measure => simp [intOf]; omega
        · go_wp2
          go_roundw
          case rel =>
            refine ⟨k + 1, by omega, by go_num, ?_, hbel2⟩
            show OwnC _ _ _ _ _ _
            have := hown2.out
            rw [List.take_of_length_le (l := p.entries) (by omega)] at this
            rw [mv_snoc acc 1 Hp.out]; exact this
          case measure => simp [intOf]; omega
    · go_wp2
      go_ret
      have hk' : ps.take k = ps := List.take_of_length_le (by omega)
      have ho := hown.out
      rw [hk'] at ho
      exact ⟨_, rfl, ho.sl, Hb1.out.trans (hbel.out.mono Hb1.out.size)⟩

set_option maxHeartbeats 1000000 in
theorem movedN_any (ps : List PostD) (pv : Value) (b : Nat) (acc : ByteArray) (w : World) (B : Nat) (hB : B ≤ w.heap.size) (hc : w.cell? ⟨b, 2, none⟩ = some pv) (ha : PostsAt w B ps pv)
    (ham : ∀ p ∈ ps, ∀ e ∈ p.entries, -1099511627776 ≤ e.amount ∧ e.amount ≤ 1099511627776)
    (hbig : (ps.map fun p => p.entries.length).sum ≤ 1000000) (hps : ps.length ≤ 1000000) :
    Calls Tryd.prog 22 #[.pointer (some ⟨b, 0, none⟩), .string acc, .func (.func 24) #[] #[]] w fun e w' => ∃ v', e = .returned v' ∧ SlC w' w'.heap.size 2 ((mv acc (-1) ps).map MoneyD.row) v' ∧ Below w.heap.size w w' := by
  have hbe : ∀ p ∈ ps, p.entries.length * 40 ≤ 140737488355328 := fun p hp => by have := sum_mem ps p hp; omega
  have HP := Lib.hid (posts_any ps pv w b B hB hc ha (by omega) hbe)
  have HlenH := Lib.hid (fun k m => Nat.le_trans (mv_len acc (-1) ps k m) hbig)
  have Ham := Lib.hid ham
  clear hc ha ham hbig hbe
  go_enter Tryd.func22, Tryd.ntmps22
  go_wp2_with fail
  refine HP.out.mono ?_
  rintro e w1 ⟨v1, rfl, ho1, hb1⟩
  obtain ⟨rows, hf, hs⟩ := ho1
  have hll : ps.length = rows.length := hf.len
  obtain ⟨A, c, rfl, hn, hc, -⟩ := id hs
  rw [← hll] at hs hn ⊢
  unfold maxLen at hc
  have Hll := Lib.hid hll
  have Hs := Lib.hid hs
  have Hf := Lib.hid hf
  have Hb1 := Lib.hid hb1
  clear hll hs hf hb1
  go_wp2
  go_loopw [15, 7, 9, 11] (fun i v _ _ wr => ∃ k : Nat, k ≤ ps.length ∧ i = .int .i64 k ∧ Hid (OwnC wr w1.heap.size 62 2 ((mv acc (-1) (ps.take k)).map MoneyD.row) v) ∧ Hid (Below w1.heap.size w1 wr)) (fun i _ _ _ _ => ps.length - (intOf i).toNat)
  case atStart => exact ⟨0, by omega, rfl, OwnC.nil_ _ _ _ _, Below.refl _ _⟩
  case round =>
    obtain ⟨k, hk, rfl, hown, hbel⟩ := hrel
    by_cases hlt : k < ps.length
    · obtain ⟨p, hp⟩ : ∃ p, ps[k]? = some p := ⟨_, List.getElem?_eq_getElem hlt⟩
      obtain ⟨r, hr, v2, hrow, hse⟩ := Hf.out.at_ hp
      obtain ⟨b, off, hA, hb, hcell⟩ := (Hs.out.below hbel.out).at_ hr
      subst hA
      obtain ⟨Ae, ce, hv2, hne, hce, -⟩ := id hse
      rw [List.length_map] at hv2 hne
      subst hv2
      have c0 : wr.cell? ⟨b, off + k * 3, none⟩ = some (.int .i64 p.number) := hcell 0 _ (by rw [hrow]; rfl)
      have c1 : wr.cell? ⟨b, off + k * 3 + 1, none⟩ = some (.string p.text) := hcell 1 _ (by rw [hrow]; rfl)
      have c2 : wr.cell? ⟨b, off + k * 3 + 2, none⟩ = some (.slice Ae p.entries.length ce) := hcell 2 _ (by rw [hrow]; rfl)
      unfold maxLen at hce
      have Hp := Lib.hid hp
      have Hse := Lib.hid hse
      clear hp hr hcell hrow hse
      go_wp2
      go_loopw [22, 7, 11] (fun j v _ wr => ∃ m : Nat, m ≤ p.entries.length ∧ j = .int .i64 m ∧ Hid (OwnC wr w1.heap.size 62 2 ((mv acc (-1) (ps.take k) ++ mvEs acc (-1) (p.entries.take m)).map MoneyD.row) v) ∧ Hid (Below w1.heap.size w1 wr)) (fun i _ _ _ => p.entries.length - (intOf i).toNat)
      case atStart => 
        refine ⟨0, by omega, rfl, ?_, ?_⟩
        · show OwnC _ _ _ _ _ _
          simpa [mvEs] using hown.out.alloc _
        · exact hbel.out.alloc hbel.out.size _
      case round =>
        obtain ⟨m, hm, rfl, hown2, hbel2⟩ := hrel
        by_cases hlt2 : m < p.entries.length
        · obtain ⟨e, he⟩ : ∃ e, p.entries[m]? = some e := ⟨_, List.getElem?_eq_getElem hlt2⟩
          obtain ⟨be, oe, hAe, hbe, hcell2⟩ := (Hse.out.below hbel2.out).at_ (k := m) (r := e.row) (by simp [he])
          subst hAe
          have d0 : wr.cell? ⟨be, oe + m * 3, none⟩ = some (.string e.account) := hcell2 0 _ rfl
          have d1 := hcell2 1 (.string e.currency) rfl
          have d2 := hcell2 2 (.int .i64 e.amount) rfl
          obtain ⟨am1, am2⟩ := Ham.out p (List.mem_of_getElem? Hp.out) e (List.mem_of_getElem? he)
          have He := Lib.hid he
          clear he hcell2
          have Hst := Lib.hid (mvEs_snoc acc (-1) He.out)
          by_cases hacc : e.account = acc ∧ e.amount < 0
          · obtain ⟨hacc, hpos⟩ := hacc
            have hq : (e.account.toList == acc.toList) = true := by simp [hacc]
            have hmve : mvE acc (-1) e = [⟨e.currency, e.amount * (-1)⟩] := by rw [mvE, if_pos ⟨hacc, by omega⟩]
            have Hmve := Lib.hid hmve
            clear hacc hmve
            have Hb := hbel2.out.size
            have Hl : (mv acc (-1) (ps.take k)).length + (mvEs acc (-1) (p.entries.take m)).length ≤ 1000000 := by have := HlenH.out k m; rw [Hp.out] at this; exact this
            go_wp2_with (first | (go_at_call 24; refine (neg_any _ _).mono ?_; rintro e w' ⟨rfl, rfl⟩) | (at_builtin; go_must (refine wpList_app1 _ rfl (.tmp 36) (.tmp 46) 58 rfl Tryd.el58 w1.heap.size ((mv acc (-1) (ps.take k) ++ mvEs acc (-1) (p.entries.take m)).map MoneyD.row) _ rfl (wr.alloc (.cells #[.string e.account, .string e.currency, .int .i64 e.amount] 57)) [.string e.currency, .int .i64 (e.amount * (-1))] 62 ?_ (hown2.out.alloc _) _ 1 rfl ?_ rfl ?_ ?_ ?_ ?_ ?_)))
            · have : e.amount * (-1) = -e.amount := by omega
              rw [this]
            · simp
            · intro u hu; simp at hu; rcases hu with rfl | rfl <;> rfl
            · simp; omega
            · unfold maxLen; simp; omega
            · simp; omega
            · intro v' w' ho' hb' hz' _
              go_wp2
              go_roundw
              case rel =>
                refine ⟨m + 1, by omega, by go_num, ?_, ?_⟩
                · show OwnC _ _ _ _ _ _
                  rw [Hst.out, Hmve.out]
                  simpa [MoneyD.row] using ho'
                · show Below _ _ _
                  exact ((hbel2.out.alloc hbel2.out.size _).alloc (by simp; omega) _).trans hb'
              case measure => simp [intOf]; omega
          · have hmve : mvE acc (-1) e = [] := by rw [mvE, if_neg (fun h => hacc ⟨h.1, by omega⟩)]
            have Hmve := Lib.hid hmve
            clear hmve
            by_cases h1 : e.account = acc
            · have hq : (e.account.toList == acc.toList) = true := by simp [h1]
              have hpos : ¬ e.amount < 0 := fun h => hacc ⟨h1, h⟩
              clear h1 hacc
              go_wp2_with (go_at_call 24; refine (neg_any _ _).mono ?_; rintro e w' ⟨rfl, rfl⟩)
              go_roundw
              case rel =>
                refine ⟨m + 1, by omega, by go_num, ?_, ?_⟩
                · show OwnC _ _ _ _ _ _
                  rw [Hst.out, Hmve.out, List.append_nil]
                  exact hown2.out.alloc _
                · show Below _ _ _
                  exact hbel2.out.alloc hbel2.out.size _
              case measure => simp [intOf]; omega
            · have hq : (e.account.toList == acc.toList) = false := by rw [bs_beq]; simp [h1]
              clear h1 hacc
              go_wp2
              go_roundw
              case rel =>
                refine ⟨m + 1, by omega, by go_num, ?_, ?_⟩
                · show OwnC _ _ _ _ _ _
                  rw [Hst.out, Hmve.out, List.append_nil]
                  exact hown2.out.alloc _
                · show Below _ _ _
                  exact hbel2.out.alloc hbel2.out.size _
              case measure => simp [intOf]; omega
        · go_wp2
          go_roundw
          case rel =>
            refine ⟨k + 1, by omega, by go_num, ?_, hbel2⟩
            show OwnC _ _ _ _ _ _
            have := hown2.out
            rw [List.take_of_length_le (l := p.entries) (by omega)] at this
            rw [mv_snoc acc (-1) Hp.out]; exact this
          case measure => simp [intOf]; omega
    · go_wp2
      go_ret
      have hk' : ps.take k = ps := List.take_of_length_le (by omega)
      have ho := hown.out
      rw [hk'] at ho
      exact ⟨_, rfl, ho.sl, Hb1.out.trans (hbel.out.mono Hb1.out.size)⟩

end Go.Proofs.YtmjkkmfjpppehaaDoor
