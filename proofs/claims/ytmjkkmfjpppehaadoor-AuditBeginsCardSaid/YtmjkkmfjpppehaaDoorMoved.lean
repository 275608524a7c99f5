/- What the reference's Moved gives of any posts: the sums on an account, with a sign. -/
import Derived.Test.YtmjkkmfjpppehaaDoorRows
import Derived.Test.YtmjkkmfjpppehaaDoorTypes
namespace Go.Proofs.YtmjkkmfjpppehaaDoor
open Go.RowKit Go.Sup
theorem Tryd.el58 : ElTy Tryd.prog 58 62 2 24 := ElTy.mk' Tryd.underlying58 (z := .agg #[.string ByteArray.empty, .int .i64 0]) (by kernel_rfl) rfl (by omega)

set_option maxRecDepth 100000 in
set_option maxHeartbeats 800000 in
theorem Moved_any (ps : List PostD) (v : Value) (acc : ByteArray) (sg : Int) (w : World)
    (ha : PostsAt w w.heap.size ps v) (hsg : sg = 1 ∨ sg = -1) (ham : ∀ p ∈ ps, ∀ e ∈ p.entries, -1099511627776 ≤ e.amount ∧ e.amount ≤ 1099511627776)
    (hbig : (ps.map fun p => p.entries.length).sum ≤ 1000000):
    Calls Tryd.prog 26 #[v, .string acc, .int .i64 sg] w fun e w' => ∃ v', e = .returned v' ∧ SlC w' w'.heap.size 2 ((mv acc sg ps).map MoneyD.row) v' ∧ Below w.heap.size w w' := by
  obtain ⟨rows, hf, hs⟩ := ha
  have hll : ps.length = rows.length := hf.len
  obtain ⟨A, c, rfl, hn, hc, -⟩ := id hs
  rw [← hll] at hs hn ⊢
  unfold maxLen at hc
  have Hll := Lib.hid hll
  have Hs := Lib.hid hs
  have Hf := Lib.hid hf
  have Ham := Lib.hid ham
  have Hlen : ∀ k m, (mv acc sg (ps.take k)).length + (mvEs acc sg ((ps[k]?.elim [] PostD.entries).take m)).length ≤ 1000000 := fun k m => Nat.le_trans (mv_len acc sg ps k m) hbig
  have HlenH := Lib.hid Hlen
  clear hll hs hf ham hbig Hlen
  go_enter Tryd.func26, Tryd.ntmps26
  go_wp2
  go_loopw [8, 7, 9, 10] (fun i v _ _ wr => ∃ k  : Nat, k ≤ ps.length ∧ i = .int .i64 k ∧ Hid (OwnC wr w.heap.size 62 2 ((mv acc sg (ps.take k)).map MoneyD.row) v) ∧ Hid (Below w.heap.size w wr)) (fun i _ _ _ _ => ps.length - (intOf i).toNat)
  case atStart => 
    refine ⟨0, by omega, rfl, ?_, ?_⟩
    · exact OwnC.empty_ 62 2 (Nat.le_refl _)
    · exact (Below.refl _ _).alloc (Nat.le_refl _) _
  case round =>
    obtain ⟨k, hk, rfl, hown, hbel⟩ := hrel
    by_cases hlt : k < ps.length
    · obtain ⟨p, hp⟩ : ∃ p, ps[k]? = some p := ⟨_, List.getElem?_eq_getElem hlt⟩
      obtain ⟨r, hr, v2, hrow, hse⟩ := Hf.out.at_ hp
      obtain ⟨b, off, hA, hb, hcell⟩ := (Hs.out.below hbel.out).at_ hr
      subst hA
      have c2 := hcell 2 v2 (by rw [hrow]; rfl)
      obtain ⟨Ae, ce, hv2, hne, hce, -⟩ := id hse
      rw [List.length_map] at hv2 hne
      subst hv2
      unfold maxLen at hce
      have Hp := Lib.hid hp
      have Hse := Lib.hid hse
      clear hp hr hcell hrow hse 
      go_wp2
      go_loopw [7, 9, 10] (fun v j _ wr => ∃ m : Nat, m ≤ p.entries.length ∧ j = .int .i64 m ∧ Hid (OwnC wr w.heap.size 62 2 ((mv acc sg (ps.take k) ++ mvEs acc sg (p.entries.take m)).map MoneyD.row) v) ∧ Hid (Below w.heap.size w wr)) (fun _ i _ _ => p.entries.length - (intOf i).toNat)
      case atStart => exact ⟨0, by omega, rfl, by simpa [mvEs] using hown, hbel⟩
      case round =>
        obtain ⟨m, hm, rfl, hown2, hbel2⟩ := hrel
        by_cases hlt2 : m < p.entries.length
        · obtain ⟨e, he⟩ : ∃ e, p.entries[m]? = some e := ⟨_, List.getElem?_eq_getElem hlt2⟩
          obtain ⟨be, oe, hAe, hbe, hcell2⟩ := (Hse.out.below hbel2.out).at_ (k := m) (r := e.row) (by simp [he])
          subst hAe
          have d0 : wr.cell? ⟨be, oe + m * 3, none⟩ = some (.string e.account) := hcell2 0 _ rfl
          have d1 := hcell2 1 (.string e.currency) rfl
          have d2 := hcell2 2 (.int .i64 e.amount) rfl
          have c2' := (hbel2.out.cell (p := ⟨b, off + k * 3 + 2, none⟩) hb).trans ((hbel.out.cell (p := ⟨b, off + k * 3 + 2, none⟩) hb).symm.trans c2)
          obtain ⟨am1, am2⟩ := Ham.out p (List.mem_of_getElem? Hp.out) e (List.mem_of_getElem? he)
          obtain ⟨as1, as2⟩ : -1099511627776 ≤ e.amount * sg ∧ e.amount * sg ≤ 1099511627776 := by rcases hsg with rfl | rfl <;> omega
          have He := Lib.hid he
          have Hsg := Lib.hid hsg
          clear he hcell2 hsg
          have Hst := Lib.hid (mvEs_snoc acc sg He.out)
          by_cases hacc : e.account = acc ∧ 0 < e.amount * sg
          · obtain ⟨hacc, hpos⟩ := hacc
            have hq : (e.account.toList == acc.toList) = true := by simp [hacc]
            have hmve : mvE acc sg e = [⟨e.currency, e.amount * sg⟩] := by simp [mvE, hacc, hpos]
            have Hmve := Lib.hid hmve
            clear hacc hmve
            have Hb := hbel2.out.size
            have Hl : (mv acc sg (ps.take k)).length + (mvEs acc sg (p.entries.take m)).length ≤ 1000000 := by have := HlenH.out k m; rw [Hp.out] at this; exact this
            go_wp2_with (at_builtin; go_must (refine wpList_app1 _ rfl (.tmp 47) (.tmp 55) 58 rfl Tryd.el58 w.heap.size _ _ rfl (wr.alloc _) [.string e.currency, .int .i64 (e.amount * sg)] 62 rfl (hown2.out.alloc _) _ 1 rfl ?_ rfl ?_ ?_ ?_ ?_ ?_))
            · simp
            · intro u hu; simp at hu; rcases hu with rfl | rfl <;> rfl
            · simp; omega
            · unfold maxLen; simp; omega
            · simp; omega
            · intro v' w' ho' hb' hz' _
              go_wp2
              go_roundw
              case rel =>
                refine ⟨m + 1, by omega, by go_num, ?_, ?_⟩
                · show OwnC _ _ _ _ _ _
                  rw [Hst.out, Hmve.out]
                  simpa [MoneyD.row] using ho'
                · show Below _ _ _
                  exact ((hbel2.out.alloc hbel2.out.size _).alloc (by simp; omega) _).trans hb'
              case measure => simp [intOf]; omega
          · have hmve : mvE acc sg e = [] := by simp only [mvE, if_neg hacc]
            have Hmve := Lib.hid hmve
            clear hmve
            by_cases h1 : e.account = acc
            · have hq : (e.account.toList == acc.toList) = true := by simp [h1]
              have hpos : ¬ 0 < e.amount * sg := fun h => hacc ⟨h1, h⟩
              clear h1 hacc
              go_wp2
              go_roundw
              case rel =>
                refine ⟨m + 1, by omega, by go_num, ?_, ?_⟩
                · show OwnC _ _ _ _ _ _
                  rw [Hst.out, Hmve.out, List.append_nil]
                  exact hown2.out.alloc _
                · show Below _ _ _
                  exact hbel2.out.alloc hbel2.out.size _
              case measure => simp [intOf]; omega
            · have hq : (e.account.toList == acc.toList) = false := by rw [bs_beq]; simp [h1]
              clear h1 hacc
              go_wp2
              go_roundw
              case rel =>
                refine ⟨m + 1, by omega, by go_num, ?_, ?_⟩
                · show OwnC _ _ _ _ _ _
                  rw [Hst.out, Hmve.out, List.append_nil]
                  exact hown2.out.alloc _
                · show Below _ _ _
                  exact hbel2.out.alloc hbel2.out.size _
              case measure => simp [intOf]; omega
        · have c2' := (hbel2.out.cell (p := ⟨b, off + k * 3 + 2, none⟩) hb).trans ((hbel.out.cell (p := ⟨b, off + k * 3 + 2, none⟩) hb).symm.trans c2)
          go_wp2
          go_roundw
          case rel =>
            refine ⟨k + 1, by omega, by go_num, ?_, hbel2⟩
            show OwnC _ _ _ _ _ _
            have := hown2.out
            rw [List.take_of_length_le (l := p.entries) (by omega)] at this
            rw [mv_snoc acc sg Hp.out]; exact this
          case measure => simp [intOf]; omega
    · go_wp2
      go_ret
      have hk' : ps.take k = ps := List.take_of_length_le (by omega)
      have ho := hown.out
      rw [hk'] at ho
      exact ⟨_, rfl, ho.sl, hbel.out⟩
end Go.Proofs.YtmjkkmfjpppehaaDoor
