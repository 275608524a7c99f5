/- AuditRemits: the walk. -/
import Derived.Test.YtmjkkmfjpppehaaDoorBooked
import Derived.Test.YtmjkkmfjpppehaaDoorRefRemits
namespace Go.Proofs.YtmjkkmfjpppehaaDoor
open Go.RowKit Go.Sup
set_option maxRecDepth 100000
def nFrom : ByteArray := ⟨#[102, 114, 111, 109]⟩
def nTo : ByteArray := ⟨#[116, 111]⟩
def vTo : ByteArray := ⟨#[118, 111, 115, 116, 114, 111, 58, 116, 111]⟩
def vElse : ByteArray := ⟨#[118, 111, 115, 116, 114, 111, 58, 101, 108, 115, 101]⟩
def oTo : ByteArray := ⟨#[110, 111, 115, 116, 114, 111, 58, 116, 111]⟩
def oFrom : ByteArray := ⟨#[110, 111, 115, 116, 114, 111, 58, 102, 114, 111, 109]⟩
def oElse : ByteArray := ⟨#[110, 111, 115, 116, 114, 111, 58, 101, 108, 115, 101]⟩
def vFrom : ByteArray := ⟨#[118, 111, 115, 116, 114, 111, 58, 102, 114, 111, 109]⟩
theorem names1 : Names [vTo, vElse, oTo] := ⟨by
  intro n hn
  simp at hn
  rcases hn with rfl | rfl | rfl
  · exact ⟨by decide, by decide, by kernel_rfl⟩
  · exact ⟨by decide, by decide, by kernel_rfl⟩
  · exact ⟨by decide, by decide, by kernel_rfl⟩, by decide, by decide, by decide⟩
theorem names2 : Names [oFrom, oElse, vFrom] := ⟨by
  intro n hn
  simp at hn
  rcases hn with rfl | rfl | rfl
  · exact ⟨by decide, by decide, by kernel_rfl⟩
  · exact ⟨by decide, by decide, by kernel_rfl⟩
  · exact ⟨by decide, by decide, by kernel_rfl⟩, by decide, by decide, by decide⟩
theorem fair_posts {ns : List ByteArray} {ms : List MoveD} (hok : ∀ m ∈ ms, m.Ok) (hl : ms.length ≤ 30) : Fair (postsOf ns ms) where
  am := by
    intro p hp e he
    unfold postsOf at hp
    obtain ⟨i, hi, rfl⟩ := List.mem_mapIdx.1 hp
    have := hok _ (List.getElem_mem hi)
    have h1 := this.lo
    have h2 := this.hi
    simp [pair] at he
    rcases he with rfl | rfl
    · exact ⟨by show _ ≤ ms[i].amount; omega, by show ms[i].amount ≤ _; omega⟩
    · exact ⟨by show _ ≤ -ms[i].amount; omega, by show -ms[i].amount ≤ _; omega⟩
  big := by
    have : ((postsOf ns ms).map fun p => p.entries.length) = List.replicate ms.length 2 := by
      refine List.eq_replicate_iff.2 ⟨by simp [postsOf], fun b hb => ?_⟩
      obtain ⟨p, hp, rfl⟩ := List.mem_map.1 hb
      unfold postsOf at hp
      obtain ⟨i, hi, rfl⟩ := List.mem_mapIdx.1 hp
      rfl
    rw [this]; simp; omega
  len := by rw [postsOf_len]; omega

set_option maxHeartbeats 2000000 in
theorem auditRemits_any (w : World) (ma mb : List MoveD) (va vb : Value) (ha : SlC w w.heap.size 3 (ma.map MoveD.row) va) (hb : SlC w w.heap.size 3 (mb.map MoveD.row) vb) (oa : ∀ m ∈ ma, m.Ok) (ob : ∀ m ∈ mb, m.Ok) :
    Calls Tryd.prog 3 #[va, vb] w fun e w' => e = .returned (.bool true) ∧ Below w.heap.size w w' := by
  obtain ⟨A, c, rfl, hn, hc, -⟩ := id ha
  obtain ⟨B, d, rfl, hm, hd, -⟩ := id hb
  rw [List.length_map] at ha hb hn hm ⊢
  rw [List.length_map]
  have Ha := Lib.hid ha
  have Hb := Lib.hid hb
  have Oa := Lib.hid oa
  have Ob := Lib.hid ob
  unfold maxLen at hc hd
  clear ha hb oa ob
  by_cases h1 : ma.length ≤ 30
  · by_cases h2 : mb.length ≤ 30
    · go_enter Tryd.func3, Tryd.ntmps3
      go_wp2_with fail
      refine (awake_any _).mono ?_
      rintro e w1 ⟨rfl, hb1⟩
      have Hb1 := Lib.hid hb1
      clear hb1
      go_wp2_with fail
      refine (booked_any _ ma _ ((Ha.out.below Hb1.out).alloc Hb1.out.size _ |>.more (by have := Hb1.out.size; simp; omega)) Oa.out h1 [vTo, vElse, oTo] _ (SlC.litN (strRows [vTo, vElse, oTo]) (by simp [strRows]) rfl 9 w1.heap.size 3 _ rfl rfl (by simp) (by unfold maxLen; omega)) names1).mono ?_
      rintro e w2 ⟨b2, pv2, rfl, l2, cc2, pa2, hb2, -⟩
      have H2 := Lib.hid (And.intro cc2 pa2)
      have Hb2 : Hid (Below w.heap.size w w2) := (Hb1.out.alloc Hb1.out.size _).trans (hb2.mono (by have := Hb1.out.size; simp; omega))
      have s1 := Hb1.out.size
      have s2 := Hb2.out.size
      clear cc2 pa2 hb2
      go_wp2_with fail
      refine (booked_any _ mb _ ((Hb.out.below Hb2.out).alloc Hb2.out.size _ |>.more (by simp; omega)) Ob.out h2 [oFrom, oElse, vFrom] _ (SlC.litN (strRows [oFrom, oElse, vFrom]) (by simp [strRows]) rfl 9 w2.heap.size 3 _ rfl rfl (by simp) (by unfold maxLen; omega)) names2).mono ?_
      rintro e w3 ⟨b3, pv3, rfl, l3, cc3, pa3, hb3, -⟩
      have hb23 : Below w2.heap.size w2 w3 := ((Below.refl _ _).alloc (Nat.le_refl _) _).trans (hb3.mono (by simp))
      have H23 : Hid (w3.cell? ⟨b2, 2, none⟩ = some pv2 ∧ PostsAt w3 w3.heap.size (postsOf [vTo, vElse, oTo] ma) pv2) := ⟨(hb23.cell (p := ⟨b2, 2, none⟩) l2).trans H2.out.1, (H2.out.2.below hb23).more hb23.size⟩
      have H3 := Lib.hid (And.intro cc3 pa3)
      have Hb3 : Hid (Below w.heap.size w w3) := Hb2.out.trans (hb23.mono s2)
      have s3 := hb23.size
      clear cc3 pa3 hb3 hb23
      go_wp2_with fail
      refine (remits_any nFrom nTo (by decide) (by decide) b2 b3 _ _ pv2 pv3 w3 w3.heap.size (Nat.le_refl _) (by omega) l3 H23.out.1 H3.out.1 H23.out.2 H3.out.2 (fair_posts Oa.out h1) (fair_posts Ob.out h2)).mono ?_
      rintro e w4 ⟨v4, rfl, hs4, hb4⟩
      have H4 := Lib.hid hs4
      have Hb4 := Lib.hid hb4
      have s4 := hb4.size
      clear hs4 hb4
      have pl : ∀ ns ms, ms.length ≤ 30 → (postsOf ns ms).length * 48 ≤ 140737488355328 := fun ns ms h => by rw [postsOf_len]; omega
      have el : ∀ ns ms, ∀ p ∈ postsOf ns ms, p.entries.length * 40 ≤ 140737488355328 := fun ns ms p hp => by
        unfold postsOf at hp
        obtain ⟨i, hi, rfl⟩ := List.mem_mapIdx.1 hp
        simp [pair]
      have Pl := Lib.hid pl
      have El := Lib.hid el
      clear pl el
      go_wp2_with fail
      refine (posts_any _ pv2 w4 b2 w3.heap.size s4 ((Hb4.out.cell (p := ⟨b2, 2, none⟩) (by show b2 < w3.heap.size; omega)).trans H23.out.1) (H23.out.2.below Hb4.out) (Pl.out _ _ h1) (El.out _ _)).mono ?_
      rintro e w5 ⟨v5, rfl, hp5, hb5⟩
      have H5 := Lib.hid hp5
      have Hb5 := Lib.hid hb5
      have s5 := hb5.size
      clear hp5 hb5
      go_wp2_with fail
      refine (posts_any _ pv3 w5 b3 w3.heap.size (by omega) ((Hb5.out.cell (p := ⟨b3, 2, none⟩) (by show b3 < w4.heap.size; omega)).trans ((Hb4.out.cell (p := ⟨b3, 2, none⟩) l3).trans H3.out.1)) ((H3.out.2.below Hb4.out).below (Hb5.out.mono s4)) (Pl.out _ _ h2) (El.out _ _)).mono ?_
      rintro e w6 ⟨v6, rfl, hp6, hb6⟩
      have H6 := Lib.hid hp6
      have Hb6 := Lib.hid hb6
      have s6 := hb6.size
      clear hp6 hb6
      go_wp2_with fail
      refine (refRemits_any nFrom nTo (by decide) (by decide) _ _ v5 v6 w6 ((H5.out.below Hb6.out).more s6) H6.out (fair_posts Oa.out h1) (fair_posts Ob.out h2)).mono ?_
      rintro e w7 ⟨v7, rfl, hs7, hb7⟩
      have H7 := Lib.hid hs7
      have Hb7 := Lib.hid hb7
      have s7 := hb7.size
      clear hs7 hb7
      go_wp2_with fail
      refine (same_any _ _ v4 v7 w7 w4.heap.size w7.heap.size (((H4.out.below Hb5.out).below (Hb6.out.mono s5)).below (Hb7.out.mono (by omega))) H7.out).mono ?_
      rintro e w8 ⟨rfl, k, rfl⟩
      rw [decide_eq_true rfl]
      go_wp2_with fail
      go_ret
      refine ⟨rfl, ?_⟩
      exact below_drewN ((((Hb3.out.trans (Hb4.out.mono (by omega))).trans (Hb5.out.mono (by omega))).trans (Hb6.out.mono (by omega))).trans (Hb7.out.mono (by omega))) k
    · go_enter Tryd.func3, Tryd.ntmps3
      go_wp2_with fail
      refine (awake_any _).mono ?_
      rintro e w1 ⟨rfl, hb1⟩
      have Hb1 := Lib.hid hb1
      clear hb1
      go_wp2_with fail
      refine (awake_any _).mono ?_
      rintro e w2 ⟨rfl, hb2⟩
      have Hb2 := Lib.hid hb2
      clear hb2
      go_wp2_with fail
      go_ret
      exact ⟨rfl, Hb1.out.trans (Hb2.out.mono Hb1.out.size)⟩
  · go_enter Tryd.func3, Tryd.ntmps3
    go_wp2_with fail
    refine (awake_any _).mono ?_
    rintro e w1 ⟨rfl, hb1⟩
    have Hb1 := Lib.hid hb1
    clear hb1
    go_wp2_with fail
    refine (awake_any _).mono ?_
    rintro e w2 ⟨rfl, hb2⟩
    have Hb2 := Lib.hid hb2
    clear hb2
    go_wp2_with fail
    go_ret
    exact ⟨rfl, Hb1.out.trans (Hb2.out.mono Hb1.out.size)⟩
end Go.Proofs.YtmjkkmfjpppehaaDoor
