/- 09: slices.EqualFunc at papers, by field.Same. -/
import Derived.Test.YtlffpelkmdcckaaGreatDoorDocs9
namespace Go.Proofs.YtlffpelkmdcckaaGreatDoor
open Go Go.RowKit Go.Sup
set_option maxRecDepth 100000
set_option maxHeartbeats 1000000 in
theorem equalDocs_any (l m : List DocD) (w : World) (B : Nat) (v1 v2 : Value) (hv1 : DocsC w B l v1) (hv2 : DocsC w B m v2) (hB : B ≤ w.heap.size) :
    Calls Tryz.prog 32 #[v1, v2, .func (.func 33) #[] #[]] w fun e w' => e = .returned (.bool (docsEq l m)) ∧ Below w.heap.size w w' := by
  obtain ⟨A1, c1, rfl, hn1, hc1⟩ := hv1.form
  obtain ⟨A2, c2, rfl, hn2, hc2⟩ := hv2.form
  unfold maxLen at hc1 hc2
  have Hv1 := Lib.hid hv1
  have Hv2 := Lib.hid hv2
  clear hv1 hv2
  by_cases hl : l.length = m.length
  · have hl' : ((l.length : Int) != (m.length : Int)) = false := by simp [hl]
    have Hl := Lib.hid hl
    clear hl
    go_enter Tryz.func32, Tryz.ntmps32
    go_wp2
    go_loopw [17] (fun i wr => ∃ k : Nat, k ≤ l.length ∧ i = .int .i64 k ∧ Hid (l.take k = m.take k) ∧ Hid (Below w.heap.size w wr)) (fun i _ => l.length - (intOf i).toNat)
    case atStart => exact ⟨0, Nat.zero_le _, rfl, rfl, Below.refl _ _⟩
    case round =>
      obtain ⟨k, hk, rfl, HT, HB⟩ := hrel
      by_cases hlt : k < l.length
      · have hlt2 : k < m.length := by have := Hl.out; omega
        have hBr : B ≤ wr.heap.size := Nat.le_trans hB HB.out.size
        obtain ⟨b1, o1, fv1, rfl, _, hs1, x0, x1, x2, x3⟩ := doc_at (Hv1.out.below (HB.out.mono hB)) (List.getElem?_eq_getElem hlt)
        obtain ⟨b2, o2, fv2, rfl, hb2, hs2, y0, y1, y2, y3⟩ := doc_at (Hv2.out.below (HB.out.mono hB)) (List.getElem?_eq_getElem hlt2)
        obtain ⟨d1, hd1⟩ : ∃ d, d = l[k] := ⟨_, rfl⟩
        obtain ⟨d2, hd2⟩ : ∃ d, d = m[k] := ⟨_, rfl⟩
        rw [← hd1] at x0 x1 x2 hs1
        rw [← hd2] at y0 y1 y2 hs2
        obtain ⟨F1, f1, rfl, -⟩ := id hs1
        obtain ⟨F2, f2, rfl, -⟩ := id hs2
        rw [List.length_map] at hs1 hs2 x3 y3
        have HS1 := Lib.hid hs1
        have HS2 := Lib.hid hs2
        have HC : Hid (∀ W, Below wr.heap.size wr W → Calls Tryz.prog 33 #[.agg #[.int .i64 d1.kind, .string d1.number, .string d1.issuer, .slice F1 d1.fields.length f1], .agg #[.int .i64 d2.kind, .string d2.number, .string d2.issuer, .slice F2 d2.fields.length f2]] W fun e w' => e = .returned (.bool (docEq d1 d2)) ∧ Below W.heap.size W w') := fun W h => same_any d1 d2 W B _ _ (HS1.out.below (h.mono hBr)) (HS2.out.below (h.mono hBr)) (Nat.le_trans hBr h.size)
        have hb2' : b2 < wr.heap.size := by omega
        have y0' := fun o => (World.cell?_alloc_lt wr o ⟨b2, o2 + k * 4, none⟩ hb2').trans y0
        have y1' := fun o => (World.cell?_alloc_lt wr o ⟨b2, o2 + k * 4 + 1, none⟩ hb2').trans y1
        have y2' := fun o => (World.cell?_alloc_lt wr o ⟨b2, o2 + k * 4 + 2, none⟩ hb2').trans y2
        have y3' := fun o => (World.cell?_alloc_lt wr o ⟨b2, o2 + k * 4 + 3, none⟩ hb2').trans y3
        clear y0 y1 y2 y3
        have hlI : (k : Int) < (l.length : Int) := by omega
        have hlI2 : (k : Int) < (m.length : Int) := by omega
        clear hs1 hs2 HS1 HS2
        rcases Decidable.em (l[k] = m[k]) with he | he
        · have Hx := Lib.hid he
          have hde : docEq d1 d2 = true := docEq_iff.2 (by rw [hd1, hd2]; exact he)
          rw [hde] at HC
          clear he hde hd1 hd2
          go_wp2_with fail
          refine (HC.out _ (((Below.refl _ _).alloc (Nat.le_refl _) _).alloc (by simp) _)).mono ?_
          rintro e w1 ⟨rfl, hb1⟩
          have HB1 : Hid (Below w.heap.size w w1) := HB.out.trans (((((Below.refl _ _).alloc (Nat.le_refl _) _).alloc (by simp) _).trans (hb1.mono (by simp; omega))).mono HB.out.size)
          clear hb1
          go_wp2
          go_roundw
          case rel =>
            refine ⟨k + 1, hlt, by go_num, ?_, HB1⟩
            show l.take (k + 1) = m.take (k + 1)
            rw [List.take_succ_eq_append_getElem hlt, List.take_succ_eq_append_getElem hlt2, HT.out, Hx.out]
          case measure => simp [intOf]; omega
        · have Hx := Lib.hid (docsEq_at hlt hlt2 he)
          have hde : docEq d1 d2 = false := by
            cases h : docEq d1 d2
            · rfl
            · exact absurd (docEq_iff.1 h) (by rw [hd1, hd2]; exact he)
          rw [hde] at HC
          clear he hde hd1 hd2
          go_wp2_with fail
          refine (HC.out _ (((Below.refl _ _).alloc (Nat.le_refl _) _).alloc (by simp) _)).mono ?_
          rintro e w1 ⟨rfl, hb1⟩
          have HB1 : Hid (Below w.heap.size w w1) := HB.out.trans (((((Below.refl _ _).alloc (Nat.le_refl _) _).alloc (by simp) _).trans (hb1.mono (by simp; omega))).mono HB.out.size)
          clear hb1
          go_wp2
          go_ret
          exact ⟨by rw [Hx.out]; rfl, HB1.out⟩
      · obtain rfl : k = l.length := by omega
        have Hx := Lib.hid (docsEq_all Hl.out HT.out)
        clear hlt hk
        go_wp2
        go_ret
        exact ⟨by rw [Hx.out]; rfl, HB.out⟩
  · have hl' : ((l.length : Int) != (m.length : Int)) = true := by simp; omega
    have Hx := Lib.hid (docsEq_len hl)
    clear hl
    go_enter Tryz.func32, Tryz.ntmps32
    go_wp2
    go_ret
    exact ⟨by rw [Hx.out]; rfl, Below.refl _ _⟩
end Go.Proofs.YtlffpelkmdcckaaGreatDoor
