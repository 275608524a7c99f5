/- The waking test answers true. -/
import Derived.Test.YtmjkkmfjpppehaaDoorBanks
namespace Go.Proofs.YtmjkkmfjpppehaaDoor
open Go.RowKit Go.Sup
set_option maxRecDepth 100000
def awLine : ByteArray := ⟨#[97, 32, 98, 32, 114, 101, 109, 105, 116, 115, 32, 48]⟩
theorem aw1 : remitsS ⟨#[97]⟩ ⟨#[98]⟩ (LA 2).posts [⟨1, tRemit, pair nNA nY cEUR (-30)⟩] = [] := by kernel_rfl
theorem aw2 : remitsS ⟨#[97]⟩ ⟨#[98]⟩ (LA 2).posts [⟨1, tRemit, pair nNA nY cEUR (-20)⟩] = [awLine] := by kernel_rfl
theorem awFa : Fair (LA 2).posts := ⟨by simp [LA, pair], by simp [LA, pair], by simp [LA]⟩
theorem awFb (n : Int) (h1 : 0 ≤ n) (h2 : n ≤ 1000) : Fair [⟨1, tRemit, pair nNA nY cEUR (-n)⟩] := ⟨by simp [pair]; omega, by simp [pair], by simp⟩

set_option maxHeartbeats 2000000 in
theorem awake_any (w : World) : Calls Tryd.prog 6 #[] w fun e w' => e = .returned (.bool true) ∧ Below w.heap.size w w' := by
  go_enter Tryd.func6, Tryd.ntmps6
  go_wp2_with fail
  refine (banks_any 30 (by omega) (by omega) _).mono ?_
  rintro e w1 ⟨x1, y1, va1, vb1, rfl, lx1, ly1, cx1, cy1, pa1, pb1, hb1⟩
  have H1 := Lib.hid (And.intro cx1 (And.intro cy1 (And.intro pa1 pb1)))
  have Hb1 := Lib.hid hb1
  clear cx1 cy1 pa1 pb1 hb1
  go_wp2_with fail
  refine (banks_any 20 (by omega) (by omega) _).mono ?_
  rintro e w2 ⟨x2, y2, va2, vb2, rfl, lx2, ly2, cx2, cy2, pa2, pb2, hb2⟩
  have H2 := Lib.hid (And.intro cx2 (And.intro cy2 (And.intro pa2 pb2)))
  have Hb2 := Lib.hid hb2
  have hs2 := hb2.size
  clear cx2 cy2 pa2 pb2 hb2
  go_wp2_with fail
  refine (remits_any ⟨#[97]⟩ ⟨#[98]⟩ (by decide) (by decide) x1 y1 _ _ va1 vb1 w2 w1.heap.size hs2 (by omega) (by omega) ((Hb2.out.cell (p := ⟨x1, 2, none⟩) lx1).trans H1.out.1) ((Hb2.out.cell (p := ⟨y1, 2, none⟩) ly1).trans H1.out.2.1) (H1.out.2.2.1.below Hb2.out) (H1.out.2.2.2.below Hb2.out) awFa (awFb 30 (by omega) (by omega))).mono ?_
  rintro e w3 ⟨v3, rfl, hs3, hb3⟩
  rw [aw1] at hs3
  obtain ⟨A3, c3, rfl, -⟩ := hs3
  have Hb3 := Lib.hid hb3
  have hz3 := hb3.size
  clear hb3
  go_wp2_with fail
  refine (remits_any ⟨#[97]⟩ ⟨#[98]⟩ (by decide) (by decide) x2 y2 _ _ va2 vb2 w3 w2.heap.size hz3 (by omega) (by omega) ((Hb3.out.cell (p := ⟨x2, 2, none⟩) lx2).trans H2.out.1) ((Hb3.out.cell (p := ⟨y2, 2, none⟩) ly2).trans H2.out.2.1) (H2.out.2.2.1.below Hb3.out) (H2.out.2.2.2.below Hb3.out) awFa (awFb 20 (by omega) (by omega))).mono ?_
  rintro e w4 ⟨v4, rfl, hs4, hb4⟩
  rw [aw2] at hs4
  obtain ⟨A4, c4, rfl, hn4, hc4, -⟩ := id hs4
  obtain ⟨bx, ox, hA, hbx, hcell⟩ := SlC.at_ hs4 (k := 0) (r := [.string awLine]) rfl
  subst hA
  have e0 : w4.cell? ⟨bx, ox, none⟩ = some (.string ⟨#[97, 32, 98, 32, 114, 101, 109, 105, 116, 115, 32, 48]⟩) := hcell 0 _ rfl
  have Hb4 : Hid (Below w.heap.size w w4) := by
    have hs1 := Hb1.out.size
    exact ((Hb1.out.trans (Hb2.out.mono hs1)).trans (Hb3.out.mono (by omega))).trans (hb4.mono (by omega))
  clear hs4 hcell hb4
  go_wp2
  go_ret
  exact ⟨rfl, Hb4.out⟩
end Go.Proofs.YtmjkkmfjpppehaaDoor
