/- 09: PostSames: the walk. Printed by wip/tools/gen_psames.py. -/
import Derived.Test.YtlffpelkmdcckaaGreatDoorLetH9
import Derived.Test.YtlffpelkmdcckaaGreatDoorRSame9
namespace Go.Proofs.YtlffpelkmdcckaaGreatDoor
open Go Go.RowKit Go.Sup
set_option maxRecDepth 100000
set_option maxHeartbeats 16000000 in
theorem postSames_any (a b : LetD) (n : Nat) (_hn : n < 256) (ha : lBulk a ≤ 1048576) (hb : lBulk b ≤ 1048576) (w : World) (B : Nat) (va vb : Value) (hva : LetC w B a va) (hvb : LetC w B b vb) (hB : B ≤ w.heap.size) (hW : W9 w) :
    Calls Tryz.prog 4 #[va, vb, .int .u8 n] w fun e w' => e = .returned (.bool true) ∧ Below w.heap.size w w' := by
  have HA : Hid (∀ W, Below w.heap.size w W → Calls Tryz.prog 9 #[] W fun e w' => e = .returned (.bool true) ∧ Below W.heap.size W w') := fun W h => awake9_any W (hW.below h)
  have HSa : Hid (∀ W, Below w.heap.size w W → Calls Tryz.prog 13 #[va] W (ShortOut W (ShortP a))) := fun W h => short_any a ha W B va (hva.below (h.mono hB)) (Nat.le_trans hB h.size)
  have HSb : Hid (∀ W, Below w.heap.size w W → Calls Tryz.prog 13 #[vb] W (ShortOut W (ShortP b))) := fun W h => short_any b hb W B vb (hvb.below (h.mono hB)) (Nat.le_trans hB h.size)
  have HAB : Hid (∀ W, Below w.heap.size w W → Calls Tryz.prog 14 #[va, vb] W fun e w' => e = .returned (.bool (letEq a b)) ∧ Below W.heap.size W w') := fun W h => same9_any a b W B va vb (hva.below (h.mono hB)) (hvb.below (h.mono hB)) (Nat.le_trans hB h.size)
  have HRR : Hid (∀ W, Below w.heap.size w W → Calls Tryz.prog 15 #[va, vb] W fun e w' => e = .returned (.bool (letEq a b)) ∧ Below W.heap.size W w') := fun W h => rsame9_any a b W B va vb (hva.below (h.mono hB)) (hvb.below (h.mono hB)) (Nat.le_trans hB h.size)
  have HAA : Hid (∀ W, Below w.heap.size w W → Calls Tryz.prog 14 #[va, va] W fun e w' => e = .returned (.bool true) ∧ Below W.heap.size W w') := fun W h => by
    have := same9_any a a W B va va (hva.below (h.mono hB)) (hva.below (h.mono hB)) (Nat.le_trans hB h.size)
    rwa [letEq_iff.2 rfl] at this
  have HC : Hid (∀ (a' : LetD) (v' : Value), a ≠ a' → ∀ W B', Below w.heap.size w W → LetC W B' a' v' → B' ≤ W.heap.size → B ≤ B' → Calls Tryz.prog 14 #[va, v'] W fun e w' => e = .returned (.bool false) ∧ Below W.heap.size W w') := fun a' v' hne W B' h hv' hB' hBB => by
    have := same9_any a a' W B' va v' ((hva.below (h.mono hB)).more hBB) hv' hB'
    have e : letEq a a' = false := by
      cases hx : letEq a a'
      · rfl
      · exact absurd (letEq_iff.1 hx) hne
    rwa [e] at this
  have HTx : Hid (a.text.size ≤ 1048576) := by
    show a.text.size ≤ _
    unfold lBulk hBulk at ha
    omega
  have HSP : Hid (ShortP a → a.docs.length ≤ 12 ∧ a.boxes.length ≤ 60) := fun h => ⟨h.2.1, h.2.2.1⟩
  obtain ⟨PA, hPA⟩ : ∃ P : Prop, P = ShortP a := ⟨_, rfl⟩
  obtain ⟨PB, hPB⟩ : ∃ P : Prop, P = ShortP b := ⟨_, rfl⟩
  rw [← hPA] at HSa HSP
  rw [← hPB] at HSb
  obtain ⟨e0, he0⟩ : ∃ e, e = letEq a b := ⟨_, rfl⟩
  rw [← he0] at HAB HRR
  obtain ⟨dva, bva, rfl, da, sa⟩ := hva
  obtain ⟨dvb, bvb, rfl, db', sb⟩ := hvb
  obtain ⟨Ad, cd, rfl, hc1, hc2⟩ := da.form
  obtain ⟨Bd, dd, rfl, -⟩ := db'.form
  obtain ⟨Ab, cb, rfl, hb1, hb2, -⟩ := id sa
  obtain ⟨Bb, db, rfl, -⟩ := id sb
  rw [List.length_map] at sa hb1
  simp only [List.length_map] at HSa HSb HAB HRR HAA HC ⊢
  have Hda := Lib.hid da
  have Hsa := Lib.hid sa
  clear hPA hPB he0 da db' sa sb ha hb hW hc1 hc2 hb1 hb2
  obtain ⟨a0, a1, a2, a3, a4, a5, a6, a7, a8, a9, a10, a11, ad, ab⟩ := a
  obtain ⟨c0, c1, c2, c3, c4, c5, c6, c7, c8, c9, c10, c11, bd, bb⟩ := b
  simp only [LetD.val] at *
  obtain ⟨W0, hW0⟩ : ∃ W0, W0 = (w.alloc (.cells #[.string a0, .string a1, .int .i64 a2, .int .i64 a3, .int .i64 a4, .string a5, .string a6, .string a7, .int .i64 a8, .int .i64 a9, .string a10, .int .i64 a11, .slice Ad ad.length cd, .slice Ab ab.length cb] 33)).alloc (.cells #[.string c0, .string c1, .int .i64 c2, .int .i64 c3, .int .i64 c4, .string c5, .string c6, .string c7, .int .i64 c8, .int .i64 c9, .string c10, .int .i64 c11, .slice Bd bd.length dd, .slice Bb bb.length db] 33) := ⟨_, rfl⟩
  have HF : Hid (∀ W, Below (w.heap.size + 2) W0 W → Below w.heap.size w W) := fun W h => by
    rw [hW0] at h; exact (((Below.refl _ _).alloc (Nat.le_refl _) _).alloc (by simp) _).trans (h.mono (by omega))
  have HK : Hid (∀ W, Below (w.heap.size + 2) W0 W → W.cell? ⟨w.heap.size, 0, none⟩ = some (.string a0) ∧ W.cell? ⟨w.heap.size, 1, none⟩ = some (.string a1) ∧ W.cell? ⟨w.heap.size, 2, none⟩ = some (.int .i64 a2) ∧ W.cell? ⟨w.heap.size, 3, none⟩ = some (.int .i64 a3) ∧ W.cell? ⟨w.heap.size, 4, none⟩ = some (.int .i64 a4) ∧ W.cell? ⟨w.heap.size, 5, none⟩ = some (.string a5) ∧ W.cell? ⟨w.heap.size, 6, none⟩ = some (.string a6) ∧ W.cell? ⟨w.heap.size, 7, none⟩ = some (.string a7) ∧ W.cell? ⟨w.heap.size, 8, none⟩ = some (.int .i64 a8) ∧ W.cell? ⟨w.heap.size, 9, none⟩ = some (.int .i64 a9) ∧ W.cell? ⟨w.heap.size, 10, none⟩ = some (.string a10) ∧ W.cell? ⟨w.heap.size, 11, none⟩ = some (.int .i64 a11) ∧ W.cell? ⟨w.heap.size, 12, none⟩ = some (.slice Ad ad.length cd) ∧ W.cell? ⟨w.heap.size, 13, none⟩ = some (.slice Ab ab.length cb) ∧ W.cell? ⟨w.heap.size + 1, 0, none⟩ = some (.string c0) ∧ W.cell? ⟨w.heap.size + 1, 1, none⟩ = some (.string c1) ∧ W.cell? ⟨w.heap.size + 1, 2, none⟩ = some (.int .i64 c2) ∧ W.cell? ⟨w.heap.size + 1, 3, none⟩ = some (.int .i64 c3) ∧ W.cell? ⟨w.heap.size + 1, 4, none⟩ = some (.int .i64 c4) ∧ W.cell? ⟨w.heap.size + 1, 5, none⟩ = some (.string c5) ∧ W.cell? ⟨w.heap.size + 1, 6, none⟩ = some (.string c6) ∧ W.cell? ⟨w.heap.size + 1, 7, none⟩ = some (.string c7) ∧ W.cell? ⟨w.heap.size + 1, 8, none⟩ = some (.int .i64 c8) ∧ W.cell? ⟨w.heap.size + 1, 9, none⟩ = some (.int .i64 c9) ∧ W.cell? ⟨w.heap.size + 1, 10, none⟩ = some (.string c10) ∧ W.cell? ⟨w.heap.size + 1, 11, none⟩ = some (.int .i64 c11) ∧ W.cell? ⟨w.heap.size + 1, 12, none⟩ = some (.slice Bd bd.length dd) ∧ W.cell? ⟨w.heap.size + 1, 13, none⟩ = some (.slice Bb bb.length db)) := fun W h => by
    rw [hW0] at h
    obtain ⟨z0, z1⟩ := bcell h
    refine ⟨(z0 w.heap.size 0 (by omega)).trans (by go_simp), (z0 w.heap.size 1 (by omega)).trans (by go_simp), (z0 w.heap.size 2 (by omega)).trans (by go_simp), (z0 w.heap.size 3 (by omega)).trans (by go_simp), (z0 w.heap.size 4 (by omega)).trans (by go_simp), (z0 w.heap.size 5 (by omega)).trans (by go_simp), (z0 w.heap.size 6 (by omega)).trans (by go_simp), (z0 w.heap.size 7 (by omega)).trans (by go_simp), (z0 w.heap.size 8 (by omega)).trans (by go_simp), (z0 w.heap.size 9 (by omega)).trans (by go_simp), (z0 w.heap.size 10 (by omega)).trans (by go_simp), (z0 w.heap.size 11 (by omega)).trans (by go_simp), (z0 w.heap.size 12 (by omega)).trans (by go_simp), (z0 w.heap.size 13 (by omega)).trans (by go_simp), (z0 (w.heap.size + 1) 0 (by omega)).trans (by go_simp), (z0 (w.heap.size + 1) 1 (by omega)).trans (by go_simp), (z0 (w.heap.size + 1) 2 (by omega)).trans (by go_simp), (z0 (w.heap.size + 1) 3 (by omega)).trans (by go_simp), (z0 (w.heap.size + 1) 4 (by omega)).trans (by go_simp), (z0 (w.heap.size + 1) 5 (by omega)).trans (by go_simp), (z0 (w.heap.size + 1) 6 (by omega)).trans (by go_simp), (z0 (w.heap.size + 1) 7 (by omega)).trans (by go_simp), (z0 (w.heap.size + 1) 8 (by omega)).trans (by go_simp), (z0 (w.heap.size + 1) 9 (by omega)).trans (by go_simp), (z0 (w.heap.size + 1) 10 (by omega)).trans (by go_simp), (z0 (w.heap.size + 1) 11 (by omega)).trans (by go_simp), (z0 (w.heap.size + 1) 12 (by omega)).trans (by go_simp), (z0 (w.heap.size + 1) 13 (by omega)).trans (by go_simp)⟩
  have HY : Hid (w.heap.size + 2 ≤ W0.heap.size) := show w.heap.size + 2 ≤ W0.heap.size by rw [hW0]; simp
  obtain ⟨x0, x1, x2, x3, x4, x5, x6, x7, x8, x9, x10, x11, x12, x13, y0, y1, y2, y3, y4, y5, y6, y7, y8, y9, y10, y11, y12, y13⟩ := HK.out _ (Below.refl _ _)
  have HW := Lib.hid hW0
  clear hW0
  go_enter Tryz.func4, Tryz.ntmps4
  go_upto_region 1 with fail
  rw [← HW.out]
  go_wp2_with fail
  refine (HSa.out _ (HF.out _ (Below.refl _ _))).mono ?_
  rintro e w1 ⟨ta, rfl, hpa, hb1⟩
  have HB1 : Hid (Below (w.heap.size + 2) W0 w1) := hb1.mono HY.out
  have HPA := Lib.hid hpa
  clear hb1 hpa x0 x1 x2 x3 x4 x5 x6 x7 x8 x9 x10 x11 x12 x13 y0 y1 y2 y3 y4 y5 y6 y7 y8 y9 y10 y11 y12 y13
  obtain ⟨x0, x1, x2, x3, x4, x5, x6, x7, x8, x9, x10, x11, x12, x13, y0, y1, y2, y3, y4, y5, y6, y7, y8, y9, y10, y11, y12, y13⟩ := HK.out _ HB1.out
  rcases ta with _ | _
  · go_wp2_with (go_at_call 9; refine (HA.out _ (HF.out _ HB1.out)).mono ?_; rintro e wa ⟨rfl, hba⟩; have HZ := Lib.hid ((HF.out _ HB1.out).trans (hba.mono (HF.out _ HB1.out).size)); clear hba)
    go_ret
    exact ⟨rfl, HZ.out⟩
  go_wp2_with fail
  refine (HSb.out _ (HF.out _ HB1.out)).mono ?_
  rintro e w2 ⟨tb, rfl, hpb, hb2⟩
  have HB2 : Hid (Below (w.heap.size + 2) W0 w2) := HB1.out.trans (hb2.mono (Nat.le_trans HY.out HB1.out.size))
  clear hb2 hpb x0 x1 x2 x3 x4 x5 x6 x7 x8 x9 x10 x11 x12 x13 y0 y1 y2 y3 y4 y5 y6 y7 y8 y9 y10 y11 y12 y13
  obtain ⟨x0, x1, x2, x3, x4, x5, x6, x7, x8, x9, x10, x11, x12, x13, y0, y1, y2, y3, y4, y5, y6, y7, y8, y9, y10, y11, y12, y13⟩ := HK.out _ HB2.out
  rcases tb with _ | _
  · go_wp2_with (go_at_call 9; refine (HA.out _ (HF.out _ HB2.out)).mono ?_; rintro e wa ⟨rfl, hba⟩; have HZ := Lib.hid ((HF.out _ HB2.out).trans (hba.mono (HF.out _ HB2.out).size)); clear hba)
    go_ret
    exact ⟨rfl, HZ.out⟩
  have HP := Lib.hid (HSP.out (HPA.out (by first | rfl | trivial)))
  clear HSa HSb HPA HSP
  go_wp2_with fail
  go_cut [29] from 17 (fun s wx => s = .bool false ∧ Hid (Below (w.heap.size + 2) W0 wx))
  case first =>
    have X0 := cell_regrown x0
    have X1 := cell_regrown x1
    have X2 := cell_regrown x2
    have X3 := cell_regrown x3
    have X4 := cell_regrown x4
    have X5 := cell_regrown x5
    have X6 := cell_regrown x6
    have X7 := cell_regrown x7
    have X8 := cell_regrown x8
    have X9 := cell_regrown x9
    have X10 := cell_regrown x10
    have X11 := cell_regrown x11
    have X12 := cell_regrown x12
    have X13 := cell_regrown x13
    have Y0 := cell_regrown y0
    have Y1 := cell_regrown y1
    have Y2 := cell_regrown y2
    have Y3 := cell_regrown y3
    have Y4 := cell_regrown y4
    have Y5 := cell_regrown y5
    have Y6 := cell_regrown y6
    have Y7 := cell_regrown y7
    have Y8 := cell_regrown y8
    have Y9 := cell_regrown y9
    have Y10 := cell_regrown y10
    have Y11 := cell_regrown y11
    have Y12 := cell_regrown y12
    have Y13 := cell_regrown y13
    clear x0 x1 x2 x3 x4 x5 x6 x7 x8 x9 x10 x11 x12 x13 y0 y1 y2 y3 y4 y5 y6 y7 y8 y9 y10 y11 y12 y13
    rcases e0 with _ | _
    all_goals
      refine wp_region_quiet_below (by kernel_rfl) (by kernel_rfl) ?_
      iterate 3 (quiet_step (first | (go_at_call 14; exact Calls.regrown_of (HAB.out _ ((HF.out _ HB2.out).trans ((below_regrown w2 _ _).mono (HF.out _ HB2.out).size))))))
      iterate 3 (quiet_step (first | (go_at_call 15; exact Calls.regrown_of (HRR.out _ ((HF.out _ HB2.out).trans ((below_regrown w2 _ _).mono (HF.out _ HB2.out).size))))))
      repeat (quiet_step (first | (go_at_call 14; exact Calls.regrown_of (HAA.out _ ((HF.out _ HB2.out).trans ((below_regrown w2 _ _).mono (HF.out _ HB2.out).size))))))
      refine wpQuiet_nil ?_
      intro w3 hw'
      have HB3 : Hid (Below (w.heap.size + 2) W0 w3) := by
        obtain ⟨p, hw''⟩ := hw'
        rw [hw'']
        exact HB2.out.trans ((below_regrown w2 _ _).mono (Nat.le_trans HY.out HB2.out.size))
      clear hw'
      go_wp2_with fail
      go_meet
      case rel => exact ⟨rfl, HB3⟩
  case rest =>
  clear x0 x1 x2 x3 x4 x5 x6 x7 x8 x9 x10 x11 x12 x13 y0 y1 y2 y3 y4 y5 y6 y7 y8 y9 y10 y11 y12 y13 HAB HRR HAA
  obtain ⟨hu, HB⟩ := hcut
  subst hu
  obtain ⟨x0, x1, x2, x3, x4, x5, x6, x7, x8, x9, x10, x11, x12, x13, y0, y1, y2, y3, y4, y5, y6, y7, y8, y9, y10, y11, y12, y13⟩ := HK.out _ HB.out
  have hsz : w.heap.size + 2 ≤ wc.heap.size := Nat.le_trans HY.out HB.out.size
  have hBw : B ≤ wc.heap.size := by omega
  have u0 := fun o => (World.cell?_alloc_lt wc o ⟨w.heap.size, 0, none⟩ (by show w.heap.size < _; omega)).trans x0
  have u1 := fun o => (World.cell?_alloc_lt wc o ⟨w.heap.size, 1, none⟩ (by show w.heap.size < _; omega)).trans x1
  have u2 := fun o => (World.cell?_alloc_lt wc o ⟨w.heap.size, 2, none⟩ (by show w.heap.size < _; omega)).trans x2
  have u3 := fun o => (World.cell?_alloc_lt wc o ⟨w.heap.size, 3, none⟩ (by show w.heap.size < _; omega)).trans x3
  have u4 := fun o => (World.cell?_alloc_lt wc o ⟨w.heap.size, 4, none⟩ (by show w.heap.size < _; omega)).trans x4
  have u5 := fun o => (World.cell?_alloc_lt wc o ⟨w.heap.size, 5, none⟩ (by show w.heap.size < _; omega)).trans x5
  have u6 := fun o => (World.cell?_alloc_lt wc o ⟨w.heap.size, 6, none⟩ (by show w.heap.size < _; omega)).trans x6
  have u7 := fun o => (World.cell?_alloc_lt wc o ⟨w.heap.size, 7, none⟩ (by show w.heap.size < _; omega)).trans x7
  have u8 := fun o => (World.cell?_alloc_lt wc o ⟨w.heap.size, 8, none⟩ (by show w.heap.size < _; omega)).trans x8
  have u9 := fun o => (World.cell?_alloc_lt wc o ⟨w.heap.size, 9, none⟩ (by show w.heap.size < _; omega)).trans x9
  have u10 := fun o => (World.cell?_alloc_lt wc o ⟨w.heap.size, 10, none⟩ (by show w.heap.size < _; omega)).trans x10
  have u11 := fun o => (World.cell?_alloc_lt wc o ⟨w.heap.size, 11, none⟩ (by show w.heap.size < _; omega)).trans x11
  have u12 := fun o => (World.cell?_alloc_lt wc o ⟨w.heap.size, 12, none⟩ (by show w.heap.size < _; omega)).trans x12
  have u13 := fun o => (World.cell?_alloc_lt wc o ⟨w.heap.size, 13, none⟩ (by show w.heap.size < _; omega)).trans x13
  have t12 := fun o o' => (World.cell?_alloc_lt (wc.alloc o) o' ⟨w.heap.size, 12, none⟩ (by rw [World.size_alloc]; show w.heap.size < _; omega)).trans (u12 o)
  have t13 := fun o o' => (World.cell?_alloc_lt (wc.alloc o) o' ⟨w.heap.size, 13, none⟩ (by rw [World.size_alloc]; show w.heap.size < _; omega)).trans (u13 o)
  clear y0 y1 y2 y3 y4 y5 y6 y7 y8 y9 y10 y11 y12 y13
  go_upto_region 6 with fail
  have h7' : n % 7 = 0 ∨ n % 7 = 1 ∨ n % 7 = 2 ∨ n % 7 = 3 ∨ n % 7 = 4 ∨ n % 7 = 5 ∨ n % 7 = 6 := by omega
  rcases h7' with h7 | h7 | h7 | h7 | h7 | h7 | h7
  · as_aux_lemma =>
    have hrem : ((n : Int) % 7) = 0 := by omega
    clear h7 _hn
    have Hne : Hid (¬ a4 = bits .xor .i64 a4 1) := fun h => xor1_ne a4 h.symm
    go_wp2_with fail
    refine (HC.out ⟨a0, a1, a2, a3, bits .xor .i64 a4 1, a5, a6, a7, a8, a9, a10, a11, ad, ab⟩ _ (by intro h; simp only [LetD.mk.injEq] at h; exact Hne.out h.2.2.2.2.1) _ B ((HF.out _ HB.out).alloc (HF.out _ HB.out).size (.cells #[.string a0, .string a1, .int .i64 a2, .int .i64 a3, .int .i64 (bits .xor .i64 a4 1), .string a5, .string a6, .string a7, .int .i64 a8, .int .i64 a9, .string a10, .int .i64 a11, .slice Ad ad.length cd, .slice Ab ab.length cb] 33)) ⟨_, _, rfl, (Hda.out.below ((HF.out _ HB.out).mono hB)).alloc hBw _, (Hsa.out.below ((HF.out _ HB.out).mono hB)).alloc hBw _⟩ (by simp; omega) (Nat.le_refl _)).mono ?_
    rintro e w4 ⟨rfl, hb4⟩
    have HB4 : Hid (Below (w.heap.size + 2) W0 w4) := (HB.out.alloc hsz _).trans (hb4.mono (by simp; omega))
    clear hb4
    go_wp2_with (go_at_call 9; refine (HA.out _ (HF.out _ HB4.out)).mono ?_; rintro e wa ⟨rfl, hba⟩; have HZ := Lib.hid ((HF.out _ HB4.out).trans (hba.mono (HF.out _ HB4.out).size)); clear hba)
    go_ret
    exact ⟨rfl, HZ.out⟩
  · as_aux_lemma =>
    have hrem : ((n : Int) % 7) = 1 := by omega
    clear h7 _hn
    have n1 : ¬ 9223372036854775807 < a6.size + 1 := by have := HTx.out; omega
    go_wp2_with fail
    refine (HC.out ⟨a0, a1, a2, a3, a4, a5, a6 ++ ⟨#[120]⟩, a7, a8, a9, a10, a11, ad, ab⟩ _ (by intro h; simp only [LetD.mk.injEq] at h; have h2 := congrArg ByteArray.size h.2.2.2.2.2.2.1; rw [ByteArray.size_append] at h2; have h3 : (⟨#[120]⟩ : ByteArray).size = 1 := rfl; omega) _ B ((HF.out _ HB.out).alloc (HF.out _ HB.out).size (.cells #[.string a0, .string a1, .int .i64 a2, .int .i64 a3, .int .i64 a4, .string a5, .string (a6 ++ ⟨#[120]⟩), .string a7, .int .i64 a8, .int .i64 a9, .string a10, .int .i64 a11, .slice Ad ad.length cd, .slice Ab ab.length cb] 33)) ⟨_, _, rfl, (Hda.out.below ((HF.out _ HB.out).mono hB)).alloc hBw _, (Hsa.out.below ((HF.out _ HB.out).mono hB)).alloc hBw _⟩ (by simp; omega) (Nat.le_refl _)).mono ?_
    rintro e w4 ⟨rfl, hb4⟩
    have HB4 : Hid (Below (w.heap.size + 2) W0 w4) := (HB.out.alloc hsz _).trans (hb4.mono (by simp; omega))
    clear hb4
    go_wp2_with (go_at_call 9; refine (HA.out _ (HF.out _ HB4.out)).mono ?_; rintro e wa ⟨rfl, hba⟩; have HZ := Lib.hid ((HF.out _ HB4.out).trans (hba.mono (HF.out _ HB4.out).size)); clear hba)
    go_ret
    exact ⟨rfl, HZ.out⟩
  · as_aux_lemma =>
    have hrem : ((n : Int) % 7) = 2 := by omega
    clear h7 _hn
    have Hne : Hid (¬ a8 = bits .xor .i64 a8 1) := fun h => xor1_ne a8 h.symm
    go_wp2_with fail
    refine (HC.out ⟨a0, a1, a2, a3, a4, a5, a6, a7, bits .xor .i64 a8 1, a9, a10, a11, ad, ab⟩ _ (by intro h; simp only [LetD.mk.injEq] at h; exact Hne.out h.2.2.2.2.2.2.2.2.1) _ B ((HF.out _ HB.out).alloc (HF.out _ HB.out).size (.cells #[.string a0, .string a1, .int .i64 a2, .int .i64 a3, .int .i64 a4, .string a5, .string a6, .string a7, .int .i64 (bits .xor .i64 a8 1), .int .i64 a9, .string a10, .int .i64 a11, .slice Ad ad.length cd, .slice Ab ab.length cb] 33)) ⟨_, _, rfl, (Hda.out.below ((HF.out _ HB.out).mono hB)).alloc hBw _, (Hsa.out.below ((HF.out _ HB.out).mono hB)).alloc hBw _⟩ (by simp; omega) (Nat.le_refl _)).mono ?_
    rintro e w4 ⟨rfl, hb4⟩
    have HB4 : Hid (Below (w.heap.size + 2) W0 w4) := (HB.out.alloc hsz _).trans (hb4.mono (by simp; omega))
    clear hb4
    go_wp2_with (go_at_call 9; refine (HA.out _ (HF.out _ HB4.out)).mono ?_; rintro e wa ⟨rfl, hba⟩; have HZ := Lib.hid ((HF.out _ HB4.out).trans (hba.mono (HF.out _ HB4.out).size)); clear hba)
    go_ret
    exact ⟨rfl, HZ.out⟩
  · as_aux_lemma =>
    have hrem : ((n : Int) % 7) = 3 := by omega
    clear h7 _hn
    have Hne : Hid (¬ a11 = bits .xor .i64 a11 1) := fun h => xor1_ne a11 h.symm
    go_wp2_with fail
    refine (HC.out ⟨a0, a1, a2, a3, a4, a5, a6, a7, a8, a9, a10, bits .xor .i64 a11 1, ad, ab⟩ _ (by intro h; simp only [LetD.mk.injEq] at h; exact Hne.out h.2.2.2.2.2.2.2.2.2.2.2.1) _ B ((HF.out _ HB.out).alloc (HF.out _ HB.out).size (.cells #[.string a0, .string a1, .int .i64 a2, .int .i64 a3, .int .i64 a4, .string a5, .string a6, .string a7, .int .i64 a8, .int .i64 a9, .string a10, .int .i64 (bits .xor .i64 a11 1), .slice Ad ad.length cd, .slice Ab ab.length cb] 33)) ⟨_, _, rfl, (Hda.out.below ((HF.out _ HB.out).mono hB)).alloc hBw _, (Hsa.out.below ((HF.out _ HB.out).mono hB)).alloc hBw _⟩ (by simp; omega) (Nat.le_refl _)).mono ?_
    rintro e w4 ⟨rfl, hb4⟩
    have HB4 : Hid (Below (w.heap.size + 2) W0 w4) := (HB.out.alloc hsz _).trans (hb4.mono (by simp; omega))
    clear hb4
    go_wp2_with (go_at_call 9; refine (HA.out _ (HF.out _ HB4.out)).mono ?_; rintro e wa ⟨rfl, hba⟩; have HZ := Lib.hid ((HF.out _ HB4.out).trans (hba.mono (HF.out _ HB4.out).size)); clear hba)
    go_ret
    exact ⟨rfl, HZ.out⟩
  · as_aux_lemma =>
    have hrem : ((n : Int) % 7) = 4 := by omega
    clear h7 _hn
    have H8 := Lib.hid HP.out
    obtain ⟨W5, hW5⟩ : ∃ W5, W5 = (wc.alloc (.cells #[.string a0, .string a1, .int .i64 a2, .int .i64 a3, .int .i64 a4, .string a5, .string a6, .string a7, .int .i64 a8, .int .i64 a9, .string a10, .int .i64 a11, .slice Ad ad.length cd, .slice Ab ab.length cb] 33)).alloc (.cells #[] 38) := ⟨_, rfl⟩
    have hs5 : W5.heap.size = wc.heap.size + 2 := by rw [hW5]; simp
    have HW5 : Hid (Below wc.heap.size wc W5) := by rw [hW5]; exact ((Below.refl _ _).alloc (Nat.le_refl _) _).alloc (by simp) _
    have HE5 : Hid (OwnC W5 (wc.heap.size + 1) 38 4 [] (.slice (some ⟨wc.heap.size + 1, 0, none⟩) 0 0)) := by
      have := OwnC.empty_ (w0 := wc.alloc (.cells #[.string a0, .string a1, .int .i64 a2, .int .i64 a3, .int .i64 a4, .string a5, .string a6, .string a7, .int .i64 a8, .int .i64 a9, .string a10, .int .i64 a11, .slice Ad ad.length cd, .slice Ab ab.length cb] 33)) (base := wc.heap.size + 1) 38 4 (by simp)
      rw [World.size_alloc] at this
      rw [hW5]; exact this
    have HJ : Hid (∀ W, Below (wc.heap.size + 1) W5 W → W.cell? ⟨wc.heap.size, 0, none⟩ = some (.string a0) ∧ W.cell? ⟨wc.heap.size, 1, none⟩ = some (.string a1) ∧ W.cell? ⟨wc.heap.size, 2, none⟩ = some (.int .i64 a2) ∧ W.cell? ⟨wc.heap.size, 3, none⟩ = some (.int .i64 a3) ∧ W.cell? ⟨wc.heap.size, 4, none⟩ = some (.int .i64 a4) ∧ W.cell? ⟨wc.heap.size, 5, none⟩ = some (.string a5) ∧ W.cell? ⟨wc.heap.size, 6, none⟩ = some (.string a6) ∧ W.cell? ⟨wc.heap.size, 7, none⟩ = some (.string a7) ∧ W.cell? ⟨wc.heap.size, 8, none⟩ = some (.int .i64 a8) ∧ W.cell? ⟨wc.heap.size, 9, none⟩ = some (.int .i64 a9) ∧ W.cell? ⟨wc.heap.size, 10, none⟩ = some (.string a10) ∧ W.cell? ⟨wc.heap.size, 11, none⟩ = some (.int .i64 a11) ∧ W.cell? ⟨wc.heap.size, 12, none⟩ = some (.slice Ad ad.length cd) ∧ W.cell? ⟨wc.heap.size, 13, none⟩ = some (.slice Ab ab.length cb) ∧ W.frozen? ⟨wc.heap.size, 12, none⟩ = false ∧ W.frozen? ⟨wc.heap.size, 13, none⟩ = false) := fun W h => by
      obtain ⟨z0, z1⟩ := bcell h
      refine ⟨(z0 wc.heap.size 0 (by omega)).trans (by rw [hW5]; go_simp), (z0 wc.heap.size 1 (by omega)).trans (by rw [hW5]; go_simp), (z0 wc.heap.size 2 (by omega)).trans (by rw [hW5]; go_simp), (z0 wc.heap.size 3 (by omega)).trans (by rw [hW5]; go_simp), (z0 wc.heap.size 4 (by omega)).trans (by rw [hW5]; go_simp), (z0 wc.heap.size 5 (by omega)).trans (by rw [hW5]; go_simp), (z0 wc.heap.size 6 (by omega)).trans (by rw [hW5]; go_simp), (z0 wc.heap.size 7 (by omega)).trans (by rw [hW5]; go_simp), (z0 wc.heap.size 8 (by omega)).trans (by rw [hW5]; go_simp), (z0 wc.heap.size 9 (by omega)).trans (by rw [hW5]; go_simp), (z0 wc.heap.size 10 (by omega)).trans (by rw [hW5]; go_simp), (z0 wc.heap.size 11 (by omega)).trans (by rw [hW5]; go_simp), (z0 wc.heap.size 12 (by omega)).trans (by rw [hW5]; go_simp), (z0 wc.heap.size 13 (by omega)).trans (by rw [hW5]; go_simp), (z1 wc.heap.size 12 (by omega)).trans (by rw [hW5]; go_simp), (z1 wc.heap.size 13 (by omega)).trans (by rw [hW5]; go_simp)⟩
    obtain ⟨fvs, hfa, hfs⟩ := Hda.out.below ((HF.out _ HB.out).mono hB)
    have HX5 : Hid (SlC W5 B 4 (List.zipWith drow ad fvs) (.slice Ad ad.length cd)) := hfs.below (HW5.out.mono hBw)
    have HFA := Lib.hid hfa
    have HFL : Hid ((List.zipWith drow ad fvs).length = ad.length) := DocsC.rows_len hfa
    clear hfa hfs
    have HW5' := Lib.hid hW5
    clear hW5
    go_wp2_with (at_builtin; go_must (rw [← HW5'.out]; refine wpList_appN _ rfl (.tmp 65) (.tmp 67) 31 rfl elDocs (wc.heap.size + 1) [] _ rfl HE5.out B (List.zipWith drow ad fvs) _ rfl HX5.out drow_len (drow_one HFA.out) (by have := H8.out; rw [HFL.out]; simp; omega) (by have := H8.out; unfold maxLen; rw [HFL.out]; simp; omega) (by omega) ?_))
    intro v6 w6 ho6 hg6 hb6 _
    have HB6 := Lib.hid hb6
    have HO6 := Lib.hid (show OwnC w6 (wc.heap.size + 1) 38 4 (List.zipWith drow ad fvs) v6 from by simpa using ho6)
    have hs6 : wc.heap.size + 2 ≤ w6.heap.size := by rw [← hs5]; exact hb6.size
    clear ho6 hg6 hb6
    go_wp2_with (at_builtin; go_must (refine wpList_appN _ rfl (.tmp 68) (.tmp 70) 31 rfl elDocs (wc.heap.size + 1) _ v6 rfl (HO6.out.alloc _) _ [drow zeroDoc (.slice none 0 0)] _ rfl (SlC.litN [drow zeroDoc (.slice none 0 0)] (by simp [drow]) rfl 38 w6.heap.size 1 (w6.heap.size + 1) rfl rfl (by omega) (by unfold maxLen; omega)) (by simp [drow]) (by simp [drow, Value.oneCell']) (by have := H8.out; rw [HFL.out]; simp; omega) (by have := H8.out; unfold maxLen; rw [HFL.out]; simp; omega) (by simp; omega) ?_))
    intro v7 w7 ho7 hg7 hb7 _
    have HW7 : Hid (Below (wc.heap.size + 1) W5 w7) := (HB6.out.alloc (by omega) _).trans hb7
    have HX7 : Hid (Below wc.heap.size wc w7) := HW5.out.trans (HW7.out.mono (by omega))
    have hs7 : wc.heap.size + 2 ≤ w7.heap.size := by rw [← hs5]; exact HW7.out.size
    have HO7 := Lib.hid (show OwnC w7 (wc.heap.size + 1) 38 4 (List.zipWith drow (ad ++ [zeroDoc]) (fvs ++ [.slice none 0 0])) v7 from by rw [zip_snoc HFA.out.len]; exact ho7)
    have HL7 : Hid ((List.zipWith drow (ad ++ [zeroDoc]) (fvs ++ [.slice none 0 0])).length = ad.length + 1) := by
      show _ = _
      rw [zip_snoc HFA.out.len, List.length_append, HFL.out]; rfl
    clear ho7 hg7 hb7
    obtain ⟨A7, c7, hv7, -⟩ := HO7.out.sl
    rw [HL7.out] at hv7
    subst hv7
    clear x0 x1 x2 x3 x4 x5 x6 x7 x8 x9 x10 x11 x12 x13 u0 u1 u2 u3 u4 u5 u6 u7 u8 u9 u10 u11 u12 u13 t12 t13
    obtain ⟨j0, j1, j2, j3, j4, j5, j6, j7, j8, j9, j10, j11, j12, j13, j14, j15⟩ := HJ.out _ HW7.out
    have HBc : Hid (Below (w.heap.size + 2) W0 w7) := HB.out.trans (HX7.out.mono hsz)
    obtain ⟨x0, x1, x2, x3, x4, x5, x6, x7, x8, x9, x10, x11, x12, x13, y0, y1, y2, y3, y4, y5, y6, y7, y8, y9, y10, y11, y12, y13⟩ := HK.out _ HBc.out
    clear y0 y1 y2 y3 y4 y5 y6 y7 y8 y9 y10 y11 y12 y13
    have hnb : wc.heap.size ≠ w.heap.size := by omega
    go_wp2_with fail
    refine (HC.out ⟨a0, a1, a2, a3, a4, a5, a6, a7, a8, a9, a10, a11, ad ++ [zeroDoc], ab⟩ _ (by intro h; simp only [LetD.mk.injEq] at h; have h2 := congrArg List.length h.2.2.2.2.2.2.2.2.2.2.2.2.1; simp at h2) _ w7.heap.size ((HF.out _ HBc.out).setCell (p := ⟨wc.heap.size, 12, none⟩) (by show w.heap.size ≤ wc.heap.size; omega) (.slice A7 (ad.length + 1) c7)) ⟨_, _, rfl, ⟨fvs ++ [.slice none 0 0], All2.snoc (HFA.out.imp fun d f h => (((h.below (HX7.out.mono hBw)).setCell (p := ⟨wc.heap.size, 12, none⟩) hBw _).more (by omega))) (SlC.nil_ _ _ _), (by have := (HO7.out.setBelow (p := ⟨wc.heap.size, 12, none⟩) (by show wc.heap.size < wc.heap.size + 1; omega) (.slice A7 (ad.length + 1) c7)).sl; simpa using this)⟩, (((Hsa.out.below ((HF.out _ HBc.out).mono hB)).setCell (p := ⟨wc.heap.size, 12, none⟩) hBw _).more (by omega))⟩ (by simp) (by omega)).mono ?_
    rintro e w4 ⟨rfl, hb4⟩
    have HB4 : Hid (Below (w.heap.size + 2) W0 w4) := (HBc.out.setCell (p := ⟨wc.heap.size, 12, none⟩) hsz (.slice A7 (ad.length + 1) c7)).trans (hb4.mono (by simp; omega))
    clear hb4
    go_wp2_with (go_at_call 9; refine (HA.out _ (HF.out _ HB4.out)).mono ?_; rintro e wa ⟨rfl, hba⟩; have HZ := Lib.hid ((HF.out _ HB4.out).trans (hba.mono (HF.out _ HB4.out).size)); clear hba)
    go_ret
    exact ⟨rfl, HZ.out⟩
  · as_aux_lemma =>
    have hrem : ((n : Int) % 7) = 5 := by omega
    clear h7 _hn
    have H8 := Lib.hid HP.out
    obtain ⟨W5, hW5⟩ : ∃ W5, W5 = (wc.alloc (.cells #[.string a0, .string a1, .int .i64 a2, .int .i64 a3, .int .i64 a4, .string a5, .string a6, .string a7, .int .i64 a8, .int .i64 a9, .string a10, .int .i64 a11, .slice Ad ad.length cd, .slice Ab ab.length cb] 33)).alloc (.cells #[] 9) := ⟨_, rfl⟩
    have hs5 : W5.heap.size = wc.heap.size + 2 := by rw [hW5]; simp
    have HW5 : Hid (Below wc.heap.size wc W5) := by rw [hW5]; exact ((Below.refl _ _).alloc (Nat.le_refl _) _).alloc (by simp) _
    have HE5 : Hid (OwnC W5 (wc.heap.size + 1) 9 1 [] (.slice (some ⟨wc.heap.size + 1, 0, none⟩) 0 0)) := by
      have := OwnC.empty_ (w0 := wc.alloc (.cells #[.string a0, .string a1, .int .i64 a2, .int .i64 a3, .int .i64 a4, .string a5, .string a6, .string a7, .int .i64 a8, .int .i64 a9, .string a10, .int .i64 a11, .slice Ad ad.length cd, .slice Ab ab.length cb] 33)) (base := wc.heap.size + 1) 9 1 (by simp)
      rw [World.size_alloc] at this
      rw [hW5]; exact this
    have HJ : Hid (∀ W, Below (wc.heap.size + 1) W5 W → W.cell? ⟨wc.heap.size, 0, none⟩ = some (.string a0) ∧ W.cell? ⟨wc.heap.size, 1, none⟩ = some (.string a1) ∧ W.cell? ⟨wc.heap.size, 2, none⟩ = some (.int .i64 a2) ∧ W.cell? ⟨wc.heap.size, 3, none⟩ = some (.int .i64 a3) ∧ W.cell? ⟨wc.heap.size, 4, none⟩ = some (.int .i64 a4) ∧ W.cell? ⟨wc.heap.size, 5, none⟩ = some (.string a5) ∧ W.cell? ⟨wc.heap.size, 6, none⟩ = some (.string a6) ∧ W.cell? ⟨wc.heap.size, 7, none⟩ = some (.string a7) ∧ W.cell? ⟨wc.heap.size, 8, none⟩ = some (.int .i64 a8) ∧ W.cell? ⟨wc.heap.size, 9, none⟩ = some (.int .i64 a9) ∧ W.cell? ⟨wc.heap.size, 10, none⟩ = some (.string a10) ∧ W.cell? ⟨wc.heap.size, 11, none⟩ = some (.int .i64 a11) ∧ W.cell? ⟨wc.heap.size, 12, none⟩ = some (.slice Ad ad.length cd) ∧ W.cell? ⟨wc.heap.size, 13, none⟩ = some (.slice Ab ab.length cb) ∧ W.frozen? ⟨wc.heap.size, 12, none⟩ = false ∧ W.frozen? ⟨wc.heap.size, 13, none⟩ = false) := fun W h => by
      obtain ⟨z0, z1⟩ := bcell h
      refine ⟨(z0 wc.heap.size 0 (by omega)).trans (by rw [hW5]; go_simp), (z0 wc.heap.size 1 (by omega)).trans (by rw [hW5]; go_simp), (z0 wc.heap.size 2 (by omega)).trans (by rw [hW5]; go_simp), (z0 wc.heap.size 3 (by omega)).trans (by rw [hW5]; go_simp), (z0 wc.heap.size 4 (by omega)).trans (by rw [hW5]; go_simp), (z0 wc.heap.size 5 (by omega)).trans (by rw [hW5]; go_simp), (z0 wc.heap.size 6 (by omega)).trans (by rw [hW5]; go_simp), (z0 wc.heap.size 7 (by omega)).trans (by rw [hW5]; go_simp), (z0 wc.heap.size 8 (by omega)).trans (by rw [hW5]; go_simp), (z0 wc.heap.size 9 (by omega)).trans (by rw [hW5]; go_simp), (z0 wc.heap.size 10 (by omega)).trans (by rw [hW5]; go_simp), (z0 wc.heap.size 11 (by omega)).trans (by rw [hW5]; go_simp), (z0 wc.heap.size 12 (by omega)).trans (by rw [hW5]; go_simp), (z0 wc.heap.size 13 (by omega)).trans (by rw [hW5]; go_simp), (z1 wc.heap.size 12 (by omega)).trans (by rw [hW5]; go_simp), (z1 wc.heap.size 13 (by omega)).trans (by rw [hW5]; go_simp)⟩
    have HX5 : Hid (SlC W5 B 1 (ab.map srow) (.slice Ab ab.length cb)) := (Hsa.out.below ((HF.out _ HB.out).mono hB)).below (HW5.out.mono hBw)
    have HFL : Hid ((ab.map srow).length = ab.length) := List.length_map _
    have HW5' := Lib.hid hW5
    clear hW5
    go_wp2_with (at_builtin; go_must (rw [← HW5'.out]; refine wpList_appN _ rfl (.tmp 75) (.tmp 77) 23 rfl elStrs (wc.heap.size + 1) [] _ rfl HE5.out B (ab.map srow) _ rfl HX5.out (srow_len ab) (srow_one ab) (by have := H8.out; rw [HFL.out]; simp; omega) (by have := H8.out; unfold maxLen; rw [HFL.out]; simp; omega) (by omega) ?_))
    intro v6 w6 ho6 hg6 hb6 _
    have HB6 := Lib.hid hb6
    have HO6 := Lib.hid (show OwnC w6 (wc.heap.size + 1) 9 1 (ab.map srow) v6 from by simpa using ho6)
    have hs6 : wc.heap.size + 2 ≤ w6.heap.size := by rw [← hs5]; exact hb6.size
    clear ho6 hg6 hb6
    go_wp2_with (at_builtin; go_must (refine wpList_appN _ rfl (.tmp 78) (.tmp 79) 23 rfl elStrs (wc.heap.size + 1) _ v6 rfl (HO6.out.alloc _) _ [srow ⟨#[120]⟩] _ rfl (SlC.litN [srow ⟨#[120]⟩] (by simp [srow]) rfl 9 w6.heap.size 1 (w6.heap.size + 1) rfl rfl (by omega) (by unfold maxLen; omega)) (by simp [srow]) (by simp [srow, Value.oneCell']) (by have := H8.out; rw [HFL.out]; simp; omega) (by have := H8.out; unfold maxLen; rw [HFL.out]; simp; omega) (by simp; omega) ?_))
    intro v7 w7 ho7 hg7 hb7 _
    have HW7 : Hid (Below (wc.heap.size + 1) W5 w7) := (HB6.out.alloc (by omega) _).trans hb7
    have HX7 : Hid (Below wc.heap.size wc w7) := HW5.out.trans (HW7.out.mono (by omega))
    have hs7 : wc.heap.size + 2 ≤ w7.heap.size := by rw [← hs5]; exact HW7.out.size
    have HO7 := Lib.hid (show OwnC w7 (wc.heap.size + 1) 9 1 ((ab ++ [(⟨#[120]⟩ : ByteArray)]).map srow) v7 from by rw [List.map_append]; exact ho7)
    have HL7 : Hid (((ab ++ [(⟨#[120]⟩ : ByteArray)]).map srow).length = ab.length + 1) := by show _ = _; simp
    clear ho7 hg7 hb7
    obtain ⟨A7, c7, hv7, -⟩ := HO7.out.sl
    rw [HL7.out] at hv7
    subst hv7
    clear x0 x1 x2 x3 x4 x5 x6 x7 x8 x9 x10 x11 x12 x13 u0 u1 u2 u3 u4 u5 u6 u7 u8 u9 u10 u11 u12 u13 t12 t13
    obtain ⟨j0, j1, j2, j3, j4, j5, j6, j7, j8, j9, j10, j11, j12, j13, j14, j15⟩ := HJ.out _ HW7.out
    have HBc : Hid (Below (w.heap.size + 2) W0 w7) := HB.out.trans (HX7.out.mono hsz)
    obtain ⟨x0, x1, x2, x3, x4, x5, x6, x7, x8, x9, x10, x11, x12, x13, y0, y1, y2, y3, y4, y5, y6, y7, y8, y9, y10, y11, y12, y13⟩ := HK.out _ HBc.out
    clear y0 y1 y2 y3 y4 y5 y6 y7 y8 y9 y10 y11 y12 y13
    have hnb : wc.heap.size ≠ w.heap.size := by omega
    go_wp2_with fail
    refine (HC.out ⟨a0, a1, a2, a3, a4, a5, a6, a7, a8, a9, a10, a11, ad, ab ++ [⟨#[120]⟩]⟩ _ (by intro h; simp only [LetD.mk.injEq] at h; have h2 := congrArg List.length h.2.2.2.2.2.2.2.2.2.2.2.2.2; simp at h2) _ w7.heap.size ((HF.out _ HBc.out).setCell (p := ⟨wc.heap.size, 13, none⟩) (by show w.heap.size ≤ wc.heap.size; omega) (.slice A7 (ab.length + 1) c7)) ⟨_, _, rfl, ((Hda.out.below ((HF.out _ HBc.out).mono hB)).keep (w' := w7.setCell ⟨wc.heap.size, 13, none⟩ (.slice A7 (ab.length + 1) c7)) fun q hq => World.cell?_setCell_other w7 ⟨wc.heap.size, 13, none⟩ q _ (fun e => by subst e; simp only at hq; omega)).more (by omega), (by have := (HO7.out.setBelow (p := ⟨wc.heap.size, 13, none⟩) (by show wc.heap.size < wc.heap.size + 1; omega) (.slice A7 (ab.length + 1) c7)).sl; simpa using this)⟩ (by simp) (by omega)).mono ?_
    rintro e w4 ⟨rfl, hb4⟩
    have HB4 : Hid (Below (w.heap.size + 2) W0 w4) := (HBc.out.setCell (p := ⟨wc.heap.size, 13, none⟩) hsz (.slice A7 (ab.length + 1) c7)).trans (hb4.mono (by simp; omega))
    clear hb4
    go_wp2_with (go_at_call 9; refine (HA.out _ (HF.out _ HB4.out)).mono ?_; rintro e wa ⟨rfl, hba⟩; have HZ := Lib.hid ((HF.out _ HB4.out).trans (hba.mono (HF.out _ HB4.out).size)); clear hba)
    go_ret
    exact ⟨rfl, HZ.out⟩
  · as_aux_lemma =>
    have hrem : ((n : Int) % 7) = 6 := by omega
    clear h7 _hn
    have Hne : Hid (¬ a3 = bits .xor .i64 a3 1) := fun h => xor1_ne a3 h.symm
    go_wp2_with fail
    refine (HC.out ⟨a0, a1, a2, bits .xor .i64 a3 1, a4, a5, a6, a7, a8, a9, a10, a11, ad, ab⟩ _ (by intro h; simp only [LetD.mk.injEq] at h; exact Hne.out h.2.2.2.1) _ B ((HF.out _ HB.out).alloc (HF.out _ HB.out).size (.cells #[.string a0, .string a1, .int .i64 a2, .int .i64 (bits .xor .i64 a3 1), .int .i64 a4, .string a5, .string a6, .string a7, .int .i64 a8, .int .i64 a9, .string a10, .int .i64 a11, .slice Ad ad.length cd, .slice Ab ab.length cb] 33)) ⟨_, _, rfl, (Hda.out.below ((HF.out _ HB.out).mono hB)).alloc hBw _, (Hsa.out.below ((HF.out _ HB.out).mono hB)).alloc hBw _⟩ (by simp; omega) (Nat.le_refl _)).mono ?_
    rintro e w4 ⟨rfl, hb4⟩
    have HB4 : Hid (Below (w.heap.size + 2) W0 w4) := (HB.out.alloc hsz _).trans (hb4.mono (by simp; omega))
    clear hb4
    go_wp2_with (go_at_call 9; refine (HA.out _ (HF.out _ HB4.out)).mono ?_; rintro e wa ⟨rfl, hba⟩; have HZ := Lib.hid ((HF.out _ HB4.out).trans (hba.mono (HF.out _ HB4.out).size)); clear hba)
    go_ret
    exact ⟨rfl, HZ.out⟩
end Go.Proofs.YtlffpelkmdcckaaGreatDoor
