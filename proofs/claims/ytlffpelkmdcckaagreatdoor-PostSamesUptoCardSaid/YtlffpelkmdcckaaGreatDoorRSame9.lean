/- 09: the referee's Same of letters. Printed by wip/tools/gen_rsame9.py. -/
import Derived.Test.YtlffpelkmdcckaaGreatDoorMay9
import Derived.Deep.LoopGhost
namespace Go.Proofs.YtlffpelkmdcckaaGreatDoor
open Go Go.RowKit Go.Sup
set_option maxRecDepth 100000
def firstEq (a b : LetD) : Bool := decide (a.src = b.src) && (decide (a.dst = b.dst) && (decide (a.number = b.number) && (decide (a.kind = b.kind) && (decide (a.ack = b.ack) && (decide (a.deal = b.deal) && (decide (a.text = b.text) && (decide (a.party = b.party) && (decide (a.index = b.index) && (decide (a.day = b.day) && (mEq a b && (decide (a.docs.length = b.docs.length) && decide (a.boxes.length = b.boxes.length))))))))))))
theorem letEq_first (a b : LetD) : letEq a b = (firstEq a b && (docsEq a.docs b.docs && strsEq a.boxes b.boxes)) := by
  by_cases h : a = b
  · subst h
    rw [letEq_iff.2 rfl]
    unfold firstEq mEq docsEq strsEq
    simp
  · have h1 : letEq a b = false := by
      cases hx : letEq a b
      · rfl
      · exact absurd (letEq_iff.1 hx) h
    rw [h1]
    symm
    cases hx : (firstEq a b && (docsEq a.docs b.docs && strsEq a.boxes b.boxes))
    · rfl
    · exfalso
      apply h
      apply letEq_iff.1
      unfold firstEq mEq docsEq strsEq at hx
      unfold letEq hEq nEq mEq docsEq strsEq
      simp only [Bool.and_eq_true, decide_eq_true_eq] at hx ⊢
      obtain ⟨⟨h0, h1, h2, h3, h4, h5, h6, h7, h8, h9, h10, -, -⟩, h12, h13⟩ := hx
      exact ⟨⟨h0, h1, h5, h6, h7⟩, ⟨h2, h3, h4, h8, h9⟩, h10, h12, h13⟩
theorem neqM (a b : ByteArray) (m n : Int) (w : World) : (binOp .neq 30 (.agg #[.string a, .int .i64 m]) (.agg #[.string b, .int .i64 n])).run Tryz.prog w = .ok (.bool (!(decide (a = b) && decide (m = n)))) w := by
  have u9 := Tryz.underlying9
  have a9 := Tryz.isAgg9
  have z9 := Tryz.sizeOf9
  have u8 := Tryz.underlying2
  have a8 := Tryz.isAgg2
  have z8 := Tryz.sizeOf2
  have hS : Tryz.prog.underlying 30 = some (.struct (Tryz.prog.fieldsOf 30)) := by kernel_rfl
  have hp : Tryz.prog.stoodInHeld 30 = false := by kernel_rfl
  rw [run_neq_struct, show (10000 : Nat) = 9999 + 1 from rfl, run_equalIn_struct w 9999 30 _ _ hS hp]
  simp only [Program.fieldsOf, Tryz.underlying30]
  go_simp
  have e0 : ∀ a b : ByteArray, (a.toList = b.toList) = (a = b) := fun a b => propext ⟨bs_ext, fun h => by rw [h]⟩
  by_cases h0 : a = b <;> by_cases h1 : m = n <;> simp [h0, h1, e0]
theorem len_beq (a b : Nat) : ((a : Int) == (b : Int)) = decide (a = b) := by rw [Bool.eq_iff_iff]; simp; omega
set_option maxHeartbeats 8000000 in
theorem rsame9_any (a b : LetD) (w : World) (B : Nat) (va vb : Value) (ha : LetC w B a va) (hb : LetC w B b vb) (hB : B ≤ w.heap.size) :
    Calls Tryz.prog 15 #[va, vb] w fun e w' => e = .returned (.bool (letEq a b)) ∧ Below w.heap.size w w' := by
  have HL := Lib.hid (letEq_first a b)
  have HQ : Hid (firstEq a b = (decide (a.src = b.src) && (decide (a.dst = b.dst) && (decide (a.number = b.number) && (decide (a.kind = b.kind) && (decide (a.ack = b.ack) && (decide (a.deal = b.deal) && (decide (a.text = b.text) && (decide (a.party = b.party) && (decide (a.index = b.index) && (decide (a.day = b.day) && (mEq a b && (decide (a.docs.length = b.docs.length) && decide (a.boxes.length = b.boxes.length)))))))))))))) := rfl
  have HM : Hid (mEq a b = (decide (a.cur = b.cur) && decide (a.amount = b.amount))) := rfl
  have HN : Hid (firstEq a b = true → a.docs.length = b.docs.length ∧ a.boxes.length = b.boxes.length) := fun h => by
    unfold firstEq at h
    simp only [Bool.and_eq_true, decide_eq_true_eq] at h
    exact h.2.2.2.2.2.2.2.2.2.2.2
  rw [HL.out]
  obtain ⟨fe, hfe⟩ : ∃ x, x = firstEq a b := ⟨_, rfl⟩
  obtain ⟨me, hme⟩ : ∃ x, x = mEq a b := ⟨_, rfl⟩
  rw [← hme] at HQ HM
  rw [← hfe] at HQ HN ⊢
  obtain ⟨dva, bva, rfl, da, sa⟩ := ha
  obtain ⟨dvb, bvb, rfl, db', sb⟩ := hb
  obtain ⟨Ad, cd, rfl, hc1, hc2⟩ := da.form
  obtain ⟨Bd, dd, rfl, hd1, hd2⟩ := db'.form
  obtain ⟨Ab, cb, rfl, hb1, hb2, -⟩ := id sa
  obtain ⟨Bb, db, rfl, he1, he2, -⟩ := id sb
  rw [List.length_map] at sa sb hb1 he1 ⊢
  rw [List.length_map]
  have Hda := Lib.hid da
  have Hdb := Lib.hid db'
  have Hsa := Lib.hid sa
  have Hsb := Lib.hid sb
  unfold maxLen at hc2 hd2 hb2 he2
  clear HL hfe hme da db' sa sb
  obtain ⟨a0, a1, a2, a3, a4, a5, a6, a7, a8, a9, a10, a11, ad, ab⟩ := a
  obtain ⟨c0, c1, c2, c3, c4, c5, c6, c7, c8, c9, c10, c11, bd, bb⟩ := b
  simp only [LetD.val] at *
  obtain ⟨W0, hW0⟩ : ∃ W0, W0 = (w.alloc (.cells #[.string a0, .string a1, .int .i64 a2, .int .i64 a3, .int .i64 a4, .string a5, .string a6, .string a7, .int .i64 a8, .int .i64 a9, .string a10, .int .i64 a11, .slice Ad ad.length cd, .slice Ab ab.length cb] 33)).alloc (.cells #[.string c0, .string c1, .int .i64 c2, .int .i64 c3, .int .i64 c4, .string c5, .string c6, .string c7, .int .i64 c8, .int .i64 c9, .string c10, .int .i64 c11, .slice Bd bd.length dd, .slice Bb bb.length db] 33) := ⟨_, rfl⟩
  have HF : Hid (∀ W, Below (w.heap.size + 2) W0 W → Below w.heap.size w W) := fun W h => by
    rw [hW0] at h; exact (((Below.refl _ _).alloc (Nat.le_refl _) _).alloc (by simp) _).trans (h.mono (by omega))
  have HK : Hid (∀ W, Below (w.heap.size + 2) W0 W → W.cell? ⟨w.heap.size, 0, none⟩ = some (.string a0) ∧ W.cell? ⟨w.heap.size, 1, none⟩ = some (.string a1) ∧ W.cell? ⟨w.heap.size, 2, none⟩ = some (.int .i64 a2) ∧ W.cell? ⟨w.heap.size, 3, none⟩ = some (.int .i64 a3) ∧ W.cell? ⟨w.heap.size, 4, none⟩ = some (.int .i64 a4) ∧ W.cell? ⟨w.heap.size, 5, none⟩ = some (.string a5) ∧ W.cell? ⟨w.heap.size, 6, none⟩ = some (.string a6) ∧ W.cell? ⟨w.heap.size, 7, none⟩ = some (.string a7) ∧ W.cell? ⟨w.heap.size, 8, none⟩ = some (.int .i64 a8) ∧ W.cell? ⟨w.heap.size, 9, none⟩ = some (.int .i64 a9) ∧ W.cell? ⟨w.heap.size, 10, none⟩ = some (.string a10) ∧ W.cell? ⟨w.heap.size, 11, none⟩ = some (.int .i64 a11) ∧ W.cell? ⟨w.heap.size, 12, none⟩ = some (.slice Ad ad.length cd) ∧ W.cell? ⟨w.heap.size, 13, none⟩ = some (.slice Ab ab.length cb) ∧ W.cell? ⟨w.heap.size + 1, 0, none⟩ = some (.string c0) ∧ W.cell? ⟨w.heap.size + 1, 1, none⟩ = some (.string c1) ∧ W.cell? ⟨w.heap.size + 1, 2, none⟩ = some (.int .i64 c2) ∧ W.cell? ⟨w.heap.size + 1, 3, none⟩ = some (.int .i64 c3) ∧ W.cell? ⟨w.heap.size + 1, 4, none⟩ = some (.int .i64 c4) ∧ W.cell? ⟨w.heap.size + 1, 5, none⟩ = some (.string c5) ∧ W.cell? ⟨w.heap.size + 1, 6, none⟩ = some (.string c6) ∧ W.cell? ⟨w.heap.size + 1, 7, none⟩ = some (.string c7) ∧ W.cell? ⟨w.heap.size + 1, 8, none⟩ = some (.int .i64 c8) ∧ W.cell? ⟨w.heap.size + 1, 9, none⟩ = some (.int .i64 c9) ∧ W.cell? ⟨w.heap.size + 1, 10, none⟩ = some (.string c10) ∧ W.cell? ⟨w.heap.size + 1, 11, none⟩ = some (.int .i64 c11) ∧ W.cell? ⟨w.heap.size + 1, 12, none⟩ = some (.slice Bd bd.length dd) ∧ W.cell? ⟨w.heap.size + 1, 13, none⟩ = some (.slice Bb bb.length db)) := fun W h => by
    rw [hW0] at h
    obtain ⟨z0, z1⟩ := bcell h
    refine ⟨(z0 w.heap.size 0 (by omega)).trans (by go_simp), (z0 w.heap.size 1 (by omega)).trans (by go_simp), (z0 w.heap.size 2 (by omega)).trans (by go_simp), (z0 w.heap.size 3 (by omega)).trans (by go_simp), (z0 w.heap.size 4 (by omega)).trans (by go_simp), (z0 w.heap.size 5 (by omega)).trans (by go_simp), (z0 w.heap.size 6 (by omega)).trans (by go_simp), (z0 w.heap.size 7 (by omega)).trans (by go_simp), (z0 w.heap.size 8 (by omega)).trans (by go_simp), (z0 w.heap.size 9 (by omega)).trans (by go_simp), (z0 w.heap.size 10 (by omega)).trans (by go_simp), (z0 w.heap.size 11 (by omega)).trans (by go_simp), (z0 w.heap.size 12 (by omega)).trans (by go_simp), (z0 w.heap.size 13 (by omega)).trans (by go_simp), (z0 (w.heap.size + 1) 0 (by omega)).trans (by go_simp), (z0 (w.heap.size + 1) 1 (by omega)).trans (by go_simp), (z0 (w.heap.size + 1) 2 (by omega)).trans (by go_simp), (z0 (w.heap.size + 1) 3 (by omega)).trans (by go_simp), (z0 (w.heap.size + 1) 4 (by omega)).trans (by go_simp), (z0 (w.heap.size + 1) 5 (by omega)).trans (by go_simp), (z0 (w.heap.size + 1) 6 (by omega)).trans (by go_simp), (z0 (w.heap.size + 1) 7 (by omega)).trans (by go_simp), (z0 (w.heap.size + 1) 8 (by omega)).trans (by go_simp), (z0 (w.heap.size + 1) 9 (by omega)).trans (by go_simp), (z0 (w.heap.size + 1) 10 (by omega)).trans (by go_simp), (z0 (w.heap.size + 1) 11 (by omega)).trans (by go_simp), (z0 (w.heap.size + 1) 12 (by omega)).trans (by go_simp), (z0 (w.heap.size + 1) 13 (by omega)).trans (by go_simp)⟩
  have HY : Hid (w.heap.size + 2 ≤ W0.heap.size) := show w.heap.size + 2 ≤ W0.heap.size by rw [hW0]; simp
  obtain ⟨x0, x1, x2, x3, x4, x5, x6, x7, x8, x9, x10, x11, x12, x13, y0, y1, y2, y3, y4, y5, y6, y7, y8, y9, y10, y11, y12, y13⟩ := HK.out _ (Below.refl _ _)
  have HW := Lib.hid hW0
  clear hW0
  go_enter Tryz.func15, Tryz.ntmps15
  go_upto_region 1 with fail
  rw [← HW.out]
  go_cut [99] from 7 (fun s wx => s = .bool (!fe) ∧ wx = W0)
  case first =>
    have e30 : Tryz.prog.eqGuardType Tryz.prog.depth 30 = false := by kernel_rfl
    have hq : ∀ W, (binOp .neq 30 (.agg #[.string a10, .int .i64 a11]) (.agg #[.string c10, .int .i64 c11])).run Tryz.prog W = .ok (.bool (!me)) W := fun W => by rw [HM.out]; exact neqM _ _ _ _ W
    clear HK HF HY HN Hda Hdb Hsa Hsb HM
    rcases (Decidable.em (a0 = c0)).symm with h0 | h0
    · have HX : Hid (fe = false) := by show _ = _; rw [HQ.out]; simp [h0]
      have e := bs_ne h0
      have e' := bs_ne' h0
      clear h0 HQ
      go_wp2_with fail
      go_meet
      case rel => exact ⟨by rw [HX.out]; rfl, rfl⟩
    have p0 : (a0.toList == c0.toList) = true := by rw [h0]; simp
    have q0 : a0.toList = c0.toList := by rw [h0]
    have H0 := Lib.hid h0
    clear h0
    rcases (Decidable.em (a1 = c1)).symm with h1 | h1
    · have HX : Hid (fe = false) := by show _ = _; rw [HQ.out]; simp [h1]
      have e := bs_ne h1
      have e' := bs_ne' h1
      clear h1 HQ
      go_wp2_with fail
      go_meet
      case rel => exact ⟨by rw [HX.out]; rfl, rfl⟩
    have p1 : (a1.toList == c1.toList) = true := by rw [h1]; simp
    have q1 : a1.toList = c1.toList := by rw [h1]
    have H1 := Lib.hid h1
    clear h1
    rcases (Decidable.em (a2 = c2)).symm with h2 | h2
    · have HX : Hid (fe = false) := by show _ = _; rw [HQ.out]; simp [h2]
      have e : (a2 != c2) = true := by simp [h2]
      clear h2 HQ
      go_wp2_with fail
      go_meet
      case rel => exact ⟨by rw [HX.out]; rfl, rfl⟩
    have p2 : (a2 != c2) = false := by simp [h2]
    have H2 := Lib.hid h2
    clear h2
    rcases (Decidable.em (a3 = c3)).symm with h3 | h3
    · have HX : Hid (fe = false) := by show _ = _; rw [HQ.out]; simp [h3]
      have e : (a3 != c3) = true := by simp [h3]
      clear h3 HQ
      go_wp2_with fail
      go_meet
      case rel => exact ⟨by rw [HX.out]; rfl, rfl⟩
    have p3 : (a3 != c3) = false := by simp [h3]
    have H3 := Lib.hid h3
    clear h3
    rcases (Decidable.em (a4 = c4)).symm with h4 | h4
    · have HX : Hid (fe = false) := by show _ = _; rw [HQ.out]; simp [h4]
      have e : (a4 != c4) = true := by simp [h4]
      clear h4 HQ
      go_wp2_with fail
      go_meet
      case rel => exact ⟨by rw [HX.out]; rfl, rfl⟩
    have p4 : (a4 != c4) = false := by simp [h4]
    have H4 := Lib.hid h4
    clear h4
    rcases (Decidable.em (a5 = c5)).symm with h5 | h5
    · have HX : Hid (fe = false) := by show _ = _; rw [HQ.out]; simp [h5]
      have e := bs_ne h5
      have e' := bs_ne' h5
      clear h5 HQ
      go_wp2_with fail
      go_meet
      case rel => exact ⟨by rw [HX.out]; rfl, rfl⟩
    have p5 : (a5.toList == c5.toList) = true := by rw [h5]; simp
    have q5 : a5.toList = c5.toList := by rw [h5]
    have H5 := Lib.hid h5
    clear h5
    rcases (Decidable.em (a6 = c6)).symm with h6 | h6
    · have HX : Hid (fe = false) := by show _ = _; rw [HQ.out]; simp [h6]
      have e := bs_ne h6
      have e' := bs_ne' h6
      clear h6 HQ
      go_wp2_with fail
      go_meet
      case rel => exact ⟨by rw [HX.out]; rfl, rfl⟩
    have p6 : (a6.toList == c6.toList) = true := by rw [h6]; simp
    have q6 : a6.toList = c6.toList := by rw [h6]
    have H6 := Lib.hid h6
    clear h6
    rcases (Decidable.em (a7 = c7)).symm with h7 | h7
    · have HX : Hid (fe = false) := by show _ = _; rw [HQ.out]; simp [h7]
      have e := bs_ne h7
      have e' := bs_ne' h7
      clear h7 HQ
      go_wp2_with fail
      go_meet
      case rel => exact ⟨by rw [HX.out]; rfl, rfl⟩
    have p7 : (a7.toList == c7.toList) = true := by rw [h7]; simp
    have q7 : a7.toList = c7.toList := by rw [h7]
    have H7 := Lib.hid h7
    clear h7
    rcases (Decidable.em (a8 = c8)).symm with h8 | h8
    · have HX : Hid (fe = false) := by show _ = _; rw [HQ.out]; simp [h8]
      have e : (a8 != c8) = true := by simp [h8]
      clear h8 HQ
      go_wp2_with fail
      go_meet
      case rel => exact ⟨by rw [HX.out]; rfl, rfl⟩
    have p8 : (a8 != c8) = false := by simp [h8]
    have H8 := Lib.hid h8
    clear h8
    rcases (Decidable.em (a9 = c9)).symm with h9 | h9
    · have HX : Hid (fe = false) := by show _ = _; rw [HQ.out]; simp [h9]
      have e : (a9 != c9) = true := by simp [h9]
      clear h9 HQ
      go_wp2_with fail
      go_meet
      case rel => exact ⟨by rw [HX.out]; rfl, rfl⟩
    have p9 : (a9 != c9) = false := by simp [h9]
    have H9 := Lib.hid h9
    clear h9
    rcases me with _ | _
    · have HX : Hid (fe = false) := by show _ = _; rw [HQ.out]; simp
      clear HQ
      go_wp2_with fail
      go_meet
      case rel => exact ⟨by rw [HX.out]; rfl, rfl⟩
    rcases (Decidable.em (ad.length = bd.length)).symm with hd | hd
    · have HX : Hid (fe = false) := by show _ = _; rw [HQ.out]; simp [hd]
      have e : ((ad.length : Int) != (bd.length : Int)) = true := by simp; omega
      clear hd HQ
      go_wp2_with fail
      go_meet
      case rel => exact ⟨by rw [HX.out]; rfl, rfl⟩
    have pd : ((ad.length : Int) != (bd.length : Int)) = false := by simp [hd]
    have Hdx := Lib.hid hd
    clear hd
    rcases (Decidable.em (ab.length = bb.length)).symm with hb | hb
    · have HX : Hid (fe = false) := by show _ = _; rw [HQ.out]; simp [hb]
      have e : ((ab.length : Int) != (bb.length : Int)) = true := by simp; omega
      clear hb HQ
      go_wp2_with fail
      go_meet
      case rel => exact ⟨by rw [HX.out]; rfl, rfl⟩
    have pb : ((ab.length : Int) != (bb.length : Int)) = false := by simp [hb]
    have Hbx := Lib.hid hb
    clear hb
    have HX : Hid (fe = true) := by show _ = _; rw [HQ.out]; simp [H0.out, H1.out, H2.out, H3.out, H4.out, H5.out, H6.out, H7.out, H8.out, H9.out, Hdx.out, Hbx.out]
    clear HQ
    go_wp2_with fail
    go_meet
    case rel => exact ⟨by rw [HX.out]; rfl, rfl⟩
  case rest =>
  obtain ⟨hu, hwc⟩ := hcut
  subst hu
  replace hwc := hwc.symm
  subst hwc
  clear HQ HM
  rcases fe with _ | _
  · go_wp2_with fail
    go_ret
    exact ⟨rfl, HF.out _ (Below.refl _ _)⟩
  obtain ⟨hdl, hbl⟩ := HN.out rfl
  have Hdl := Lib.hid hdl
  have Hbl := Lib.hid hbl
  clear hdl hbl HN
  go_wp2_with fail
  go_loopg [5] ad.length (fun g i wr => ∃ k : Nat, k + g = ad.length ∧ i = .int .i64 k ∧ Hid (ad.take k = bd.take k) ∧ Hid (Below (w.heap.size + 2) W0 wr))
  case atStart => exact ⟨0, by omega, rfl, rfl, Below.refl _ _⟩
  case round =>
    clear x0 x1 x2 x3 x4 x5 x6 x7 x8 x9 x10 x11 x12 x13 y0 y1 y2 y3 y4 y5 y6 y7 y8 y9 y10 y11 y12 y13
    obtain ⟨k, hk, rfl, HT, HB⟩ := hrel
    obtain ⟨x0, x1, x2, x3, x4, x5, x6, x7, x8, x9, x10, x11, x12, x13, y0, y1, y2, y3, y4, y5, y6, y7, y8, y9, y10, y11, y12, y13⟩ := HK.out _ HB.out
    have hBw : w.heap.size + 2 ≤ wr.heap.size := Nat.le_trans HY.out HB.out.size
    by_cases hlt : k < ad.length
    · have hlt2 : k < bd.length := by have := Hdl.out; omega
      obtain ⟨b1, o1, fv1, rfl, hb1', hs1, p0, p1, p2, p3⟩ := doc_at (Hda.out.below ((HF.out _ HB.out).mono hB)) (List.getElem?_eq_getElem hlt)
      obtain ⟨b2, o2, fv2, rfl, hb2', hs2, q0, q1, q2, q3⟩ := doc_at (Hdb.out.below ((HF.out _ HB.out).mono hB)) (List.getElem?_eq_getElem hlt2)
      obtain ⟨d1, hd1⟩ : ∃ d, d = ad[k] := ⟨_, rfl⟩
      obtain ⟨d2, hd2⟩ : ∃ d, d = bd[k] := ⟨_, rfl⟩
      rw [← hd1] at p0 p1 p2 hs1
      rw [← hd2] at q0 q1 q2 hs2
      obtain ⟨F1, f1, rfl, -⟩ := id hs1
      obtain ⟨F2, f2, rfl, -⟩ := id hs2
      rw [List.length_map] at hs1 hs2 p3 q3
      have P0 := cell_regrown p0
      have P1 := cell_regrown p1
      have P2 := cell_regrown p2
      have P3 := cell_regrown p3
      have Q0 := cell_regrown q0
      have Q1 := cell_regrown q1
      have Q2 := cell_regrown q2
      have Q3 := cell_regrown q3
      have X11 := cell_regrown x11
      have X12 := cell_regrown x12
      have Y12 := cell_regrown y12
      have HC : Hid (∀ W, Below wr.heap.size wr W → Calls Tryz.prog 35 #[.agg #[.int .i64 d1.kind, .string d1.number, .string d1.issuer, .slice F1 d1.fields.length f1], .agg #[.int .i64 d2.kind, .string d2.number, .string d2.issuer, .slice F2 d2.fields.length f2]] W fun e w' => e = .returned (.bool (docEq d1 d2)) ∧ Below W.heap.size W w') := fun W h => alike_any d1 d2 W B _ _ (hs1.below (h.mono (by omega))) (hs2.below (h.mono (by omega))) (by have := h.size; omega)
      have hlI : (k : Int) < (ad.length : Int) := by omega
      have hlI2 : (k : Int) < (bd.length : Int) := by omega
      clear hs1 hs2 p0 p1 p2 p3 q0 q1 q2 q3 x0 x1 x2 x3 x4 x5 x6 x7 x8 x9 x10 y0 y1 y2 y3 y4 y5 y6 y7 y8 y9 y10
      rcases Decidable.em (ad[k] = bd[k]) with he | he
      · have Hx := Lib.hid he
        have hde : docEq d1 d2 = true := docEq_iff.2 (by rw [hd1, hd2]; exact he)
        rw [hde] at HC
        clear he hde hd1 hd2
        go_wp2_with fail
        refine wp_region_quiet_below (by kernel_rfl) (by kernel_rfl) ?_
        repeat (quiet_step (first | (go_at_call 35; exact Calls.regrown_of (HC.out _ (below_regrown wr _ _)))))
        refine wpQuiet_nil ?_
        intro w1 hw'
        have HB1 : Hid (Below (w.heap.size + 2) W0 w1) := by
          obtain ⟨p, hw''⟩ := hw'
          rw [hw'']
          exact HB.out.trans ((below_regrown wr _ _).mono hBw)
        clear hw'
        go_wp2_with fail
        go_roundg (ad.length - (k + 1))
        case measure => omega
        case rel =>
          refine ⟨k + 1, by omega, by go_num, ?_, HB1⟩
          show ad.take (k + 1) = bd.take (k + 1)
          rw [List.take_succ_eq_append_getElem hlt, List.take_succ_eq_append_getElem hlt2, HT.out, Hx.out]
      · have Hx := Lib.hid (docsEq_at hlt hlt2 he)
        have hde : docEq d1 d2 = false := by
          cases h : docEq d1 d2
          · rfl
          · exact absurd (docEq_iff.1 h) (by rw [hd1, hd2]; exact he)
        rw [hde] at HC
        clear he hde hd1 hd2
        go_wp2_with fail
        refine wp_region_quiet_below (by kernel_rfl) (by kernel_rfl) ?_
        repeat (quiet_step (first | (go_at_call 35; exact Calls.regrown_of (HC.out _ (below_regrown wr _ _)))))
        refine wpQuiet_nil ?_
        intro w1 hw'
        have HB1 : Hid (Below (w.heap.size + 2) W0 w1) := by
          obtain ⟨p, hw''⟩ := hw'
          rw [hw'']
          exact HB.out.trans ((below_regrown wr _ _).mono hBw)
        clear hw'
        go_wp2_with fail
        go_ret
        exact ⟨by rw [Hx.out]; rfl, HF.out _ HB1.out⟩
    · obtain rfl : k = ad.length := by omega
      have Hx := Lib.hid (docsEq_all Hdl.out HT.out)
      clear hlt HT
      go_wp2_with fail
      go_loopg [6] ab.length (fun g i wx => ∃ k : Nat, k + g = ab.length ∧ i = .int .i64 k ∧ Hid (ab.take k = bb.take k) ∧ ∃ n, wx = wr.drewN n)
      case atStart => exact ⟨0, by omega, rfl, rfl, 0, rfl⟩
      case round =>
        obtain ⟨k, hk, rfl, HT, q, rfl⟩ := hrel
        by_cases hlt : k < ab.length
        · have hlt2 : k < bb.length := by have := Hbl.out; omega
          obtain ⟨b1, o1, rfl, _, p0⟩ := str_at (Hsa.out.below ((HF.out _ HB.out).mono hB)) (List.getElem?_eq_getElem hlt)
          obtain ⟨b2, o2, rfl, _, q0⟩ := str_at (Hsb.out.below ((HF.out _ HB.out).mono hB)) (List.getElem?_eq_getElem hlt2)
          obtain ⟨s, hs⟩ : ∃ s, s = ab[k] := ⟨_, rfl⟩
          obtain ⟨t, ht⟩ : ∃ t, t = bb[k] := ⟨_, rfl⟩
          have hlI : (k : Int) < (ab.length : Int) := by omega
          have hlI2 : (k : Int) < (bb.length : Int) := by omega
          rcases Decidable.em (ab[k] = bb[k]) with he | he
          · have Hz := Lib.hid he
            rw [← he] at q0
            rw [← hs] at p0 q0
            clear he hs ht
            go_wp2_with fail
            go_quiet (fail)
            go_wp2_with fail
            go_roundg (ab.length - (k + 1))
            case measure => omega
            case rel =>
              refine ⟨k + 1, by omega, by go_num, ?_, _, rfl⟩
              show ab.take (k + 1) = bb.take (k + 1)
              rw [List.take_succ_eq_append_getElem hlt, List.take_succ_eq_append_getElem hlt2, HT.out, Hz.out]
          · have Hz := Lib.hid (strsEq_at hlt hlt2 he)
            rw [← hs] at p0
            rw [← ht] at q0
            have hne : ¬ s = t := by rw [hs, ht]; exact he
            have e1 := bs_ne hne
            have e2 := bs_ne' hne
            clear he hs ht hne
            go_wp2_with fail
            go_quiet (fail)
            go_wp2_with fail
            go_ret
            exact ⟨by rw [Hz.out]; simp, Go.Sup.below_drewN (Go.Sup.below_drewN (HF.out _ HB.out) _) _⟩
        · obtain rfl : k = ab.length := by omega
          have Hz := Lib.hid (strsEq_all Hbl.out HT.out)
          clear hlt HT
          go_wp2_with fail
          go_ret
          exact ⟨by rw [Hx.out, Hz.out]; rfl, Go.Sup.below_drewN (HF.out _ HB.out) _⟩
end Go.Proofs.YtlffpelkmdcckaaGreatDoor
