/- 09: the referee's May. Printed by wip/tools/gen_rmay9.py. -/
import Derived.Test.YtlffpelkmdcckaaGreatDoorMay9
import Derived.Test.YtlffpelkmdcckaaGreatDoorSome9
import Derived.Test.YtlffpelkmdcckaaGreatDoorSmall9
import Derived.Test.YtlffpelkmdcckaaGreatDoorPaper
namespace Go.Proofs.YtlffpelkmdcckaaGreatDoor
open Go Go.RowKit Go.Sup
set_option maxRecDepth 100000
theorem goDoc_bad {d : DocD} (h : paperOk d = false) : goDoc d = false := by unfold goDoc docE; rw [h]; rfl
theorem goDoc_ok {d : DocD} (h : paperOk d = true) : goDoc d = decide ((textS (recordF d)).size ≤ 4096) := by
  unfold goDoc docE docS; rw [h]; simp
/-- What the last test asks of an ack. -/
def ackB (l : LetD) : Bool := decide (l.number = 0) && (decide (l.deal = ⟨#[]⟩) && (decide (l.text = ⟨#[]⟩) && (decide (l.party = ⟨#[]⟩) && (decide (l.index = 0) && (decide (l.day = 0) && (noSum l.cur l.amount && decide (l.docs.length + l.boxes.length = 0)))))))
theorem ack_eq (l : LetD) : letEq l (ackOf l) = ackB l := by
  rw [Bool.eq_iff_iff, letEq_iff]
  obtain ⟨l0, l1, l2, l3, l4, l5, l6, l7, l8, l9, l10, l11, ld, lb⟩ := l
  unfold ackB ackOf noSum
  simp only [LetD.mk.injEq, Bool.and_eq_true, decide_eq_true_eq, true_and]
  constructor
  · rintro ⟨a, b, c, d, e, f, g, h, i, j⟩
    subst i; subst j
    exact ⟨a, b, c, d, e, f, ⟨g, h⟩, rfl⟩
  · rintro ⟨a, b, c, d, e, f, ⟨g, h⟩, i⟩
    have i1 : ld = [] := List.eq_nil_of_length_eq_zero (by omega)
    have i2 : lb = [] := List.eq_nil_of_length_eq_zero (by omega)
    exact ⟨a, b, c, d, e, f, g, h, i1, i2⟩
/-- A letter's texts are short. -/
def SmallT (l : LetD) : Prop := (l.src.size ≤ 1000000000 ∧ l.dst.size ≤ 1000000000 ∧ l.deal.size ≤ 1000000000 ∧ l.party.size ≤ 1000000000) ∧ ∀ b ∈ l.boxes, b.size ≤ 1000000000
def x1B (l : LetD) : Bool := nameOk l.src.data.toList && (nameOk l.dst.data.toList && (!(decide (l.src = l.dst)) && (inR l.kind 0 28 && (inR l.number 0 1048576 && inR l.ack 0 1048576))))
def x2B (l : LetD) : Bool := someOk l.deal && (someOk l.party && (decide (l.text.size ≤ 4096) && (inR l.index (-1) 2 && (inR l.day 0 1048576 && (noSum l.cur l.amount || monOk l.cur l.amount)))))
theorem letMay_ref (l : LetD) : letMay l = (x1B l && (x2B l && (decide (l.docs.length ≤ 8) && (decide (l.boxes.length ≤ 32) && (l.docs.all goDoc && ((l.boxes.all fun s => nameOk s.data.toList) && (!(decide (l.kind = 28)) || ackB l))))))) := by
  unfold letMay kB nB tB mB rB x1B x2B sB someOk noSum
  rw [ack_eq, Bool.eq_iff_iff]
  simp only [Bool.and_eq_true]
  constructor
  · rintro ⟨⟨k, ko⟩, ⟨n, a, i, d⟩, ⟨s, t, ne, de, pa, te⟩, m, ⟨d8, b8, dd, bb⟩⟩
    exact ⟨⟨s, t, ne, k, n, a⟩, ⟨de, pa, te, i, d, m⟩, d8, b8, dd, bb, ko⟩
  · rintro ⟨⟨s, t, ne, k, n, a⟩, ⟨de, pa, te, i, d, m⟩, d8, b8, dd, bb, ko⟩
    exact ⟨⟨k, ko⟩, ⟨n, a, i, d⟩, ⟨s, t, ne, de, pa, te⟩, m, ⟨d8, b8, dd, bb⟩⟩
theorem len_sum (a b : Nat) : (((a : Int) + (b : Int)) == 0) = decide (a + b = 0) := by rw [Bool.eq_iff_iff]; simp; omega
theorem size_gt (n : Nat) : decide ((4096 : Int) < (n : Int)) = !decide (n ≤ 4096) := by rw [Bool.eq_iff_iff]; simp; omega
set_option maxHeartbeats 8000000 in
theorem rmay9_any (l : LetD) (hl : SmallL l) (hz : SmallT l) (w : World) (B : Nat) (v : Value) (hv : LetC w B l v) (hB : B ≤ w.heap.size) :
    Calls Tryz.prog 17 #[v] w fun e w' => e = .returned (.bool (letMay l)) ∧ Below w.heap.size w w' := by
  have HNm : Hid (∀ s : ByteArray, s.size ≤ 1000000000 → ∀ W, Calls Tryz.prog 44 #[.string s] W fun e w' => e = .returned (.bool (nameOk s.data.toList)) ∧ w' = W) := fun s h W => refName_any s h W
  have HSm : Hid (∀ s : ByteArray, s.size ≤ 1000000000 → ∀ W, Calls Tryz.prog 46 #[.string s] W fun e w' => e = .returned (.bool (someOk s)) ∧ w' = W) := fun s h W => some_any s h W
  have HBt : Hid (∀ n a b W, Calls Tryz.prog 45 #[.int .i64 n, .int .i64 a, .int .i64 b] W fun e w' => e = .returned (.bool (inR n a b)) ∧ w' = W) := fun n a b W => between_any n a b W
  have HNo : Hid (∀ W, Calls Tryz.prog 47 #[.agg #[.string l.cur, .int .i64 l.amount]] W fun e w' => e = .returned (.bool (noSum l.cur l.amount)) ∧ Below W.heap.size W w') := fun W => none_any _ _ W
  have HMm : Hid (∀ W, Calls Tryz.prog 48 #[.agg #[.string l.cur, .int .i64 l.amount]] W fun e w' => e = .returned (.bool (monOk l.cur l.amount)) ∧ Below W.heap.size W w') := fun W => refMMay_any _ _ W
  have HX1 : Hid (x1B l = (nameOk l.src.data.toList && (nameOk l.dst.data.toList && (!(decide (l.src = l.dst)) && (inR l.kind 0 28 && (inR l.number 0 1048576 && inR l.ack 0 1048576)))))) := rfl
  have HX2 : Hid (x2B l = (someOk l.deal && (someOk l.party && (decide (l.text.size ≤ 4096) && (inR l.index (-1) 2 && (inR l.day 0 1048576 && (noSum l.cur l.amount || monOk l.cur l.amount))))))) := rfl
  have HAK : Hid (ackB l = (decide (l.number = 0) && (decide (l.deal = ⟨#[]⟩) && (decide (l.text = ⟨#[]⟩) && (decide (l.party = ⟨#[]⟩) && (decide (l.index = 0) && (decide (l.day = 0) && (noSum l.cur l.amount && decide (l.docs.length + l.boxes.length = 0))))))))) := rfl
  rw [letMay_ref l]
  obtain ⟨x1, hx1⟩ : ∃ G, G = x1B l := ⟨_, rfl⟩
  obtain ⟨x2, hx2⟩ : ∃ G, G = x2B l := ⟨_, rfl⟩
  obtain ⟨xa, hxa⟩ : ∃ G, G = ackB l := ⟨_, rfl⟩
  rw [← hx1] at HX1 ⊢
  rw [← hx2] at HX2 ⊢
  rw [← hxa] at HAK ⊢
  obtain ⟨bn, hbn⟩ : ∃ G, G = noSum l.cur l.amount := ⟨_, rfl⟩
  obtain ⟨bm, hbm⟩ : ∃ G, G = monOk l.cur l.amount := ⟨_, rfl⟩
  rw [← hbn] at HNo HX2 HAK
  rw [← hbm] at HMm HX2
  obtain ⟨dv, bv, rfl, da, sa⟩ := hv
  obtain ⟨Ad, cd, rfl, hcd1, hcd2⟩ := da.form
  obtain ⟨Ab, cb, rfl, hcb1, hcb2, -⟩ := id sa
  rw [List.length_map] at sa hcb1 ⊢
  unfold maxLen at hcd2 hcb2
  obtain ⟨R, hR⟩ : ∃ R, R = (x1 && (x2 && (decide (l.docs.length ≤ 8) && (decide (l.boxes.length ≤ 32) && (l.docs.all goDoc && ((l.boxes.all fun s => nameOk s.data.toList) && (!(decide (l.kind = 28)) || xa))))))) := ⟨_, rfl⟩
  rw [← hR]
  have HR := Lib.hid hR
  have HDa : Hid (∀ d ∈ l.docs, SmallE d) := hl
  have HZ := Lib.hid hz.1
  have HZB := Lib.hid hz.2
  have Hda := Lib.hid da
  have Hsa := Lib.hid sa
  clear hR hbn hbm hx1 hx2 hxa hl hz da sa
  obtain ⟨l0, l1, l2, l3, l4, l5, l6, l7, l8, l9, l10, l11, ld, lb⟩ := l
  simp only [LetD.val] at *
  obtain ⟨W0, hW0⟩ : ∃ W0, W0 = w.alloc (.cells #[.string l0, .string l1, .int .i64 l2, .int .i64 l3, .int .i64 l4, .string l5, .string l6, .string l7, .int .i64 l8, .int .i64 l9, .string l10, .int .i64 l11, .slice Ad ld.length cd, .slice Ab lb.length cb] 33) := ⟨_, rfl⟩
  have HF : Hid (∀ W, Below (w.heap.size + 1) W0 W → Below w.heap.size w W) := fun W h => by
    rw [hW0] at h; exact ((Below.refl _ _).alloc (Nat.le_refl _) _).trans (h.mono (by omega))
  have HK : Hid (∀ W, Below (w.heap.size + 1) W0 W → W.cell? ⟨w.heap.size, 0, none⟩ = some (.string l0) ∧ W.cell? ⟨w.heap.size, 1, none⟩ = some (.string l1) ∧ W.cell? ⟨w.heap.size, 2, none⟩ = some (.int .i64 l2) ∧ W.cell? ⟨w.heap.size, 3, none⟩ = some (.int .i64 l3) ∧ W.cell? ⟨w.heap.size, 4, none⟩ = some (.int .i64 l4) ∧ W.cell? ⟨w.heap.size, 5, none⟩ = some (.string l5) ∧ W.cell? ⟨w.heap.size, 6, none⟩ = some (.string l6) ∧ W.cell? ⟨w.heap.size, 7, none⟩ = some (.string l7) ∧ W.cell? ⟨w.heap.size, 8, none⟩ = some (.int .i64 l8) ∧ W.cell? ⟨w.heap.size, 9, none⟩ = some (.int .i64 l9) ∧ W.cell? ⟨w.heap.size, 10, none⟩ = some (.string l10) ∧ W.cell? ⟨w.heap.size, 11, none⟩ = some (.int .i64 l11) ∧ W.cell? ⟨w.heap.size, 12, none⟩ = some (.slice Ad ld.length cd) ∧ W.cell? ⟨w.heap.size, 13, none⟩ = some (.slice Ab lb.length cb)) := fun W h => by
    rw [hW0] at h
    obtain ⟨z0, z1⟩ := bcell h
    refine ⟨(z0 w.heap.size 0 (by omega)).trans (by go_simp), (z0 w.heap.size 1 (by omega)).trans (by go_simp), (z0 w.heap.size 2 (by omega)).trans (by go_simp), (z0 w.heap.size 3 (by omega)).trans (by go_simp), (z0 w.heap.size 4 (by omega)).trans (by go_simp), (z0 w.heap.size 5 (by omega)).trans (by go_simp), (z0 w.heap.size 6 (by omega)).trans (by go_simp), (z0 w.heap.size 7 (by omega)).trans (by go_simp), (z0 w.heap.size 8 (by omega)).trans (by go_simp), (z0 w.heap.size 9 (by omega)).trans (by go_simp), (z0 w.heap.size 10 (by omega)).trans (by go_simp), (z0 w.heap.size 11 (by omega)).trans (by go_simp), (z0 w.heap.size 12 (by omega)).trans (by go_simp), (z0 w.heap.size 13 (by omega)).trans (by go_simp)⟩
  have HY : Hid (w.heap.size + 1 ≤ W0.heap.size) := show w.heap.size + 1 ≤ W0.heap.size by rw [hW0]; simp
  have HB : Hid (Below (w.heap.size + 1) W0 W0) := Below.refl _ _
  obtain ⟨k0, k1, k2, k3, k4, k5, k6, k7, k8, k9, k10, k11, k12, k13⟩ := HK.out _ HB.out
  have HW := Lib.hid hW0
  clear hW0
  go_enter Tryz.func17, Tryz.ntmps17
  go_upto_region 1 with fail
  rw [← HW.out]
  go_cut [41] from 7 (fun s wx => s = .bool (!x1) ∧ Hid (Below (w.heap.size + 1) W0 wx))
  case first =>
    go_wp2_with (first | (go_at_call 44; (with_reducible refine (HNm.out _ (by first | exact HZ.out.1 | exact HZ.out.2.1) _).mono ?_); rintro e w1 ⟨rfl, rfl⟩) | (go_at_call 45; (with_reducible refine (HBt.out _ _ _ _).mono ?_); rintro e w1 ⟨rfl, rfl⟩))
    all_goals
      go_meet
      case rel => exact ⟨by rw [HX1.out]; simp [*, bs_eq, lst_beq], HB⟩
  case rest =>
  clear HB k0 k1 k2 k3 k4 k5 k6 k7 k8 k9 k10 k11 k12 k13 HX1
  obtain ⟨hu, HB⟩ := hcut
  subst hu
  obtain ⟨k0, k1, k2, k3, k4, k5, k6, k7, k8, k9, k10, k11, k12, k13⟩ := HK.out _ HB.out
  rcases x1 with _ | _
  · have HE : Hid (R = false) := HR.out
    go_wp2_with fail
    go_ret
    exact ⟨by rw [HE.out]; rfl, HF.out _ HB.out⟩
  go_upto_region 3 with fail
  go_cut [81] from 42 (fun s wx => s = .bool (!x2) ∧ Hid (Below (w.heap.size + 1) W0 wx))
  case first =>
    by_cases h6 : l6.size ≤ 4096
    · have h6I : ¬ (4096 : Int) < (l6.size : Int) := by omega
      have h6d : decide (l6.size ≤ 4096) = true := by simp [h6]
      rw [h6d] at HX2
      clear h6 h6d
      rcases bn with _ | _
      all_goals
        go_wp2_with (first | (go_at_call 46; (with_reducible refine (HSm.out _ (by first | exact HZ.out.2.2.1 | exact HZ.out.2.2.2) _).mono ?_); rintro e w1 ⟨rfl, rfl⟩) | (go_at_call 45; (with_reducible refine (HBt.out _ _ _ _).mono ?_); rintro e w1 ⟨rfl, rfl⟩) | (go_at_call 47; (with_reducible refine (HNo.out _).mono ?_); rintro e w1 ⟨rfl, hb1⟩; have HB := Lib.hid (HB.out.trans (hb1.mono (Nat.le_trans HY.out HB.out.size))); clear hb1 k0 k1 k2 k3 k4 k5 k6 k7 k8 k9 k10 k11 k12 k13; obtain ⟨k0, k1, k2, k3, k4, k5, k6, k7, k8, k9, k10, k11, k12, k13⟩ := HK.out _ HB.out) | (go_at_call 48; (with_reducible refine (HMm.out _).mono ?_); rintro e w1 ⟨rfl, hb1⟩; have HB := Lib.hid (HB.out.trans (hb1.mono (Nat.le_trans HY.out HB.out.size))); clear hb1 k0 k1 k2 k3 k4 k5 k6 k7 k8 k9 k10 k11 k12 k13; obtain ⟨k0, k1, k2, k3, k4, k5, k6, k7, k8, k9, k10, k11, k12, k13⟩ := HK.out _ HB.out))
        all_goals
          go_meet
          case rel => exact ⟨by rw [HX2.out]; first | (simp [*]; done) | (simp [*]; omega) | (simp [*]; intro h; exfalso; omega), HB⟩
    · have h6I : (4096 : Int) < (l6.size : Int) := by omega
      have h6d : decide (l6.size ≤ 4096) = false := by simp [h6]
      rw [h6d] at HX2
      clear h6 h6d
      rcases bn with _ | _
      all_goals
        go_wp2_with (first | (go_at_call 46; (with_reducible refine (HSm.out _ (by first | exact HZ.out.2.2.1 | exact HZ.out.2.2.2) _).mono ?_); rintro e w1 ⟨rfl, rfl⟩) | (go_at_call 45; (with_reducible refine (HBt.out _ _ _ _).mono ?_); rintro e w1 ⟨rfl, rfl⟩) | (go_at_call 47; (with_reducible refine (HNo.out _).mono ?_); rintro e w1 ⟨rfl, hb1⟩; have HB := Lib.hid (HB.out.trans (hb1.mono (Nat.le_trans HY.out HB.out.size))); clear hb1 k0 k1 k2 k3 k4 k5 k6 k7 k8 k9 k10 k11 k12 k13; obtain ⟨k0, k1, k2, k3, k4, k5, k6, k7, k8, k9, k10, k11, k12, k13⟩ := HK.out _ HB.out) | (go_at_call 48; (with_reducible refine (HMm.out _).mono ?_); rintro e w1 ⟨rfl, hb1⟩; have HB := Lib.hid (HB.out.trans (hb1.mono (Nat.le_trans HY.out HB.out.size))); clear hb1 k0 k1 k2 k3 k4 k5 k6 k7 k8 k9 k10 k11 k12 k13; obtain ⟨k0, k1, k2, k3, k4, k5, k6, k7, k8, k9, k10, k11, k12, k13⟩ := HK.out _ HB.out))
        all_goals
          go_meet
          case rel => exact ⟨by rw [HX2.out]; first | (simp [*]; done) | (simp [*]; omega) | (simp [*]; intro h; exfalso; omega), HB⟩
  case rest =>
  clear HB k0 k1 k2 k3 k4 k5 k6 k7 k8 k9 k10 k11 k12 k13 HX2 HMm HSm HBt
  obtain ⟨hu, HB⟩ := hcut
  subst hu
  obtain ⟨k0, k1, k2, k3, k4, k5, k6, k7, k8, k9, k10, k11, k12, k13⟩ := HK.out _ HB.out
  rcases x2 with _ | _
  · have HE : Hid (R = false) := HR.out
    go_wp2_with fail
    go_ret
    exact ⟨by rw [HE.out]; rfl, HF.out _ HB.out⟩
  by_cases h8 : ld.length ≤ 8
  case neg =>
    have h8I : (8 : Int) < (ld.length : Int) := by omega
    have HE : Hid (R = false) := by show R = false; rw [HR.out]; simp [h8]
    clear h8
    go_wp2_with fail
    go_ret
    exact ⟨by rw [HE.out]; rfl, HF.out _ HB.out⟩
  by_cases h32 : lb.length ≤ 32
  case neg =>
    have h8I : ¬ (8 : Int) < (ld.length : Int) := by omega
    have h32I : (32 : Int) < (lb.length : Int) := by omega
    have HE : Hid (R = false) := by show R = false; rw [HR.out]; simp [h32]
    clear h8 h32
    go_wp2_with fail
    go_ret
    exact ⟨by rw [HE.out]; rfl, HF.out _ HB.out⟩
  have h8I : ¬ (8 : Int) < (ld.length : Int) := by omega
  have h32I : ¬ (32 : Int) < (lb.length : Int) := by omega
  obtain ⟨xd, hxd⟩ : ∃ G, G = ld.all goDoc := ⟨_, rfl⟩
  obtain ⟨xb, hxb⟩ : ∃ G, G = lb.all fun s => nameOk s.data.toList := ⟨_, rfl⟩
  have HXD := Lib.hid hxd
  have HXB := Lib.hid hxb
  have HR2 : Hid (R = (xd && (xb && (!(decide (l3 = 28)) || xa)))) := by
    show R = _
    rw [HR.out, hxd, hxb]; simp [h8, h32]
  clear hxd hxb HR h8 h32
  go_wp2_with fail
  go_loopw [3] (fun i wr => ∃ k : Nat, k ≤ ld.length ∧ i = .int .i64 k ∧ Hid ((ld.take k).all goDoc = true ∧ Below (w.heap.size + 1) W0 wr)) (fun i _ => ld.length - (intOf i).toNat)
  case atStart => exact ⟨0, Nat.zero_le _, rfl, rfl, HB.out⟩
  case round =>
    clear k0 k1 k2 k3 k4 k5 k6 k7 k8 k9 k10 k11 k12 k13 HB
    obtain ⟨k, hk, rfl, HO⟩ := hrel
    obtain ⟨k0, k1, k2, k3, k4, k5, k6, k7, k8, k9, k10, k11, k12, k13⟩ := HK.out _ HO.out.2
    by_cases hlt : k < ld.length
    · have hBr : B ≤ wr.heap.size := by have := (HF.out _ HO.out.2).size; omega
      obtain ⟨b1, o1, fv1, rfl, hb1', hs1, x0, x1, x2, x3⟩ := doc_at (Hda.out.below ((HF.out _ HO.out.2).mono hB)) (List.getElem?_eq_getElem hlt)
      obtain ⟨d1, hd1⟩ : ∃ d, d = ld[k] := ⟨_, rfl⟩
      rw [← hd1] at x0 x1 x2 hs1
      obtain ⟨F1, f1, rfl, -⟩ := id hs1
      rw [List.length_map] at hs1 x3
      have hde := HDa.out d1 (by rw [hd1]; exact List.getElem_mem hlt)
      have HP : Hid (∀ W, Below wr.heap.size wr W → Calls Tryz.prog 49 #[.agg #[.int .i64 d1.kind, .string d1.number, .string d1.issuer, .slice F1 d1.fields.length f1]] W fun e w' => e = .returned (.bool (paperOk d1)) ∧ Below W.heap.size W w') := fun W h => refPaper_any d1 hde.1 W B _ (hs1.below (h.mono hBr)) (Nat.le_trans hBr h.size) hde.2
      have HC : Hid (∀ W, Below wr.heap.size wr W → Calls Tryz.prog 50 #[.agg #[.int .i64 d1.kind, .string d1.number, .string d1.issuer, .slice F1 d1.fields.length f1]] W fun e w' => ∃ v', e = .returned v' ∧ SlC w' w'.heap.size 2 ((recordF d1).map frow) v' ∧ Below W.heap.size W w') := fun W h => refRecord_any d1 W B _ (hs1.below (h.mono hBr)) (Nat.le_trans hBr h.size) hde.2
      have HTx : Hid (∀ W V, SlC W W.heap.size 2 ((recordF d1).map frow) V → Calls Tryz.prog 24 #[V] W fun e w' => e = .returned (.tuple #[.string (textS (recordF d1)), .int .i64 (textE (recordF d1))]) ∧ Below W.heap.size W w') := fun W V h => refText_any (recordF d1) (record_small hde.1) W _ V h (Nat.le_refl _)
      have HBAD : Hid (goDoc d1 = false → R = false) := fun h => by
        rw [HR2.out, HXD.out, show ld.all goDoc = false from by
          rw [List.all_eq_false]
          exact ⟨d1, by rw [hd1]; exact List.getElem_mem hlt, by rw [h]; decide⟩]
        rfl
      have HGO : Hid (goDoc d1 = true → (ld.take (k + 1)).all goDoc = true) := fun h => by
        rw [List.take_succ_eq_append_getElem hlt, List.all_append, HO.out.1, ← hd1]
        simp [h]
      have HD1 := Lib.hid (fun h => goDoc_bad (d := d1) h)
      have HD2 := Lib.hid (fun h => goDoc_ok (d := d1) h)
      obtain ⟨p1, hp1⟩ : ∃ G, G = paperOk d1 := ⟨_, rfl⟩
      obtain ⟨t1, ht1⟩ : ∃ G, G = textS (recordF d1) := ⟨_, rfl⟩
      obtain ⟨e1, he1⟩ : ∃ G, G = textE (recordF d1) := ⟨_, rfl⟩
      rw [← hp1] at HP HD1 HD2
      rw [← ht1] at HTx HD2
      rw [← he1] at HTx
      have hlI : (k : Int) < (ld.length : Int) := by omega
      clear hs1 hd1 hde hp1 ht1 he1
      rcases p1 with _ | _
      · have HE : Hid (R = false) := HBAD.out (HD1.out rfl)
        clear HC HTx HBAD HGO HD1 HD2
        go_wp2_with fail
        (with_reducible refine (HP.out _ (Below.refl _ _)).mono ?_)
        rintro e w1 ⟨rfl, hb1⟩
        have HB1 : Hid (Below (w.heap.size + 1) W0 w1) := HO.out.2.trans (hb1.mono (Nat.le_trans HY.out HO.out.2.size))
        clear hb1
        go_wp2_with fail
        go_ret
        exact ⟨by rw [HE.out]; rfl, HF.out _ HB1.out⟩
      · have HD3 := Lib.hid (HD2.out rfl)
        clear HD1 HD2
        go_wp2_with fail
        (with_reducible refine (HP.out _ (Below.refl _ _)).mono ?_)
        rintro e w1 ⟨rfl, hb1⟩
        have HBw : Hid (Below wr.heap.size wr w1) := hb1
        have HB1 : Hid (Below (w.heap.size + 1) W0 w1) := HO.out.2.trans (hb1.mono (Nat.le_trans HY.out HO.out.2.size))
        obtain ⟨z0, -⟩ := bcell hb1
        have y0 := (z0 _ _ (by show b1 < wr.heap.size; omega)).trans x0
        have y1 := (z0 _ _ (by show b1 < wr.heap.size; omega)).trans x1
        have y2 := (z0 _ _ (by show b1 < wr.heap.size; omega)).trans x2
        have y3 := (z0 _ _ (by show b1 < wr.heap.size; omega)).trans x3
        clear hb1 z0 x0 x1 x2 x3 k0 k1 k2 k3 k4 k5 k6 k7 k8 k9 k10 k11 k12 k13
        obtain ⟨k0, k1, k2, k3, k4, k5, k6, k7, k8, k9, k10, k11, k12, k13⟩ := HK.out _ HB1.out
        go_wp2_with fail
        (with_reducible refine (HC.out _ HBw.out).mono ?_)
        rintro e w2 ⟨v', rfl, hs2, hb2⟩
        have HS2 := Lib.hid hs2
        have HB2 : Hid (Below (w.heap.size + 1) W0 w2) := HB1.out.trans (hb2.mono (Nat.le_trans HY.out HB1.out.size))
        clear hs2 hb2 y0 y1 y2 y3 k0 k1 k2 k3 k4 k5 k6 k7 k8 k9 k10 k11 k12 k13
        go_wp2_with fail
        (with_reducible refine (HTx.out _ _ HS2.out).mono ?_)
        rintro e w3 ⟨rfl, hb3⟩
        have HB3 : Hid (Below (w.heap.size + 1) W0 w3) := HB2.out.trans (hb3.mono (Nat.le_trans HY.out HB2.out.size))
        clear hb3
        by_cases h4 : t1.size ≤ 4096
        · have h4I : ¬ (4096 : Int) < (t1.size : Int) := by omega
          have HG := Lib.hid (HGO.out (by rw [HD3.out]; simp [h4]))
          clear h4
          go_wp2_with fail
          go_roundw
          case rel => exact ⟨k + 1, hlt, by go_num, HG.out, HB3.out⟩
          case measure => simp [intOf]; omega
        · have h4I : (4096 : Int) < (t1.size : Int) := by omega
          have HE : Hid (R = false) := HBAD.out (by rw [HD3.out]; simp [h4])
          clear h4
          go_wp2_with fail
          go_ret
          exact ⟨by rw [HE.out]; rfl, HF.out _ HB3.out⟩
    · obtain rfl : k = ld.length := by omega
      have HR3 : Hid (R = (xb && (!(decide (l3 = 28)) || xa))) := by
        show R = _
        have := HO.out.1
        rw [List.take_length] at this
        rw [HR2.out, HXD.out, this]; rfl
      have HB := Lib.hid HO.out.2
      clear hlt hk HO HXD HR2
      go_wp2_with fail
      go_loopw [6] (fun i wr => ∃ k : Nat, k ≤ lb.length ∧ i = .int .i64 k ∧ Hid ((lb.take k).all (fun s => nameOk s.data.toList) = true ∧ Below (w.heap.size + 1) W0 wr)) (fun i _ => lb.length - (intOf i).toNat)
      case atStart => exact ⟨0, Nat.zero_le _, rfl, rfl, HB.out⟩
      case round =>
        clear k0 k1 k2 k3 k4 k5 k6 k7 k8 k9 k10 k11 k12 k13 HB
        obtain ⟨k, hk, rfl, HO⟩ := hrel
        obtain ⟨k0, k1, k2, k3, k4, k5, k6, k7, k8, k9, k10, k11, k12, k13⟩ := HK.out _ HO.out.2
        by_cases hlt : k < lb.length
        · obtain ⟨b1, o1, rfl, hb1', x0⟩ := str_at (Hsa.out.below ((HF.out _ HO.out.2).mono hB)) (List.getElem?_eq_getElem hlt)
          obtain ⟨s1, hd1⟩ : ∃ d, d = lb[k] := ⟨_, rfl⟩
          rw [← hd1] at x0
          have HS1 : Hid (s1.size ≤ 1000000000) := HZB.out s1 (by rw [hd1]; exact List.getElem_mem hlt)
          have HBAD : Hid (nameOk s1.data.toList = false → R = false) := fun h => by
            rw [HR3.out, HXB.out, show (lb.all fun s => nameOk s.data.toList) = false from by
              rw [List.all_eq_false]
              exact ⟨s1, by rw [hd1]; exact List.getElem_mem hlt, by rw [h]; decide⟩]
            rfl
          have HGO : Hid (nameOk s1.data.toList = true → (lb.take (k + 1)).all (fun s => nameOk s.data.toList) = true) := fun h => by
            rw [List.take_succ_eq_append_getElem hlt, List.all_append, HO.out.1, ← hd1]
            simp [h]
          have HN1 : Hid (∀ W, Calls Tryz.prog 44 #[.string s1] W fun e w' => e = .returned (.bool (nameOk s1.data.toList)) ∧ w' = W) := fun W => HNm.out s1 HS1.out W
          obtain ⟨p1, hp1⟩ : ∃ G, G = nameOk s1.data.toList := ⟨_, rfl⟩
          rw [← hp1] at HN1 HBAD HGO
          have hlI : (k : Int) < (lb.length : Int) := by omega
          clear hd1 hp1
          rcases p1 with _ | _
          · have HE : Hid (R = false) := HBAD.out rfl
            go_wp2_with fail
            (with_reducible refine (HN1.out _).mono ?_)
            rintro e w1 ⟨rfl, rfl⟩
            go_wp2_with fail
            go_ret
            exact ⟨by rw [HE.out]; rfl, HF.out _ HO.out.2⟩
          · have HG := Lib.hid (HGO.out rfl)
            go_wp2_with fail
            (with_reducible refine (HN1.out _).mono ?_)
            rintro e w1 ⟨rfl, rfl⟩
            go_wp2_with fail
            go_roundw
            case rel => exact ⟨k + 1, hlt, by go_num, HG.out, HO.out.2⟩
            case measure => simp [intOf]; omega
        · obtain rfl : k = lb.length := by omega
          have HR4 : Hid (R = (!(decide (l3 = 28)) || xa)) := by
            show R = _
            have := HO.out.1
            rw [List.take_length] at this
            rw [HR3.out, HXB.out, this]; rfl
          have HB := Lib.hid HO.out.2
          clear hlt hk HO HXB HR3
          by_cases hk28 : l3 = 28
          · subst hk28
            have HE : Hid (R = xa) := by show R = _; rw [HR4.out]; simp
            clear HR4
            rcases bn with _ | _
            all_goals
              go_wp2_with (go_at_call 47; (with_reducible refine (HNo.out _).mono ?_); rintro e w1 ⟨rfl, hb1⟩; have HB := Lib.hid (HB.out.trans (hb1.mono (Nat.le_trans HY.out HB.out.size))); clear hb1 k0 k1 k2 k3 k4 k5 k6 k7 k8 k9 k10 k11 k12 k13; obtain ⟨k0, k1, k2, k3, k4, k5, k6, k7, k8, k9, k10, k11, k12, k13⟩ := HK.out _ HB.out)
              all_goals
                go_ret
                exact ⟨by rw [HE.out, HAK.out]; first | (simp [*, bs_eq]; done) | (simp [*, bs_eq, len_sum]; done), HF.out _ HB.out⟩
          · have hkb : (l3 == 28) = false := by simp [hk28]
            have HE : Hid (R = true) := by show R = _; rw [HR4.out]; simp [hk28]
            clear hk28
            go_wp2_with fail
            go_ret
            exact ⟨by rw [HE.out]; rfl, HF.out _ HB.out⟩
end Go.Proofs.YtlffpelkmdcckaaGreatDoor
