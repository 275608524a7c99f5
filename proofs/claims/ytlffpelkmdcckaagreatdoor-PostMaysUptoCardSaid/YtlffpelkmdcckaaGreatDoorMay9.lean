/- 09: post.May. Printed by wip/tools/gen_may9.py. -/
import Derived.Test.YtlffpelkmdcckaaGreatDoorPlainL
import Derived.Deep.RegionHeld3
import Derived.Deep.DeepCutAuto
namespace Go.Proofs.YtlffpelkmdcckaaGreatDoor
open Go Go.RowKit Go.Sup
set_option maxRecDepth 100000
def kB (l : LetD) : Bool := inR l.kind 0 28 && (!(decide (l.kind = 28)) || letEq l (ackOf l))
def nB (l : LetD) : Bool := inR l.number 0 1048576 && (inR l.ack 0 1048576 && (inR l.index (-1) 2 && inR l.day 0 1048576))
def sB (s : ByteArray) : Bool := decide (s = ⟨#[]⟩) || nameOk s.data.toList
def tB (l : LetD) : Bool := nameOk l.src.data.toList && (nameOk l.dst.data.toList && (!(decide (l.src = l.dst)) && (sB l.deal && (sB l.party && decide (l.text.size ≤ 4096)))))
def mB (l : LetD) : Bool := (decide (l.cur = ⟨#[]⟩) && decide (l.amount = 0)) || monOk l.cur l.amount
def rB (l : LetD) : Bool := decide (l.docs.length ≤ 8) && (decide (l.boxes.length ≤ 32) && (l.docs.all goDoc && l.boxes.all fun s => nameOk s.data.toList))
/-- May a letter be? -/
def letMay (l : LetD) : Bool := kB l && (nB l && (tB l && (mB l && rB l)))
/-- A letter whose papers are short. -/
def SmallL (l : LetD) : Prop := ∀ d ∈ l.docs, SmallE d
theorem bs_eq (a b : ByteArray) : (a = b) = (a.toList = b.toList) := propext ⟨fun h => by rw [h], bs_ext⟩
theorem bs_nil : (⟨#[]⟩ : ByteArray).toList = [] := by rw [ByteArray.toList_eq]
theorem lst_beq (a b : List UInt8) : (a == b) = decide (a = b) := by rw [Bool.eq_iff_iff]; simp
theorem size_dec (n : Nat) : decide ((n : Int) ≤ 4096) = decide (n ≤ 4096) := by rw [Bool.eq_iff_iff]; simp; omega
set_option maxHeartbeats 8000000 in
theorem may9_any (l : LetD) (hl : SmallL l) (w : World) (B : Nat) (v : Value) (hv : LetC w B l v) (hB : B ≤ w.heap.size) (hT : TabW w) :
    Calls Tryz.prog 16 #[v] w fun e w' => e = .returned (.bool (letMay l)) ∧ Below w.heap.size w w' := by
  have HP : Hid (∀ W, Below w.heap.size w W → Calls Tryz.prog 36 #[v] W fun e w' => e = .returned (.bool (letEq l (ackOf l))) ∧ Below W.heap.size W w') := fun W h => plain9_any l W B v (hv.below (h.mono hB)) (Nat.le_trans hB h.size)
  have HM : Hid (∀ W, Below w.heap.size w W → Calls Tryz.prog 28 #[] W fun e w' => ∃ A c, e = .returned (.slice A 29 c) ∧ Below W.heap.size W w') := fun W h => names9_any W (hT.below h)
  have HK1 : Hid (kB l = (inR l.kind 0 28 && (!(decide (l.kind = 28)) || letEq l (ackOf l)))) := rfl
  have HL : Hid (letMay l = (kB l && (nB l && (tB l && (mB l && rB l))))) := rfl
  obtain ⟨bp, hbp⟩ : ∃ G, G = letEq l (ackOf l) := ⟨_, rfl⟩
  rw [← hbp] at HP HK1
  obtain ⟨dv, bv, rfl, da, sa⟩ := hv
  obtain ⟨Ad, cd, rfl, -⟩ := da.form
  obtain ⟨Ab, cb, rfl, -⟩ := id sa
  rw [List.length_map] at HP sa ⊢
  have HD : Hid (∀ W, Below w.heap.size w W → Calls Tryz.prog 42 #[.slice Ad l.docs.length cd, .func (.func 39) #[] #[]] W fun e w' => e = .returned (.bool (!(l.docs.all goDoc))) ∧ Below W.heap.size W w') := fun W h => conDocs_any l.docs hl W B _ (da.below (h.mono hB)) (Nat.le_trans hB h.size)
  have HS : Hid (∀ W, Below w.heap.size w W → Calls Tryz.prog 43 #[.slice Ab l.boxes.length cb, .func (.func 41) #[] #[]] W fun e w' => e = .returned (.bool (!(l.boxes.all fun s => nameOk s.data.toList))) ∧ Below W.heap.size W w') := fun W h => conStrs_any l.boxes W B _ (sa.below (h.mono hB)) (Nat.le_trans hB h.size)
  have HR1 : Hid (rB l = (decide (l.docs.length ≤ 8) && (decide (l.boxes.length ≤ 32) && (l.docs.all goDoc && l.boxes.all fun s => nameOk s.data.toList)))) := rfl
  obtain ⟨bd, hbd⟩ : ∃ G, G = l.docs.all goDoc := ⟨_, rfl⟩
  obtain ⟨bb, hbb⟩ : ∃ G, G = l.boxes.all fun s => nameOk s.data.toList := ⟨_, rfl⟩
  rw [← hbd] at HD HR1
  rw [← hbb] at HS HR1
  have HN1 : Hid (nB l = (inR l.number 0 1048576 && (inR l.ack 0 1048576 && (inR l.index (-1) 2 && inR l.day 0 1048576)))) := rfl
  have HT1 : Hid (tB l = (nameOk l.src.data.toList && (nameOk l.dst.data.toList && (!(decide (l.src = l.dst)) && (sB l.deal && (sB l.party && decide (l.text.size ≤ 4096))))))) := rfl
  have HM1 : Hid (mB l = ((decide (l.cur = ⟨#[]⟩) && decide (l.amount = 0)) || monOk l.cur l.amount)) := rfl
  obtain ⟨xk, hxk⟩ : ∃ G, G = kB l := ⟨_, rfl⟩
  obtain ⟨xn, hxn⟩ : ∃ G, G = nB l := ⟨_, rfl⟩
  obtain ⟨xt, hxt⟩ : ∃ G, G = tB l := ⟨_, rfl⟩
  obtain ⟨xm, hxm⟩ : ∃ G, G = mB l := ⟨_, rfl⟩
  obtain ⟨xr, hxr⟩ : ∃ G, G = rB l := ⟨_, rfl⟩
  rw [← hxk] at HK1 HL
  rw [← hxn] at HN1 HL
  rw [← hxt] at HT1 HL
  rw [← hxm] at HM1 HL
  rw [← hxr] at HR1 HL
  rw [HL.out]
  clear hbp hbd hbb hxk hxn hxt hxm hxr da sa hl hT HL hB
  obtain ⟨l0, l1, l2, l3, l4, l5, l6, l7, l8, l9, l10, l11, ld, lb⟩ := l
  simp only [LetD.val] at *
  obtain ⟨W0, hW0⟩ : ∃ W0, W0 = w.alloc (.cells #[.string l0, .string l1, .int .i64 l2, .int .i64 l3, .int .i64 l4, .string l5, .string l6, .string l7, .int .i64 l8, .int .i64 l9, .string l10, .int .i64 l11, .slice Ad ld.length cd, .slice Ab lb.length cb] 33) := ⟨_, rfl⟩
  have HF : Hid (∀ W, Below (w.heap.size + 1) W0 W → Below w.heap.size w W) := fun W h => by
    rw [hW0] at h; exact ((Below.refl _ _).alloc (Nat.le_refl _) _).trans (h.mono (by omega))
  have HK : Hid (∀ W, Below (w.heap.size + 1) W0 W → W.cell? ⟨w.heap.size, 0, none⟩ = some (.string l0) ∧ W.cell? ⟨w.heap.size, 1, none⟩ = some (.string l1) ∧ W.cell? ⟨w.heap.size, 2, none⟩ = some (.int .i64 l2) ∧ W.cell? ⟨w.heap.size, 3, none⟩ = some (.int .i64 l3) ∧ W.cell? ⟨w.heap.size, 4, none⟩ = some (.int .i64 l4) ∧ W.cell? ⟨w.heap.size, 5, none⟩ = some (.string l5) ∧ W.cell? ⟨w.heap.size, 6, none⟩ = some (.string l6) ∧ W.cell? ⟨w.heap.size, 7, none⟩ = some (.string l7) ∧ W.cell? ⟨w.heap.size, 8, none⟩ = some (.int .i64 l8) ∧ W.cell? ⟨w.heap.size, 9, none⟩ = some (.int .i64 l9) ∧ W.cell? ⟨w.heap.size, 10, none⟩ = some (.string l10) ∧ W.cell? ⟨w.heap.size, 11, none⟩ = some (.int .i64 l11) ∧ W.cell? ⟨w.heap.size, 12, none⟩ = some (.slice Ad ld.length cd) ∧ W.cell? ⟨w.heap.size, 13, none⟩ = some (.slice Ab lb.length cb)) := fun W h => by
    rw [hW0] at h
    obtain ⟨z0, z1⟩ := bcell h
    refine ⟨(z0 w.heap.size 0 (by omega)).trans (by go_simp), (z0 w.heap.size 1 (by omega)).trans (by go_simp), (z0 w.heap.size 2 (by omega)).trans (by go_simp), (z0 w.heap.size 3 (by omega)).trans (by go_simp), (z0 w.heap.size 4 (by omega)).trans (by go_simp), (z0 w.heap.size 5 (by omega)).trans (by go_simp), (z0 w.heap.size 6 (by omega)).trans (by go_simp), (z0 w.heap.size 7 (by omega)).trans (by go_simp), (z0 w.heap.size 8 (by omega)).trans (by go_simp), (z0 w.heap.size 9 (by omega)).trans (by go_simp), (z0 w.heap.size 10 (by omega)).trans (by go_simp), (z0 w.heap.size 11 (by omega)).trans (by go_simp), (z0 w.heap.size 12 (by omega)).trans (by go_simp), (z0 w.heap.size 13 (by omega)).trans (by go_simp)⟩
  have HY : Hid (w.heap.size + 1 ≤ W0.heap.size) := show w.heap.size + 1 ≤ W0.heap.size by rw [hW0]; simp
  have HB : Hid (Below (w.heap.size + 1) W0 W0.drew) := Go.Sup.below_drewN (Below.refl _ _) 1
  obtain ⟨k0, k1, k2, k3, k4, k5, k6, k7, k8, k9, k10, k11, k12, k13⟩ := HK.out _ HB.out
  have HW := Lib.hid hW0
  clear hW0
  go_enter Tryz.func16, Tryz.ntmps16
  go_upto_region 1 with fail
  rw [← HW.out]
  go_cut [3] from 9 (fun s wx => s = .bool xk ∧ Hid (Below (w.heap.size + 1) W0 wx))
  case first =>
    have hc : inR l3 0 28 = false ∨ (inR l3 0 28 = true ∧ ¬ l3 = 28) ∨ (inR l3 0 28 = true ∧ l3 = 28) := by
      rcases h : inR l3 0 28 with _ | _
      · exact Or.inl rfl
      · exact Or.inr ((Decidable.em (l3 = 28)).elim (fun h => Or.inr ⟨rfl, h⟩) (fun h => Or.inl ⟨rfl, h⟩))
    rcases hc with hr | ⟨hr, hk⟩ | ⟨hr, hk⟩
    · have HX : Hid (xk = false) := by show xk = false; rw [HK1.out, hr]; rfl
      have HI : Hid (∀ W, Calls Tryz.prog 29 #[.int .i64 l3, .int .i64 0, .int .i64 28] W fun e w' => e = .returned (.bool false) ∧ w' = W) := fun W => by rw [← hr]; exact inR_any _ _ _ W
      clear hr
      have hund : undef = Value.tuple #[] := rfl
      first | go_region_with (first | (go_at_call 28; refine (HM.out _ (HF.out _ (by exact Go.Sup.below_drewN (Below.refl _ _) 1))).mono ?_; rintro e w1 ⟨A, c, rfl, hb1⟩; have HB := Lib.hid (HB.out.trans (hb1.mono (Nat.le_trans HY.out HB.out.size))); clear hb1 k0 k1 k2 k3 k4 k5 k6 k7 k8 k9 k10 k11 k12 k13; obtain ⟨k0, k1, k2, k3, k4, k5, k6, k7, k8, k9, k10, k11, k12, k13⟩ := HK.out _ HB.out) | (go_at_call 29; refine (HI.out _).mono ?_; rintro e w2 ⟨rfl, rfl⟩)) | fail
      all_goals
        go_wp2_with fail
        go_meet
        case rel => exact ⟨by rw [HX.out], HB⟩
    · have HX : Hid (xk = true) := by show xk = true; rw [HK1.out, hr]; simp [hk]
      have hk2 : (l3 != 28) = true := by simp [hk]
      have HI : Hid (∀ W, Calls Tryz.prog 29 #[.int .i64 l3, .int .i64 0, .int .i64 28] W fun e w' => e = .returned (.bool true) ∧ w' = W) := fun W => by rw [← hr]; exact inR_any _ _ _ W
      clear hr
      first | go_region_with (first | (go_at_call 28; refine (HM.out _ (HF.out _ (by exact Go.Sup.below_drewN (Below.refl _ _) 1))).mono ?_; rintro e w1 ⟨A, c, rfl, hb1⟩; have HB := Lib.hid (HB.out.trans (hb1.mono (Nat.le_trans HY.out HB.out.size))); clear hb1 k0 k1 k2 k3 k4 k5 k6 k7 k8 k9 k10 k11 k12 k13; obtain ⟨k0, k1, k2, k3, k4, k5, k6, k7, k8, k9, k10, k11, k12, k13⟩ := HK.out _ HB.out) | (go_at_call 29; refine (HI.out _).mono ?_; rintro e w2 ⟨rfl, rfl⟩)) | fail
      all_goals
        go_wp2_with fail
        go_meet
        case rel => exact ⟨by rw [HX.out], HB⟩
    · have HX : Hid (xk = bp) := by show xk = bp; rw [HK1.out, hr]; simp [hk]
      have hk2 : (l3 != 28) = false := by simp [hk]
      have hkk := Lib.hid hk
      clear hk
      have HI : Hid (∀ W, Calls Tryz.prog 29 #[.int .i64 l3, .int .i64 0, .int .i64 28] W fun e w' => e = .returned (.bool true) ∧ w' = W) := fun W => by rw [← hr]; exact inR_any _ _ _ W
      clear hr
      first | go_region_held3 (fun W => W.cell? ⟨w.heap.size, 0, none⟩ = some (.string l0) ∧ W.cell? ⟨w.heap.size, 1, none⟩ = some (.string l1) ∧ W.cell? ⟨w.heap.size, 2, none⟩ = some (.int .i64 l2) ∧ W.cell? ⟨w.heap.size, 3, none⟩ = some (.int .i64 l3) ∧ W.cell? ⟨w.heap.size, 4, none⟩ = some (.int .i64 l4) ∧ W.cell? ⟨w.heap.size, 5, none⟩ = some (.string l5) ∧ W.cell? ⟨w.heap.size, 6, none⟩ = some (.string l6) ∧ W.cell? ⟨w.heap.size, 7, none⟩ = some (.string l7) ∧ W.cell? ⟨w.heap.size, 8, none⟩ = some (.int .i64 l8) ∧ W.cell? ⟨w.heap.size, 9, none⟩ = some (.int .i64 l9) ∧ W.cell? ⟨w.heap.size, 10, none⟩ = some (.string l10) ∧ W.cell? ⟨w.heap.size, 11, none⟩ = some (.int .i64 l11) ∧ W.cell? ⟨w.heap.size, 12, none⟩ = some (.slice Ad ld.length cd) ∧ W.cell? ⟨w.heap.size, 13, none⟩ = some (.slice Ab lb.length cb)) (first | exact ⟨k0, k1, k2, k3, k4, k5, k6, k7, k8, k9, k10, k11, k12, k13⟩ | go_keep) (first | (go_at_call 28; refine (HM.out _ (HF.out _ HB.out)).mono ?_; rintro e w1 ⟨A, c, rfl, hb1⟩; have HB := Lib.hid (HB.out.trans (hb1.mono (Nat.le_trans HY.out HB.out.size))); clear hb1 k0 k1 k2 k3 k4 k5 k6 k7 k8 k9 k10 k11 k12 k13; obtain ⟨k0, k1, k2, k3, k4, k5, k6, k7, k8, k9, k10, k11, k12, k13⟩ := HK.out _ HB.out) | (go_at_call 29; refine (HI.out _).mono ?_; rintro e w2 ⟨rfl, rfl⟩) | (go_at_call 36; refine (HP.out _ (HF.out _ HB.out)).mono ?_; rintro e w1 ⟨rfl, hb1⟩; have HB := Lib.hid (HB.out.trans (hb1.mono (Nat.le_trans HY.out HB.out.size))); clear hb1 k0 k1 k2 k3 k4 k5 k6 k7 k8 k9 k10 k11 k12 k13; obtain ⟨k0, k1, k2, k3, k4, k5, k6, k7, k8, k9, k10, k11, k12, k13⟩ := HK.out _ HB.out)) | fail
      all_goals
        go_wp2_with fail
        go_meet
        case rel => exact ⟨by rw [HX.out], HB⟩
  case rest =>
  clear HB k0 k1 k2 k3 k4 k5 k6 k7 k8 k9 k10 k11 k12 k13 HM HP HK1
  obtain ⟨hu, HB⟩ := hcut
  subst hu
  obtain ⟨k0, k1, k2, k3, k4, k5, k6, k7, k8, k9, k10, k11, k12, k13⟩ := HK.out _ HB.out
  go_upto_region 2 with fail
  go_cut [4] from 24 (fun s wx => s = .bool xn ∧ Hid (Below (w.heap.size + 1) W0 wx))
  case first =>
    go_wp2_with (go_at_call 29; refine (inR_any _ _ _ _).mono ?_; rintro e w2 ⟨rfl, rfl⟩)
    all_goals
      go_meet
      case rel => exact ⟨by rw [HN1.out]; simp [*], HB⟩
  case rest =>
  clear HB k0 k1 k2 k3 k4 k5 k6 k7 k8 k9 k10 k11 k12 k13 HN1
  obtain ⟨hu, HB⟩ := hcut
  subst hu
  obtain ⟨k0, k1, k2, k3, k4, k5, k6, k7, k8, k9, k10, k11, k12, k13⟩ := HK.out _ HB.out
  go_upto_region 3 with fail
  go_cut [5] from 42 (fun s wx => s = .bool xt ∧ Hid (Below (w.heap.size + 1) W0 wx))
  case first =>
    have HTT := HT1.out
    clear HT1
    have HT1 := Lib.hid HTT
    clear HTT HD HS HR1 HM1
    go_wp2_with (go_at_call 37; refine (postname_any _ _).mono ?_; rintro e w2 ⟨rfl, hb2⟩; have HB := Lib.hid (HB.out.trans (hb2.mono (Nat.le_trans HY.out HB.out.size))); clear hb2 k0 k1 k2 k3 k4 k5 k6 k7 k8 k9 k10 k11 k12 k13; obtain ⟨k0, k1, k2, k3, k4, k5, k6, k7, k8, k9, k10, k11, k12, k13⟩ := HK.out _ HB.out)
    all_goals
      go_meet
      case rel => exact ⟨by rw [HT1.out]; simp [*, sB, bs_eq, lst_beq, size_dec], HB⟩
  case rest =>
  clear HB k0 k1 k2 k3 k4 k5 k6 k7 k8 k9 k10 k11 k12 k13 HT1
  obtain ⟨hu, HB⟩ := hcut
  subst hu
  obtain ⟨k0, k1, k2, k3, k4, k5, k6, k7, k8, k9, k10, k11, k12, k13⟩ := HK.out _ HB.out
  go_upto_region 4 with fail
  go_cut [6] from 83 (fun s wx => s = .bool xm ∧ Hid (Below (w.heap.size + 1) W0 wx))
  case first =>
    clear HD HS HR1
    have e30 : Tryz.prog.eqGuardType Tryz.prog.depth 30 = false := by kernel_rfl
    have hq : ∀ W, (binOp .eql 30 (.agg #[.string l10, .int .i64 l11]) (.agg #[.string ⟨#[]⟩, .int .i64 0])).run Tryz.prog W = .ok (.bool (decide (l10 = ⟨#[]⟩) && decide (l11 = 0))) W := fun W => run_eqM _ _ _ _ W
    rcases hz : (decide (l10 = ⟨#[]⟩) && decide (l11 = 0)) with _ | _
    · have HX : Hid (xm = monOk l10 l11) := by show _ = _; rw [HM1.out, hz]; rfl
      rw [hz] at hq
      clear hz HM1
      go_wp2_with (go_at_call 38; refine (mmay_any _ _ _).mono ?_; rintro e w2 ⟨rfl, hb2⟩; have HB := Lib.hid (HB.out.trans (hb2.mono (Nat.le_trans HY.out HB.out.size))); clear hb2)
      all_goals
        go_meet
        case rel => exact ⟨by rw [HX.out], HB⟩
    · have HX : Hid (xm = true) := by show _ = _; rw [HM1.out, hz]; rfl
      rw [hz] at hq
      clear hz HM1
      go_wp2_with fail
      all_goals
        go_meet
        case rel => exact ⟨by rw [HX.out], HB⟩
  case rest =>
  clear HB k0 k1 k2 k3 k4 k5 k6 k7 k8 k9 k10 k11 k12 k13 HM1
  obtain ⟨hu, HB⟩ := hcut
  subst hu
  obtain ⟨k0, k1, k2, k3, k4, k5, k6, k7, k8, k9, k10, k11, k12, k13⟩ := HK.out _ HB.out
  rcases xk with _ | _
  · go_wp2_with fail
    go_ret
    exact ⟨rfl, HF.out _ HB.out⟩
  rcases xn with _ | _
  · go_wp2_with fail
    go_ret
    exact ⟨rfl, HF.out _ HB.out⟩
  rcases xt with _ | _
  · go_wp2_with fail
    go_ret
    exact ⟨rfl, HF.out _ HB.out⟩
  rcases xm with _ | _
  · go_wp2_with fail
    go_ret
    exact ⟨rfl, HF.out _ HB.out⟩
  by_cases h8 : ld.length ≤ 8
  · have h8' : (ld.length : Int) ≤ 8 := by omega
    by_cases h32 : lb.length ≤ 32
    · have h32' : (lb.length : Int) ≤ 32 := by omega
      have HX : Hid (xr = (bd && bb)) := by show _ = _; rw [HR1.out]; simp [h8, h32]
      clear h8 h32 HR1
      rcases bd with _ | _
      · go_wp2_with (first | (go_at_call 42; refine (HD.out _ (HF.out _ HB.out)).mono ?_; rintro e w2 ⟨rfl, hb2⟩; have HB := Lib.hid (HB.out.trans (hb2.mono (Nat.le_trans HY.out HB.out.size))); clear hb2 k0 k1 k2 k3 k4 k5 k6 k7 k8 k9 k10 k11 k12 k13; obtain ⟨k0, k1, k2, k3, k4, k5, k6, k7, k8, k9, k10, k11, k12, k13⟩ := HK.out _ HB.out))
        go_ret
        exact ⟨by rw [HX.out]; rfl, HF.out _ HB.out⟩
      · go_wp2_with (first | (go_at_call 42; refine (HD.out _ (HF.out _ HB.out)).mono ?_; rintro e w2 ⟨rfl, hb2⟩; have HB := Lib.hid (HB.out.trans (hb2.mono (Nat.le_trans HY.out HB.out.size))); clear hb2 k0 k1 k2 k3 k4 k5 k6 k7 k8 k9 k10 k11 k12 k13; obtain ⟨k0, k1, k2, k3, k4, k5, k6, k7, k8, k9, k10, k11, k12, k13⟩ := HK.out _ HB.out) | (go_at_call 43; refine (HS.out _ (HF.out _ HB.out)).mono ?_; rintro e w3 ⟨rfl, hb2⟩; have HB := Lib.hid (HB.out.trans (hb2.mono (Nat.le_trans HY.out HB.out.size))); clear hb2 k0 k1 k2 k3 k4 k5 k6 k7 k8 k9 k10 k11 k12 k13; obtain ⟨k0, k1, k2, k3, k4, k5, k6, k7, k8, k9, k10, k11, k12, k13⟩ := HK.out _ HB.out))
        go_ret
        exact ⟨by rw [HX.out]; simp, HF.out _ HB.out⟩
    · have h32' : ¬ (lb.length : Int) ≤ 32 := by omega
      have HX : Hid (xr = false) := by show _ = _; rw [HR1.out]; simp [h32]
      clear h8 h32 HR1
      go_wp2_with fail
      go_ret
      exact ⟨by rw [HX.out]; rfl, HF.out _ HB.out⟩
  · have h8' : ¬ (ld.length : Int) ≤ 8 := by omega
    have HX : Hid (xr = false) := by show _ = _; rw [HR1.out]; simp [h8]
    clear h8 HR1
    go_wp2_with fail
    go_ret
    exact ⟨by rw [HX.out]; rfl, HF.out _ HB.out⟩
end Go.Proofs.YtlffpelkmdcckaaGreatDoor
