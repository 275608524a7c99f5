/- 09: PostMays: the walk. Printed by wip/tools/gen_pmays.py. -/
import Derived.Test.YtlffpelkmdcckaaGreatDoorRFld9
import Derived.Test.YtlffpelkmdcckaaGreatDoorShort9
import Derived.Test.YtlffpelkmdcckaaGreatDoorAwake9
import Derived.Test.YtlffpelkmdcckaaGreatDoorMny9
namespace Go.Proofs.YtlffpelkmdcckaaGreatDoor
open Go Go.RowKit Go.Sup
set_option maxRecDepth 100000
theorem frowsEq_self (l : List Fld) : frowsEq l l = true := by unfold frowsEq; simp
theorem mem_sum_le {α : Type} (f : α → Nat) {l : List α} {a : α} (h : a ∈ l) : f a ≤ (l.map f).sum := by
  obtain ⟨k, hk, rfl⟩ := List.getElem_of_mem h
  have := sum_take_add f l k hk
  omega
theorem short_L {l : LetD} (h : ShortP l) : SmallL l := fun d hd => by
  obtain ⟨hb, -, -, hf⟩ := h
  unfold lBulk docsBulk at hb
  have h1 := mem_sum_le dBulk hd
  have h2 : dBulk d ≤ 9000 := by omega
  unfold dBulk fBulk at h2
  have h3 := hf d hd
  refine ⟨⟨fun f hff => ?_, by omega, by omega⟩, by omega⟩
  have h4 := mem_sum_le (fun f : Fld => f.1.size + f.2.size) hff
  exact ⟨by omega, by omega⟩
theorem short_T {l : LetD} (h : ShortP l) : SmallT l := by
  obtain ⟨hb, -⟩ := h
  unfold lBulk hBulk strsBulk at hb
  refine ⟨⟨by omega, by omega, by omega, by omega⟩, fun b hbb => ?_⟩
  have := mem_sum_le ByteArray.size hbb
  omega
set_option maxHeartbeats 8000000 in
theorem postMays_any (l : LetD) (hl : lBulk l ≤ 1048576) (w : World) (B : Nat) (v : Value) (hv : LetC w B l v) (hB : B ≤ w.heap.size) (hW : W9 w) :
    Calls Tryz.prog 5 #[v] w fun e w' => e = .returned (.bool true) ∧ Below w.heap.size w w' := by
  have HA : Hid (∀ W, Below w.heap.size w W → Calls Tryz.prog 9 #[] W fun e w' => e = .returned (.bool true) ∧ Below W.heap.size W w') := fun W h => awake9_any W (hW.below h)
  have HSh : Hid (∀ W, Below w.heap.size w W → Calls Tryz.prog 13 #[v] W (ShortOut W (ShortP l))) := fun W h => short_any l hl W B v (hv.below (h.mono hB)) (Nat.le_trans hB h.size)
  have HM0 : Hid (ShortP l → ∀ W, Below w.heap.size w W → Calls Tryz.prog 16 #[v] W fun e w' => e = .returned (.bool (letMay l)) ∧ Below W.heap.size W w') := fun hp W h => may9_any l (short_L hp) W B v (hv.below (h.mono hB)) (Nat.le_trans hB h.size) (hW.below h).tab
  have HRM0 : Hid (ShortP l → ∀ W, Below w.heap.size w W → Calls Tryz.prog 17 #[v] W fun e w' => e = .returned (.bool (letMay l)) ∧ Below W.heap.size W w') := fun hp W h => rmay9_any l (short_L hp) (short_T hp) W B v (hv.below (h.mono hB)) (Nat.le_trans hB h.size)
  have HPF0 : Hid (ShortP l → ∀ W, Below w.heap.size w W → Calls Tryz.prog 19 #[v] W fun e w' => ∃ v', e = .returned v' ∧ SlC w' w'.heap.size 2 ((fld9 l).map frow) v' ∧ Below W.heap.size W w') := fun hp W h => pflds_any l (short_L hp) W B v (hv.below (h.mono hB)) (Nat.le_trans hB h.size) (hW.below h).tab (hW.below h).pow
  have HRF0 : Hid (ShortP l → ∀ W, Below w.heap.size w W → Calls Tryz.prog 20 #[v] W fun e w' => ∃ v', e = .returned v' ∧ SlC w' w'.heap.size 2 ((fld9 l).map frow) v' ∧ Below W.heap.size W w') := fun hp W h => rflds_any l (short_L hp) (short_T hp) W B v (hv.below (h.mono hB)) (Nat.le_trans hB h.size)
  have HSa : Hid (∀ W v1 v2, SlC W W.heap.size 2 ((fld9 l).map frow) v1 → SlC W W.heap.size 2 ((fld9 l).map frow) v2 → Calls Tryz.prog 18 #[v1, v2] W fun e w' => e = .returned (.bool true) ∧ ∃ n, w' = W.drewN n) := fun W v1 v2 h1 h2 => by
    have := refSame_any (fld9 l) (fld9 l) W _ v1 v2 h1 h2
    rwa [frowsEq_self] at this
  obtain ⟨SP, hSP⟩ : ∃ P : Prop, P = ShortP l := ⟨_, rfl⟩
  rw [← hSP] at HSh HM0 HRM0 HPF0 HRF0
  obtain ⟨bm, hbm⟩ : ∃ G, G = letMay l := ⟨_, rfl⟩
  rw [← hbm] at HM0 HRM0
  obtain ⟨X, hX⟩ : ∃ G, G = (fld9 l).map frow := ⟨_, rfl⟩
  rw [← hX] at HPF0 HRF0 HSa
  obtain ⟨dv, bv, rfl, da, sa⟩ := hv
  obtain ⟨Ad, cd, rfl, -⟩ := da.form
  obtain ⟨Ab, cb, rfl, -⟩ := id sa
  rw [List.length_map] at HSh HM0 HRM0 HPF0 HRF0 ⊢
  clear hSP hbm hX da sa hl hW hB
  obtain ⟨l0, l1, l2, l3, l4, l5, l6, l7, l8, l9, l10, l11, ld, lb⟩ := l
  simp only [LetD.val] at *
  obtain ⟨W0, hW0⟩ : ∃ W0, W0 = w.alloc (.cells #[.string l0, .string l1, .int .i64 l2, .int .i64 l3, .int .i64 l4, .string l5, .string l6, .string l7, .int .i64 l8, .int .i64 l9, .string l10, .int .i64 l11, .slice Ad ld.length cd, .slice Ab lb.length cb] 33) := ⟨_, rfl⟩
  have HF : Hid (∀ W, Below (w.heap.size + 1) W0 W → Below w.heap.size w W) := fun W h => by
    rw [hW0] at h; exact ((Below.refl _ _).alloc (Nat.le_refl _) _).trans (h.mono (by omega))
  have HK : Hid (∀ W, Below (w.heap.size + 1) W0 W → W.cell? ⟨w.heap.size, 0, none⟩ = some (.string l0) ∧ W.cell? ⟨w.heap.size, 1, none⟩ = some (.string l1) ∧ W.cell? ⟨w.heap.size, 2, none⟩ = some (.int .i64 l2) ∧ W.cell? ⟨w.heap.size, 3, none⟩ = some (.int .i64 l3) ∧ W.cell? ⟨w.heap.size, 4, none⟩ = some (.int .i64 l4) ∧ W.cell? ⟨w.heap.size, 5, none⟩ = some (.string l5) ∧ W.cell? ⟨w.heap.size, 6, none⟩ = some (.string l6) ∧ W.cell? ⟨w.heap.size, 7, none⟩ = some (.string l7) ∧ W.cell? ⟨w.heap.size, 8, none⟩ = some (.int .i64 l8) ∧ W.cell? ⟨w.heap.size, 9, none⟩ = some (.int .i64 l9) ∧ W.cell? ⟨w.heap.size, 10, none⟩ = some (.string l10) ∧ W.cell? ⟨w.heap.size, 11, none⟩ = some (.int .i64 l11) ∧ W.cell? ⟨w.heap.size, 12, none⟩ = some (.slice Ad ld.length cd) ∧ W.cell? ⟨w.heap.size, 13, none⟩ = some (.slice Ab lb.length cb)) := fun W h => by
    rw [hW0] at h
    obtain ⟨z0, z1⟩ := bcell h
    refine ⟨(z0 w.heap.size 0 (by omega)).trans (by go_simp), (z0 w.heap.size 1 (by omega)).trans (by go_simp), (z0 w.heap.size 2 (by omega)).trans (by go_simp), (z0 w.heap.size 3 (by omega)).trans (by go_simp), (z0 w.heap.size 4 (by omega)).trans (by go_simp), (z0 w.heap.size 5 (by omega)).trans (by go_simp), (z0 w.heap.size 6 (by omega)).trans (by go_simp), (z0 w.heap.size 7 (by omega)).trans (by go_simp), (z0 w.heap.size 8 (by omega)).trans (by go_simp), (z0 w.heap.size 9 (by omega)).trans (by go_simp), (z0 w.heap.size 10 (by omega)).trans (by go_simp), (z0 w.heap.size 11 (by omega)).trans (by go_simp), (z0 w.heap.size 12 (by omega)).trans (by go_simp), (z0 w.heap.size 13 (by omega)).trans (by go_simp)⟩
  have HY : Hid (w.heap.size + 1 ≤ W0.heap.size) := show w.heap.size + 1 ≤ W0.heap.size by rw [hW0]; simp
  have HB : Hid (Below (w.heap.size + 1) W0 W0) := Below.refl _ _
  obtain ⟨k0, k1, k2, k3, k4, k5, k6, k7, k8, k9, k10, k11, k12, k13⟩ := HK.out _ HB.out
  have HW := Lib.hid hW0
  clear hW0
  go_enter Tryz.func5, Tryz.ntmps5
  go_upto_region 1 with fail
  rw [← HW.out]
  go_wp2_with fail
  refine (HSh.out _ (HF.out _ HB.out)).mono ?_
  rintro e w1 ⟨ta, rfl, hpa, hb1⟩
  have HPA := Lib.hid hpa
  have HB := Lib.hid (HB.out.trans (hb1.mono (Nat.le_trans HY.out HB.out.size)))
  clear hb1 hpa k0 k1 k2 k3 k4 k5 k6 k7 k8 k9 k10 k11 k12 k13 HSh
  obtain ⟨k0, k1, k2, k3, k4, k5, k6, k7, k8, k9, k10, k11, k12, k13⟩ := HK.out _ HB.out
  rcases ta with _ | _
  · go_wp2_with (go_at_call 9; refine (HA.out _ (HF.out _ HB.out)).mono ?_; rintro e wa ⟨rfl, hba⟩; have HZ := Lib.hid ((HF.out _ HB.out).trans (hba.mono (HF.out _ HB.out).size)); clear hba)
    go_ret
    exact ⟨rfl, HZ.out⟩
  have HM := Lib.hid (HM0.out (HPA.out (by first | rfl | trivial)))
  have HRM := Lib.hid (HRM0.out (HPA.out (by first | rfl | trivial)))
  have HPF := Lib.hid (HPF0.out (HPA.out (by first | rfl | trivial)))
  have HRF := Lib.hid (HRF0.out (HPA.out (by first | rfl | trivial)))
  clear HM0 HRM0 HPF0 HRF0 HPA
  go_upto_region 3 with fail
  have HB := Lib.hid (Go.Sup.below_drewN HB.out 1)
  clear k0 k1 k2 k3 k4 k5 k6 k7 k8 k9 k10 k11 k12 k13
  obtain ⟨k0, k1, k2, k3, k4, k5, k6, k7, k8, k9, k10, k11, k12, k13⟩ := HK.out _ HB.out
  rcases bm with _ | _
  all_goals
    refine wp_region_held_drew (S := fun W => W.cell? ⟨w.heap.size, 0, none⟩ = some (.string l0) ∧ W.cell? ⟨w.heap.size, 1, none⟩ = some (.string l1) ∧ W.cell? ⟨w.heap.size, 2, none⟩ = some (.int .i64 l2) ∧ W.cell? ⟨w.heap.size, 3, none⟩ = some (.int .i64 l3) ∧ W.cell? ⟨w.heap.size, 4, none⟩ = some (.int .i64 l4) ∧ W.cell? ⟨w.heap.size, 5, none⟩ = some (.string l5) ∧ W.cell? ⟨w.heap.size, 6, none⟩ = some (.string l6) ∧ W.cell? ⟨w.heap.size, 7, none⟩ = some (.string l7) ∧ W.cell? ⟨w.heap.size, 8, none⟩ = some (.int .i64 l8) ∧ W.cell? ⟨w.heap.size, 9, none⟩ = some (.int .i64 l9) ∧ W.cell? ⟨w.heap.size, 10, none⟩ = some (.string l10) ∧ W.cell? ⟨w.heap.size, 11, none⟩ = some (.int .i64 l11) ∧ W.cell? ⟨w.heap.size, 12, none⟩ = some (.slice Ad ld.length cd) ∧ W.cell? ⟨w.heap.size, 13, none⟩ = some (.slice Ab lb.length cb)) (by kernel_rfl) ⟨k0, k1, k2, k3, k4, k5, k6, k7, k8, k9, k10, k11, k12, k13⟩ (fun hHeld => ?_)
    refine takeL (i := 0) (v := ?_) rfl (by kernel_rfl) (by kernel_rfl) (by kernel_rfl) (fun _ _ _ h => h) (Or.inl ⟨by rfl, ?_⟩) (by assumption) ?_
    rotate_left
    · (intro w hSw; (try dsimp only at hSw); go_simp; try with_reducible rfl)
    try simp only [Act.put, List.setIfInBounds_toArray, List.set_cons_zero, List.set_cons_succ]
    refine takeL (i := 2) (v := ?_) rfl (by kernel_rfl) (by kernel_rfl) (by kernel_rfl) (fun _ _ _ h => h) (Or.inl ⟨by rfl, ?_⟩) (by assumption) ?_
    rotate_left
    · (intro w hSw; (try dsimp only at hSw); go_simp; try with_reducible rfl)
    try simp only [Act.put, List.setIfInBounds_toArray, List.set_cons_zero, List.set_cons_succ]
    refine callL (i := 1) rfl (by kernel_rfl) (fun K hK => ?_)
    go_simp
    refine (HM.out _ (HF.out _ HB.out)).mono ?_
    rintro e w1 ⟨rfl, hb1⟩
    have HB := Lib.hid (HB.out.trans (hb1.mono (Nat.le_trans HY.out HB.out.size))); clear hb1 hHeld k0 k1 k2 k3 k4 k5 k6 k7 k8 k9 k10 k11 k12 k13; obtain ⟨k0, k1, k2, k3, k4, k5, k6, k7, k8, k9, k10, k11, k12, k13⟩ := HK.out _ HB.out
    go_wp2_with fail
    refine hK.out _ _ ⟨k0, k1, k2, k3, k4, k5, k6, k7, k8, k9, k10, k11, k12, k13⟩ (fun hHeld => ?_)
    clear hK K
    try simp only [Act.put, List.setIfInBounds_toArray, List.set_cons_zero, List.set_cons_succ]
    refine callL (i := 3) rfl (by kernel_rfl) (fun K hK => ?_)
    go_simp
    refine (HRM.out _ (HF.out _ HB.out)).mono ?_
    rintro e w1 ⟨rfl, hb1⟩
    have HB := Lib.hid (HB.out.trans (hb1.mono (Nat.le_trans HY.out HB.out.size))); clear hb1 hHeld k0 k1 k2 k3 k4 k5 k6 k7 k8 k9 k10 k11 k12 k13; obtain ⟨k0, k1, k2, k3, k4, k5, k6, k7, k8, k9, k10, k11, k12, k13⟩ := HK.out _ HB.out
    go_wp2_with fail
    refine hK.out _ _ ⟨k0, k1, k2, k3, k4, k5, k6, k7, k8, k9, k10, k11, k12, k13⟩ (fun hHeld => ?_)
    clear hK K
    try simp only [Act.put, List.setIfInBounds_toArray, List.set_cons_zero, List.set_cons_succ]
    refine takeL (i := 4) (v := ?_) rfl (by kernel_rfl) (by kernel_rfl) (by kernel_rfl) (fun _ _ _ h => h) (Or.inl ⟨by rfl, ?_⟩) (by assumption) ?_
    rotate_left
    · (intro w hSw; (try dsimp only at hSw); go_simp; try with_reducible rfl)
    try simp only [Act.put, List.setIfInBounds_toArray, List.set_cons_zero, List.set_cons_succ]
    refine takeL (i := 5) (v := ?_) rfl (by kernel_rfl) (by kernel_rfl) (by kernel_rfl) (fun _ _ _ h => h) (Or.inl ⟨by rfl, ?_⟩) (by assumption) ?_
    rotate_left
    · (intro w hSw; (try dsimp only at hSw); go_simp; try with_reducible rfl)
    try simp only [Act.put, List.setIfInBounds_toArray, List.set_cons_zero, List.set_cons_succ]
    refine takeL (i := 6) (v := ?_) rfl (by kernel_rfl) (by kernel_rfl) (by kernel_rfl) (fun _ _ _ h => h) (Or.inl ⟨by rfl, ?_⟩) (by assumption) ?_
    rotate_left
    · (intro w hSw; (try dsimp only at hSw); go_simp; try with_reducible rfl)
    try simp only [Act.put, List.setIfInBounds_toArray, List.set_cons_zero, List.set_cons_succ]
    refine takeL (i := 8) (v := ?_) rfl (by kernel_rfl) (by kernel_rfl) (by kernel_rfl) (fun _ _ _ h => h) (Or.inl ⟨by rfl, ?_⟩) (by assumption) ?_
    rotate_left
    · (intro w hSw; (try dsimp only at hSw); go_simp; try with_reducible rfl)
    try simp only [Act.put, List.setIfInBounds_toArray, List.set_cons_zero, List.set_cons_succ]
    refine callL (i := 7) rfl (by kernel_rfl) (fun K hK => ?_)
    go_simp
    refine (HPF.out _ (HF.out _ HB.out)).mono ?_
    rintro e wa ⟨va, rfl, hsa, hb1⟩
    have HS1 := Lib.hid hsa
    clear hsa
    have HB := Lib.hid (HB.out.trans (hb1.mono (Nat.le_trans HY.out HB.out.size))); clear hb1 hHeld k0 k1 k2 k3 k4 k5 k6 k7 k8 k9 k10 k11 k12 k13; obtain ⟨k0, k1, k2, k3, k4, k5, k6, k7, k8, k9, k10, k11, k12, k13⟩ := HK.out _ HB.out
    go_wp2_with fail
    refine hK.out _ _ ⟨k0, k1, k2, k3, k4, k5, k6, k7, k8, k9, k10, k11, k12, k13⟩ (fun hHeld => ?_)
    clear hK K
    try simp only [Act.put, List.setIfInBounds_toArray, List.set_cons_zero, List.set_cons_succ]
    refine callL (i := 9) rfl (by kernel_rfl) (fun K hK => ?_)
    go_simp
    refine (HRF.out _ (HF.out _ HB.out)).mono ?_
    rintro e wb ⟨vb, rfl, hsb, hb1⟩
    have HS2 := Lib.hid hsb
    have HS3 := Lib.hid ((HS1.out.below hb1).more hb1.size)
    clear hsb
    have HB := Lib.hid (HB.out.trans (hb1.mono (Nat.le_trans HY.out HB.out.size))); clear hb1 hHeld k0 k1 k2 k3 k4 k5 k6 k7 k8 k9 k10 k11 k12 k13; obtain ⟨k0, k1, k2, k3, k4, k5, k6, k7, k8, k9, k10, k11, k12, k13⟩ := HK.out _ HB.out
    go_wp2_with fail
    refine hK.out _ _ ⟨k0, k1, k2, k3, k4, k5, k6, k7, k8, k9, k10, k11, k12, k13⟩ (fun hHeld => ?_)
    clear hK K
    try simp only [Act.put, List.setIfInBounds_toArray, List.set_cons_zero, List.set_cons_succ]
    refine callL (i := 10) rfl (by kernel_rfl) (fun K hK => ?_)
    go_simp
    refine (HSa.out _ _ _ HS3.out HS2.out).mono ?_
    rintro e w1 ⟨rfl, nq, rfl⟩
    have HB := Lib.hid (Go.Sup.below_drewN HB.out nq)
    clear hHeld k0 k1 k2 k3 k4 k5 k6 k7 k8 k9 k10 k11 k12 k13
    obtain ⟨k0, k1, k2, k3, k4, k5, k6, k7, k8, k9, k10, k11, k12, k13⟩ := HK.out _ HB.out
    go_wp2_with fail
    refine hK.out _ _ ⟨k0, k1, k2, k3, k4, k5, k6, k7, k8, k9, k10, k11, k12, k13⟩ (fun hHeld => ?_)
    clear hK K
    try simp only [Act.put, List.setIfInBounds_toArray, List.set_cons_zero, List.set_cons_succ]
    refine takeL (i := 11) (v := ?_) rfl (by kernel_rfl) (by kernel_rfl) (by kernel_rfl) (fun _ _ _ h => h) (Or.inl ⟨by rfl, ?_⟩) (by assumption) ?_
    rotate_left
    · (intro w hSw; (try dsimp only at hSw); go_simp; try with_reducible rfl)
    try simp only [Act.put, List.setIfInBounds_toArray, List.set_cons_zero, List.set_cons_succ]
    refine takeL (i := 12) (v := ?_) rfl (by kernel_rfl) (by kernel_rfl) (by kernel_rfl) (fun _ _ _ h => h) (Or.inl ⟨by rfl, ?_⟩) (by assumption) ?_
    rotate_left
    · (intro w hSw; (try dsimp only at hSw); go_simp; try with_reducible rfl)
    try simp only [Act.put, List.setIfInBounds_toArray, List.set_cons_zero, List.set_cons_succ]
    refine callL (i := 13) rfl (by kernel_rfl) (fun K hK => ?_)
    go_simp
    refine (HA.out _ (HF.out _ HB.out)).mono ?_
    rintro e w1 ⟨rfl, hb1⟩
    have HB := Lib.hid (HB.out.trans (hb1.mono (Nat.le_trans HY.out HB.out.size))); clear hb1 hHeld k0 k1 k2 k3 k4 k5 k6 k7 k8 k9 k10 k11 k12 k13; obtain ⟨k0, k1, k2, k3, k4, k5, k6, k7, k8, k9, k10, k11, k12, k13⟩ := HK.out _ HB.out
    go_wp2_with fail
    refine hK.out _ _ ⟨k0, k1, k2, k3, k4, k5, k6, k7, k8, k9, k10, k11, k12, k13⟩ (fun hHeld => ?_)
    clear hK K
    try simp only [Act.put, List.setIfInBounds_toArray, List.set_cons_zero, List.set_cons_succ]
    refine takeL (i := 14) (v := ?_) rfl (by kernel_rfl) (by kernel_rfl) (by kernel_rfl) (fun _ _ _ h => h) (Or.inl ⟨by rfl, ?_⟩) (by assumption) ?_
    rotate_left
    · (intro w hSw; (try dsimp only at hSw); go_simp; try with_reducible rfl)
    try simp only [Act.put, List.setIfInBounds_toArray, List.set_cons_zero, List.set_cons_succ]
    refine takeL (i := 15) (v := ?_) rfl (by kernel_rfl) (by kernel_rfl) (by kernel_rfl) (fun _ _ _ h => h) (Or.inl ⟨by rfl, ?_⟩) (by assumption) ?_
    rotate_left
    · (intro w hSw; (try dsimp only at hSw); go_simp; try with_reducible rfl)
    try simp only [Act.put, List.setIfInBounds_toArray, List.set_cons_zero, List.set_cons_succ]
    refine wpAnyH_done (by kernel_rfl) ?_ _
    go_wp2_with fail
    go_ret
    exact ⟨rfl, HF.out _ HB.out⟩
end Go.Proofs.YtlffpelkmdcckaaGreatDoor
