/- 09: the referee's Fields. Printed by wip/tools/gen_rfld9.py. -/
import Derived.Test.YtlffpelkmdcckaaGreatDoorMny9
import Derived.Test.YtlffpelkmdcckaaGreatDoorRMay9
namespace Go.Proofs.YtlffpelkmdcckaaGreatDoor
open Go Go.RowKit Go.Sup
set_option maxRecDepth 100000
theorem goDoc_paper {d : DocD} (h : goDoc d = true) : paperOk d = true := by
  rcases hp : paperOk d with _ | _
  · rw [goDoc_bad hp] at h; exact h
  · rfl
theorem docS_paper {d : DocD} (h : goDoc d = true) : docS d = textS (recordF d) := by
  unfold docS; rw [goDoc_paper h, if_pos rfl]
set_option maxHeartbeats 8000000 in
theorem rflds_any (l : LetD) (hl : SmallL l) (hz : SmallT l) (w : World) (B : Nat) (v : Value) (hv : LetC w B l v) (hB : B ≤ w.heap.size) :
    Calls Tryz.prog 20 #[v] w fun e w' => ∃ v', e = .returned v' ∧ SlC w' w'.heap.size 2 ((fld9 l).map frow) v' ∧ Below w.heap.size w w' := by
  have HMy : Hid (∀ W, Below w.heap.size w W → Calls Tryz.prog 17 #[v] W fun e w' => e = .returned (.bool (letMay l)) ∧ Below W.heap.size W w') := fun W h => rmay9_any l hl hz W B v (hv.below (h.mono hB)) (Nat.le_trans hB h.size)
  have HX : Hid (fld9 l = if letMay l then rec9 l (sumS l.cur l.amount) else []) := rfl
  have HSM : Hid (sumS l.cur l.amount = if noSum l.cur l.amount then ⟨#[]⟩ else monS l.cur l.amount) := rfl
  obtain ⟨ms, hms⟩ : ∃ ms, ms = sumS l.cur l.amount := ⟨_, rfl⟩
  rw [← hms] at HX HSM
  obtain ⟨X, hX⟩ : ∃ X, X = fld9 l := ⟨_, rfl⟩
  rw [← hX] at HX ⊢
  obtain ⟨dv, bv, rfl, da, sa⟩ := hv
  obtain ⟨Ad, cd, rfl, hcd1, hcd2⟩ := da.form
  obtain ⟨Ab, cb, rfl, hcb1, hcb2, -⟩ := id sa
  rw [List.length_map] at sa hcb1 ⊢
  rw [List.length_map] at HMy
  have Hda := Lib.hid da
  have Hsa := Lib.hid sa
  clear da sa hX hms hz
  rcases hm : letMay l with _ | _
  · rw [hm] at HMy HX
    have h1 : X = [] := HX.out
    subst h1
    clear HX hm HSM hl hcd1 hcd2 hcb1 hcb2
    obtain ⟨l0, l1, l2, l3, l4, l5, l6, l7, l8, l9, l10, l11, ld, lb⟩ := l
    simp only [LetD.val] at *
    go_enter Tryz.func20, Tryz.ntmps20
    go_wp2_with fail
    (with_reducible refine (HMy.out _ ((Below.refl _ _).alloc (Nat.le_refl _) _)).mono ?_)
    rintro e w1 ⟨rfl, hb1⟩
    have HB : Hid (Below w.heap.size w w1) := ((Below.refl _ _).alloc (Nat.le_refl _) _).trans (hb1.mono (by simp))
    clear hb1
    go_wp2
    go_ret
    exact ⟨_, rfl, SlC.nil_ _ _ _, HB.out⟩
  have HGD : Hid (∀ d ∈ l.docs, SmallE d ∧ docS d = textS (recordF d)) := fun d hd => by
    refine ⟨hl d hd, docS_paper ?_⟩
    obtain ⟨-, -, -, -, hr⟩ := letMay_parts hm
    unfold rB at hr
    simp only [Bool.and_eq_true] at hr
    exact List.all_eq_true.1 hr.2.2.1 d hd
  have HN := Lib.hid (nB_in (letMay_parts hm).2.1)
  have hkd : 0 ≤ l.kind ∧ l.kind ≤ 28 := by
    have := (letMay_parts hm).1
    unfold kB at this
    simp only [Bool.and_eq_true, inR_iff] at this
    exact this.1
  have hlen : l.docs.length ≤ 8 ∧ l.boxes.length ≤ 32 := by
    obtain ⟨-, -, -, -, hr⟩ := letMay_parts hm
    unfold rB at hr
    simp only [Bool.and_eq_true, decide_eq_true_eq] at hr
    exact ⟨hr.1, hr.2.1⟩
  obtain ⟨hd8, hb8⟩ := hlen
  rw [hm] at HMy HX
  have h1 : X = rec9 l ms := HX.out
  subst h1
  clear HX hm
  have HR : Hid (rec9 l ms = head9 l ms ++ l.docs.map (fun d => (n9doc, docS d)) ++ l.boxes.map (fun b => (n9box, b))) := rfl
  have HNu : Hid (∀ s n, -1 ≤ n → n ≤ 1048576 → ∀ W, Calls Tryz.prog 53 #[.string s, .int .i64 n] W fun e w' => e = .returned (.agg #[.string s, .string (digS n)]) ∧ Below W.heap.size W w') := fun s n h0 h1 W => rnum_any s n (by omega) (by omega) W
  have HNo : Hid (∀ W, Calls Tryz.prog 47 #[.agg #[.string l.cur, .int .i64 l.amount]] W fun e w' => e = .returned (.bool (noSum l.cur l.amount)) ∧ Below W.heap.size W w') := fun W => none_any _ _ W
  have HMt : Hid (∀ W, Calls Tryz.prog 52 #[.agg #[.string l.cur, .int .i64 l.amount]] W fun e w' => e = .returned (.string (monS l.cur l.amount)) ∧ Below W.heap.size W w') := fun W => rmtext_any _ _ W
  obtain ⟨bn, hbn⟩ : ∃ G, G = noSum l.cur l.amount := ⟨_, rfl⟩
  obtain ⟨mt, hmt⟩ : ∃ G, G = monS l.cur l.amount := ⟨_, rfl⟩
  rw [← hbn] at HNo HSM
  rw [← hmt] at HMt HSM
  clear hbn hmt hl
  obtain ⟨H, hH⟩ : ∃ H, H = head9 l ms := ⟨_, rfl⟩
  have HH : Hid (H.length = 11) := by show H.length = 11; rw [hH]; rfl
  have HFl : Hid (∀ (W : World), W.heap.size ≥ w.heap.size + 1 → OwnC (W.alloc (.cells #[.string n9from, .string l.src, .string n9to, .string l.dst, .string n9number, .string (digS l.number), .string n9kind, .string (postN l.kind), .string n9ack, .string (digS l.ack), .string n9deal, .string l.deal, .string n9text, .string l.text, .string n9party, .string l.party, .string n9index, .string (digS l.index), .string n9day, .string (digS l.day), .string n9sum, .string ms] 43)) (w.heap.size + 1) 43 2 (H.map frow) (.slice (some ⟨W.heap.size, 0, none⟩) 11 11)) := fun W hW => OwnC.lit W (H.map frow) (frow_len H) (by rw [hH]; rfl) _ hW 11 (by rw [hH]; rfl) (by decide)
  have HNs : Hid (∀ W, Calls Tryz.prog 10 #[] W fun e w' => ∃ b o c, e = .returned (.slice (some ⟨b, o, none⟩) 29 c) ∧ b < w'.heap.size ∧ w'.cell? ⟨b, o + l.kind.toNat, none⟩ = some (.string (postN l.kind)) ∧ Below W.heap.size W w') := fun W => by
    refine (refNames_any W).mono ?_
    rintro e w' ⟨v, rfl, hv, hb⟩
    obtain ⟨A, c, rfl, -⟩ := id hv
    rw [List.length_map, postL_len] at hv ⊢
    obtain ⟨b1, o1, rfl, hb1', x0⟩ := str_at (k := l.kind.toNat) hv (postN_in hkd.1 (by omega))
    exact ⟨b1, o1, c, rfl, hb1', x0, hb⟩
  obtain ⟨pk, hpk⟩ : ∃ G, G = postN l.kind := ⟨_, rfl⟩
  obtain ⟨kn, hkn⟩ : ∃ kn : Nat, kn = l.kind.toNat := ⟨_, rfl⟩
  have hkI : l.kind = (kn : Int) := by omega
  have hk29 : kn < 29 := by omega
  have hkI29 : (kn : Int) < 29 := by omega
  rw [← hpk] at HFl HNs
  rw [← hkn] at HNs
  rw [← hH] at HR
  clear hH hpk hkn hkd hcd1 hcb1
  unfold maxLen at hcd2 hcb2
  obtain ⟨R, hR⟩ : ∃ R, R = rec9 l ms := ⟨_, rfl⟩
  rw [← hR] at HR ⊢
  clear hR
  obtain ⟨l0, l1, l2, l3, l4, l5, l6, l7, l8, l9, l10, l11, ld, lb⟩ := l
  simp only [LetD.val] at *
  subst hkI
  obtain ⟨W0, hW0⟩ : ∃ W0, W0 = w.alloc (.cells #[.string l0, .string l1, .int .i64 l2, .int .i64 (kn : Int), .int .i64 l4, .string l5, .string l6, .string l7, .int .i64 l8, .int .i64 l9, .string l10, .int .i64 l11, .slice Ad ld.length cd, .slice Ab lb.length cb] 33) := ⟨_, rfl⟩
  have HF : Hid (∀ W, Below (w.heap.size + 1) W0 W → Below w.heap.size w W) := fun W h => by
    rw [hW0] at h; exact ((Below.refl _ _).alloc (Nat.le_refl _) _).trans (h.mono (by omega))
  have HK : Hid (∀ W, Below (w.heap.size + 1) W0 W → W.cell? ⟨w.heap.size, 0, none⟩ = some (.string l0) ∧ W.cell? ⟨w.heap.size, 1, none⟩ = some (.string l1) ∧ W.cell? ⟨w.heap.size, 2, none⟩ = some (.int .i64 l2) ∧ W.cell? ⟨w.heap.size, 3, none⟩ = some (.int .i64 (kn : Int)) ∧ W.cell? ⟨w.heap.size, 4, none⟩ = some (.int .i64 l4) ∧ W.cell? ⟨w.heap.size, 5, none⟩ = some (.string l5) ∧ W.cell? ⟨w.heap.size, 6, none⟩ = some (.string l6) ∧ W.cell? ⟨w.heap.size, 7, none⟩ = some (.string l7) ∧ W.cell? ⟨w.heap.size, 8, none⟩ = some (.int .i64 l8) ∧ W.cell? ⟨w.heap.size, 9, none⟩ = some (.int .i64 l9) ∧ W.cell? ⟨w.heap.size, 10, none⟩ = some (.string l10) ∧ W.cell? ⟨w.heap.size, 11, none⟩ = some (.int .i64 l11) ∧ W.cell? ⟨w.heap.size, 12, none⟩ = some (.slice Ad ld.length cd) ∧ W.cell? ⟨w.heap.size, 13, none⟩ = some (.slice Ab lb.length cb)) := fun W h => by
    rw [hW0] at h
    obtain ⟨z0, z1⟩ := bcell h
    refine ⟨(z0 w.heap.size 0 (by omega)).trans (by go_simp), (z0 w.heap.size 1 (by omega)).trans (by go_simp), (z0 w.heap.size 2 (by omega)).trans (by go_simp), (z0 w.heap.size 3 (by omega)).trans (by go_simp), (z0 w.heap.size 4 (by omega)).trans (by go_simp), (z0 w.heap.size 5 (by omega)).trans (by go_simp), (z0 w.heap.size 6 (by omega)).trans (by go_simp), (z0 w.heap.size 7 (by omega)).trans (by go_simp), (z0 w.heap.size 8 (by omega)).trans (by go_simp), (z0 w.heap.size 9 (by omega)).trans (by go_simp), (z0 w.heap.size 10 (by omega)).trans (by go_simp), (z0 w.heap.size 11 (by omega)).trans (by go_simp), (z0 w.heap.size 12 (by omega)).trans (by go_simp), (z0 w.heap.size 13 (by omega)).trans (by go_simp)⟩
  have HY : Hid (w.heap.size + 1 ≤ W0.heap.size) := show w.heap.size + 1 ≤ W0.heap.size by rw [hW0]; simp
  have HB : Hid (Below (w.heap.size + 1) W0 W0) := Below.refl _ _
  obtain ⟨k0, k1, k2, k3, k4, k5, k6, k7, k8, k9, k10, k11, k12, k13⟩ := HK.out _ HB.out
  have HW := Lib.hid hW0
  clear hW0
  go_enter Tryz.func20, Tryz.ntmps20
  go_upto_region 1 with fail
  rw [← HW.out]
  go_wp2_with fail
  (with_reducible refine (HMy.out _ (HF.out _ HB.out)).mono ?_)
  rintro e w1 ⟨rfl, hb1⟩
  have HB := Lib.hid (HB.out.trans (hb1.mono (Nat.le_trans HY.out HB.out.size)))
  clear hb1 k0 k1 k2 k3 k4 k5 k6 k7 k8 k9 k10 k11 k12 k13 HMy
  obtain ⟨k0, k1, k2, k3, k4, k5, k6, k7, k8, k9, k10, k11, k12, k13⟩ := HK.out _ HB.out
  go_upto_region 4 with fail
  go_upto_if 15 with (go_at_call 47; (with_reducible refine (HNo.out _).mono ?_); rintro e w1 ⟨rfl, hb1⟩; have HB := Lib.hid (HB.out.trans (hb1.mono (Nat.le_trans HY.out HB.out.size))); clear hb1 k0 k1 k2 k3 k4 k5 k6 k7 k8 k9 k10 k11 k12 k13; obtain ⟨k0, k1, k2, k3, k4, k5, k6, k7, k8, k9, k10, k11, k12, k13⟩ := HK.out _ HB.out)
  go_cut [3] from 16 (fun s wx => s = .string ms ∧ Hid (Below (w.heap.size + 1) W0 wx))
  case first =>
    rcases bn with _ | _
    · have HE : Hid (ms = mt) := HSM.out
      go_wp2_with (go_at_call 52; (with_reducible refine (HMt.out _).mono ?_); rintro e w1 ⟨rfl, hb1⟩; have HB := Lib.hid (HB.out.trans (hb1.mono (Nat.le_trans HY.out HB.out.size))); clear hb1 k0 k1 k2 k3 k4 k5 k6 k7 k8 k9 k10 k11 k12 k13; obtain ⟨k0, k1, k2, k3, k4, k5, k6, k7, k8, k9, k10, k11, k12, k13⟩ := HK.out _ HB.out)
      go_meet
      case rel => exact ⟨by rw [HE.out], HB⟩
    · have HE : Hid (ms = ⟨#[]⟩) := HSM.out
      go_wp2_with fail
      go_meet
      case rel => exact ⟨by rw [HE.out], HB⟩
  case rest =>
  clear HB k0 k1 k2 k3 k4 k5 k6 k7 k8 k9 k10 k11 k12 k13 HNo HMt HSM
  obtain ⟨hu, HB⟩ := hcut
  subst hu
  obtain ⟨k0, k1, k2, k3, k4, k5, k6, k7, k8, k9, k10, k11, k12, k13⟩ := HK.out _ HB.out
  go_upto_region 6 with fail
  go_cut [4] from 19 (fun s wx => ∃ wq : World, wx = wq ∧ Hid (OwnC wq (w.heap.size + 1) 43 2 (H.map frow) s ∧ Below (w.heap.size + 1) W0 wq))
  case first =>
    have HB : Hid (Below (w.heap.size + 1) W0 wc.drew) := Go.Sup.below_drewN HB.out 1
    clear k0 k1 k2 k3 k4 k5 k6 k7 k8 k9 k10 k11 k12 k13
    obtain ⟨k0, k1, k2, k3, k4, k5, k6, k7, k8, k9, k10, k11, k12, k13⟩ := HK.out _ HB.out
    refine wp_region_held_drew (S := fun W => W.cell? ⟨w.heap.size, 0, none⟩ = some (.string l0) ∧ W.cell? ⟨w.heap.size, 1, none⟩ = some (.string l1) ∧ W.cell? ⟨w.heap.size, 2, none⟩ = some (.int .i64 l2) ∧ W.cell? ⟨w.heap.size, 3, none⟩ = some (.int .i64 (kn : Int)) ∧ W.cell? ⟨w.heap.size, 4, none⟩ = some (.int .i64 l4) ∧ W.cell? ⟨w.heap.size, 5, none⟩ = some (.string l5) ∧ W.cell? ⟨w.heap.size, 6, none⟩ = some (.string l6) ∧ W.cell? ⟨w.heap.size, 7, none⟩ = some (.string l7) ∧ W.cell? ⟨w.heap.size, 8, none⟩ = some (.int .i64 l8) ∧ W.cell? ⟨w.heap.size, 9, none⟩ = some (.int .i64 l9) ∧ W.cell? ⟨w.heap.size, 10, none⟩ = some (.string l10) ∧ W.cell? ⟨w.heap.size, 11, none⟩ = some (.int .i64 l11) ∧ W.cell? ⟨w.heap.size, 12, none⟩ = some (.slice Ad ld.length cd) ∧ W.cell? ⟨w.heap.size, 13, none⟩ = some (.slice Ab lb.length cb)) (by kernel_rfl) ⟨k0, k1, k2, k3, k4, k5, k6, k7, k8, k9, k10, k11, k12, k13⟩ (fun hHeld => ?_)
    refine takeL (i := 0) (v := ?_) rfl (by kernel_rfl) (by kernel_rfl) (by kernel_rfl) (fun _ _ _ h => h) (Or.inl ⟨by rfl, ?_⟩) (by assumption) ?_
    rotate_left
    · (intro w hSw; (try dsimp only at hSw); go_simp; try with_reducible rfl)
    try simp only [Act.put, List.setIfInBounds_toArray, List.set_cons_zero, List.set_cons_succ]
    refine takeL (i := 1) (v := ?_) rfl (by kernel_rfl) (by kernel_rfl) (by kernel_rfl) (fun _ _ _ h => h) (Or.inl ⟨by rfl, ?_⟩) (by assumption) ?_
    rotate_left
    · (intro w hSw; (try dsimp only at hSw); go_simp; try with_reducible rfl)
    try simp only [Act.put, List.setIfInBounds_toArray, List.set_cons_zero, List.set_cons_succ]
    refine takeL (i := 2) (v := ?_) rfl (by kernel_rfl) (by kernel_rfl) (by kernel_rfl) (fun _ _ _ h => h) (Or.inl ⟨by rfl, ?_⟩) (by assumption) ?_
    rotate_left
    · (intro w hSw; (try dsimp only at hSw); go_simp; try with_reducible rfl)
    try simp only [Act.put, List.setIfInBounds_toArray, List.set_cons_zero, List.set_cons_succ]
    refine takeL (i := 3) (v := ?_) rfl (by kernel_rfl) (by kernel_rfl) (by kernel_rfl) (fun _ _ _ h => h) (Or.inl ⟨by rfl, ?_⟩) (by assumption) ?_
    rotate_left
    · (intro w hSw; (try dsimp only at hSw); go_simp; try with_reducible rfl)
    try simp only [Act.put, List.setIfInBounds_toArray, List.set_cons_zero, List.set_cons_succ]
    refine takeL (i := 4) (v := ?_) rfl (by kernel_rfl) (by kernel_rfl) (by kernel_rfl) (fun _ _ _ h => h) (Or.inl ⟨by rfl, ?_⟩) (by assumption) ?_
    rotate_left
    · (intro w hSw; (try dsimp only at hSw); go_simp; try with_reducible rfl)
    try simp only [Act.put, List.setIfInBounds_toArray, List.set_cons_zero, List.set_cons_succ]
    refine takeL (i := 5) (v := ?_) rfl (by kernel_rfl) (by kernel_rfl) (by kernel_rfl) (fun _ _ _ h => h) (Or.inl ⟨by rfl, ?_⟩) (by assumption) ?_
    rotate_left
    · (intro w hSw; (try dsimp only at hSw); go_simp; try with_reducible rfl)
    try simp only [Act.put, List.setIfInBounds_toArray, List.set_cons_zero, List.set_cons_succ]
    refine takeL (i := 6) (v := ?_) rfl (by kernel_rfl) (by kernel_rfl) (by kernel_rfl) (fun _ _ _ h => h) (Or.inl ⟨by rfl, ?_⟩) (by assumption) ?_
    rotate_left
    · (intro w hSw; (try dsimp only at hSw); go_simp; try with_reducible rfl)
    try simp only [Act.put, List.setIfInBounds_toArray, List.set_cons_zero, List.set_cons_succ]
    refine takeL (i := 7) (v := ?_) rfl (by kernel_rfl) (by kernel_rfl) (by kernel_rfl) (fun _ _ _ h => h) (Or.inl ⟨by rfl, ?_⟩) (by assumption) ?_
    rotate_left
    · (intro w hSw; (try dsimp only at hSw); go_simp; try with_reducible rfl)
    try simp only [Act.put, List.setIfInBounds_toArray, List.set_cons_zero, List.set_cons_succ]
    refine takeL (i := 10) (v := ?_) rfl (by kernel_rfl) (by kernel_rfl) (by kernel_rfl) (fun _ _ _ h => h) (Or.inl ⟨by rfl, ?_⟩) (by assumption) ?_
    rotate_left
    · (intro w hSw; (try dsimp only at hSw); go_simp; try with_reducible rfl)
    try simp only [Act.put, List.setIfInBounds_toArray, List.set_cons_zero, List.set_cons_succ]
    refine takeL (i := 11) (v := ?_) rfl (by kernel_rfl) (by kernel_rfl) (by kernel_rfl) (fun _ _ _ h => h) (Or.inl ⟨by rfl, ?_⟩) (by assumption) ?_
    rotate_left
    · (intro w hSw; (try dsimp only at hSw); go_simp; try with_reducible rfl)
    try simp only [Act.put, List.setIfInBounds_toArray, List.set_cons_zero, List.set_cons_succ]
    refine takeL (i := 15) (v := ?_) rfl (by kernel_rfl) (by kernel_rfl) (by kernel_rfl) (fun _ _ _ h => h) (Or.inl ⟨by rfl, ?_⟩) (by assumption) ?_
    rotate_left
    · (intro w hSw; (try dsimp only at hSw); go_simp; try with_reducible rfl)
    try simp only [Act.put, List.setIfInBounds_toArray, List.set_cons_zero, List.set_cons_succ]
    refine takeL (i := 16) (v := ?_) rfl (by kernel_rfl) (by kernel_rfl) (by kernel_rfl) (fun _ _ _ h => h) (Or.inl ⟨by rfl, ?_⟩) (by assumption) ?_
    rotate_left
    · (intro w hSw; (try dsimp only at hSw); go_simp; try with_reducible rfl)
    try simp only [Act.put, List.setIfInBounds_toArray, List.set_cons_zero, List.set_cons_succ]
    refine takeL (i := 18) (v := ?_) rfl (by kernel_rfl) (by kernel_rfl) (by kernel_rfl) (fun _ _ _ h => h) (Or.inl ⟨by rfl, ?_⟩) (by assumption) ?_
    rotate_left
    · (intro w hSw; (try dsimp only at hSw); go_simp; try with_reducible rfl)
    try simp only [Act.put, List.setIfInBounds_toArray, List.set_cons_zero, List.set_cons_succ]
    refine takeL (i := 19) (v := ?_) rfl (by kernel_rfl) (by kernel_rfl) (by kernel_rfl) (fun _ _ _ h => h) (Or.inl ⟨by rfl, ?_⟩) (by assumption) ?_
    rotate_left
    · (intro w hSw; (try dsimp only at hSw); go_simp; try with_reducible rfl)
    try simp only [Act.put, List.setIfInBounds_toArray, List.set_cons_zero, List.set_cons_succ]
    refine takeL (i := 20) (v := ?_) rfl (by kernel_rfl) (by kernel_rfl) (by kernel_rfl) (fun _ _ _ h => h) (Or.inl ⟨by rfl, ?_⟩) (by assumption) ?_
    rotate_left
    · (intro w hSw; (try dsimp only at hSw); go_simp; try with_reducible rfl)
    try simp only [Act.put, List.setIfInBounds_toArray, List.set_cons_zero, List.set_cons_succ]
    refine takeL (i := 21) (v := ?_) rfl (by kernel_rfl) (by kernel_rfl) (by kernel_rfl) (fun _ _ _ h => h) (Or.inl ⟨by rfl, ?_⟩) (by assumption) ?_
    rotate_left
    · (intro w hSw; (try dsimp only at hSw); go_simp; try with_reducible rfl)
    try simp only [Act.put, List.setIfInBounds_toArray, List.set_cons_zero, List.set_cons_succ]
    refine takeL (i := 22) (v := ?_) rfl (by kernel_rfl) (by kernel_rfl) (by kernel_rfl) (fun _ _ _ h => h) (Or.inl ⟨by rfl, ?_⟩) (by assumption) ?_
    rotate_left
    · (intro w hSw; (try dsimp only at hSw); go_simp; try with_reducible rfl)
    try simp only [Act.put, List.setIfInBounds_toArray, List.set_cons_zero, List.set_cons_succ]
    refine takeL (i := 23) (v := ?_) rfl (by kernel_rfl) (by kernel_rfl) (by kernel_rfl) (fun _ _ _ h => h) (Or.inl ⟨by rfl, ?_⟩) (by assumption) ?_
    rotate_left
    · (intro w hSw; (try dsimp only at hSw); go_simp; try with_reducible rfl)
    try simp only [Act.put, List.setIfInBounds_toArray, List.set_cons_zero, List.set_cons_succ]
    refine takeL (i := 24) (v := ?_) rfl (by kernel_rfl) (by kernel_rfl) (by kernel_rfl) (fun _ _ _ h => h) (Or.inl ⟨by rfl, ?_⟩) (by assumption) ?_
    rotate_left
    · (intro w hSw; (try dsimp only at hSw); go_simp; try with_reducible rfl)
    try simp only [Act.put, List.setIfInBounds_toArray, List.set_cons_zero, List.set_cons_succ]
    refine takeL (i := 25) (v := ?_) rfl (by kernel_rfl) (by kernel_rfl) (by kernel_rfl) (fun _ _ _ h => h) (Or.inl ⟨by rfl, ?_⟩) (by assumption) ?_
    rotate_left
    · (intro w hSw; (try dsimp only at hSw); go_simp; try with_reducible rfl)
    try simp only [Act.put, List.setIfInBounds_toArray, List.set_cons_zero, List.set_cons_succ]
    refine takeL (i := 26) (v := ?_) rfl (by kernel_rfl) (by kernel_rfl) (by kernel_rfl) (fun _ _ _ h => h) (Or.inl ⟨by rfl, ?_⟩) (by assumption) ?_
    rotate_left
    · (intro w hSw; (try dsimp only at hSw); go_simp; try with_reducible rfl)
    try simp only [Act.put, List.setIfInBounds_toArray, List.set_cons_zero, List.set_cons_succ]
    refine takeL (i := 27) (v := ?_) rfl (by kernel_rfl) (by kernel_rfl) (by kernel_rfl) (fun _ _ _ h => h) (Or.inl ⟨by rfl, ?_⟩) (by assumption) ?_
    rotate_left
    · (intro w hSw; (try dsimp only at hSw); go_simp; try with_reducible rfl)
    try simp only [Act.put, List.setIfInBounds_toArray, List.set_cons_zero, List.set_cons_succ]
    refine takeL (i := 28) (v := ?_) rfl (by kernel_rfl) (by kernel_rfl) (by kernel_rfl) (fun _ _ _ h => h) (Or.inl ⟨by rfl, ?_⟩) (by assumption) ?_
    rotate_left
    · (intro w hSw; (try dsimp only at hSw); go_simp; try with_reducible rfl)
    try simp only [Act.put, List.setIfInBounds_toArray, List.set_cons_zero, List.set_cons_succ]
    refine takeL (i := 30) (v := ?_) rfl (by kernel_rfl) (by kernel_rfl) (by kernel_rfl) (fun _ _ _ h => h) (Or.inl ⟨by rfl, ?_⟩) (by assumption) ?_
    rotate_left
    · (intro w hSw; (try dsimp only at hSw); go_simp; try with_reducible rfl)
    try simp only [Act.put, List.setIfInBounds_toArray, List.set_cons_zero, List.set_cons_succ]
    refine takeL (i := 31) (v := ?_) rfl (by kernel_rfl) (by kernel_rfl) (by kernel_rfl) (fun _ _ _ h => h) (Or.inl ⟨by rfl, ?_⟩) (by assumption) ?_
    rotate_left
    · (intro w hSw; (try dsimp only at hSw); go_simp; try with_reducible rfl)
    try simp only [Act.put, List.setIfInBounds_toArray, List.set_cons_zero, List.set_cons_succ]
    refine takeL (i := 33) (v := ?_) rfl (by kernel_rfl) (by kernel_rfl) (by kernel_rfl) (fun _ _ _ h => h) (Or.inl ⟨by rfl, ?_⟩) (by assumption) ?_
    rotate_left
    · (intro w hSw; (try dsimp only at hSw); go_simp; try with_reducible rfl)
    try simp only [Act.put, List.setIfInBounds_toArray, List.set_cons_zero, List.set_cons_succ]
    refine takeL (i := 34) (v := ?_) rfl (by kernel_rfl) (by kernel_rfl) (by kernel_rfl) (fun _ _ _ h => h) (Or.inl ⟨by rfl, ?_⟩) (by assumption) ?_
    rotate_left
    · (intro w hSw; (try dsimp only at hSw); go_simp; try with_reducible rfl)
    try simp only [Act.put, List.setIfInBounds_toArray, List.set_cons_zero, List.set_cons_succ]
    refine callL (i := 8) rfl (by kernel_rfl) (fun K hK => ?_)
    go_simp
    (refine (HNu.out _ _ (by have := HN.out; omega) (by have := HN.out; omega) _).mono ?_)
    rintro e w1 ⟨rfl, hb1⟩
    have HB := Lib.hid (HB.out.trans (hb1.mono (Nat.le_trans HY.out HB.out.size))); clear hb1 hHeld k0 k1 k2 k3 k4 k5 k6 k7 k8 k9 k10 k11 k12 k13; obtain ⟨k0, k1, k2, k3, k4, k5, k6, k7, k8, k9, k10, k11, k12, k13⟩ := HK.out _ HB.out
    go_wp2_with fail
    refine hK.out _ _ ?_ (fun hHeld => ?_)
    · exact ⟨k0, k1, k2, k3, k4, k5, k6, k7, k8, k9, k10, k11, k12, k13⟩
    clear hK K
    try simp only [Act.put, List.setIfInBounds_toArray, List.set_cons_zero, List.set_cons_succ]
    refine callL (i := 9) rfl (by kernel_rfl) (fun K hK => ?_)
    go_simp
    (refine (HNs.out _).mono ?_)
    rintro e w1 ⟨nb, no, nc, rfl, nlt, nx, hb1⟩
    have HB := Lib.hid (HB.out.trans (hb1.mono (Nat.le_trans HY.out HB.out.size))); clear hb1 hHeld k0 k1 k2 k3 k4 k5 k6 k7 k8 k9 k10 k11 k12 k13; obtain ⟨k0, k1, k2, k3, k4, k5, k6, k7, k8, k9, k10, k11, k12, k13⟩ := HK.out _ HB.out
    go_wp2_with fail
    refine hK.out _ _ ⟨k0, k1, k2, k3, k4, k5, k6, k7, k8, k9, k10, k11, k12, k13⟩ (fun hHeld => ?_)
    clear hK K hHeld
    refine switchL (S2 := fun W => (W.cell? ⟨w.heap.size, 0, none⟩ = some (.string l0) ∧ W.cell? ⟨w.heap.size, 1, none⟩ = some (.string l1) ∧ W.cell? ⟨w.heap.size, 2, none⟩ = some (.int .i64 l2) ∧ W.cell? ⟨w.heap.size, 3, none⟩ = some (.int .i64 (kn : Int)) ∧ W.cell? ⟨w.heap.size, 4, none⟩ = some (.int .i64 l4) ∧ W.cell? ⟨w.heap.size, 5, none⟩ = some (.string l5) ∧ W.cell? ⟨w.heap.size, 6, none⟩ = some (.string l6) ∧ W.cell? ⟨w.heap.size, 7, none⟩ = some (.string l7) ∧ W.cell? ⟨w.heap.size, 8, none⟩ = some (.int .i64 l8) ∧ W.cell? ⟨w.heap.size, 9, none⟩ = some (.int .i64 l9) ∧ W.cell? ⟨w.heap.size, 10, none⟩ = some (.string l10) ∧ W.cell? ⟨w.heap.size, 11, none⟩ = some (.int .i64 l11) ∧ W.cell? ⟨w.heap.size, 12, none⟩ = some (.slice Ad ld.length cd) ∧ W.cell? ⟨w.heap.size, 13, none⟩ = some (.slice Ab lb.length cb)) ∧ W.cell? ⟨nb, no + kn, none⟩ = some (.string pk)) (fun w h => h.1) _ _ _ _ ?_
    have hHeld := (show (fun W => (W.cell? ⟨w.heap.size, 0, none⟩ = some (.string l0) ∧ W.cell? ⟨w.heap.size, 1, none⟩ = some (.string l1) ∧ W.cell? ⟨w.heap.size, 2, none⟩ = some (.int .i64 l2) ∧ W.cell? ⟨w.heap.size, 3, none⟩ = some (.int .i64 (kn : Int)) ∧ W.cell? ⟨w.heap.size, 4, none⟩ = some (.int .i64 l4) ∧ W.cell? ⟨w.heap.size, 5, none⟩ = some (.string l5) ∧ W.cell? ⟨w.heap.size, 6, none⟩ = some (.string l6) ∧ W.cell? ⟨w.heap.size, 7, none⟩ = some (.string l7) ∧ W.cell? ⟨w.heap.size, 8, none⟩ = some (.int .i64 l8) ∧ W.cell? ⟨w.heap.size, 9, none⟩ = some (.int .i64 l9) ∧ W.cell? ⟨w.heap.size, 10, none⟩ = some (.string l10) ∧ W.cell? ⟨w.heap.size, 11, none⟩ = some (.int .i64 l11) ∧ W.cell? ⟨w.heap.size, 12, none⟩ = some (.slice Ad ld.length cd) ∧ W.cell? ⟨w.heap.size, 13, none⟩ = some (.slice Ab lb.length cb)) ∧ W.cell? ⟨nb, no + kn, none⟩ = some (Value.string pk)) w1 from ⟨⟨k0, k1, k2, k3, k4, k5, k6, k7, k8, k9, k10, k11, k12, k13⟩, nx⟩)
    try simp only [Act.put, List.setIfInBounds_toArray, List.set_cons_zero, List.set_cons_succ]
    refine takeL (i := 12) (v := ?_) rfl (by kernel_rfl) (by kernel_rfl) (by kernel_rfl) (fun _ _ _ h => h) (Or.inl ⟨by rfl, ?_⟩) (by assumption) ?_
    rotate_left
    · (intro w hSw; (try dsimp only at hSw); go_simp; try with_reducible rfl)
    try simp only [Act.put, List.setIfInBounds_toArray, List.set_cons_zero, List.set_cons_succ]
    refine takeL (i := 13) (v := ?_) rfl (by kernel_rfl) (by kernel_rfl) (by kernel_rfl) (fun _ _ _ h => h) (Or.inl ⟨by rfl, ?_⟩) (by assumption) ?_
    rotate_left
    · (intro w hSw; (try dsimp only at hSw); go_simp; try with_reducible rfl)
    try simp only [Act.put, List.setIfInBounds_toArray, List.set_cons_zero, List.set_cons_succ]
    refine takeL (i := 14) (v := ?_) rfl (by kernel_rfl) (by kernel_rfl) (by kernel_rfl) (fun _ _ _ h => h) (Or.inl ⟨by rfl, ?_⟩) (by assumption) ?_
    rotate_left
    · (intro w hSw; (try dsimp only at hSw); go_simp; try with_reducible rfl)
    try simp only [Act.put, List.setIfInBounds_toArray, List.set_cons_zero, List.set_cons_succ]
    refine callL (i := 17) rfl (by kernel_rfl) (fun K hK => ?_)
    go_simp
    (refine (HNu.out _ _ (by have := HN.out; omega) (by have := HN.out; omega) _).mono ?_)
    rintro e w1 ⟨rfl, hb1⟩
    have nx := (hb1.cell (p := ⟨nb, no + kn, none⟩) nlt).trans nx
    have nlt := Nat.lt_of_lt_of_le nlt hb1.size
    have HB := Lib.hid (HB.out.trans (hb1.mono (Nat.le_trans HY.out HB.out.size))); clear hb1 hHeld k0 k1 k2 k3 k4 k5 k6 k7 k8 k9 k10 k11 k12 k13; obtain ⟨k0, k1, k2, k3, k4, k5, k6, k7, k8, k9, k10, k11, k12, k13⟩ := HK.out _ HB.out
    go_wp2_with fail
    refine hK.out _ _ ?_ (fun hHeld => ?_)
    · exact ⟨⟨k0, k1, k2, k3, k4, k5, k6, k7, k8, k9, k10, k11, k12, k13⟩, nx⟩
    clear hK K
    try simp only [Act.put, List.setIfInBounds_toArray, List.set_cons_zero, List.set_cons_succ]
    refine callL (i := 29) rfl (by kernel_rfl) (fun K hK => ?_)
    go_simp
    (refine (HNu.out _ _ (by have := HN.out; omega) (by have := HN.out; omega) _).mono ?_)
    rintro e w1 ⟨rfl, hb1⟩
    have nx := (hb1.cell (p := ⟨nb, no + kn, none⟩) nlt).trans nx
    have nlt := Nat.lt_of_lt_of_le nlt hb1.size
    have HB := Lib.hid (HB.out.trans (hb1.mono (Nat.le_trans HY.out HB.out.size))); clear hb1 hHeld k0 k1 k2 k3 k4 k5 k6 k7 k8 k9 k10 k11 k12 k13; obtain ⟨k0, k1, k2, k3, k4, k5, k6, k7, k8, k9, k10, k11, k12, k13⟩ := HK.out _ HB.out
    go_wp2_with fail
    refine hK.out _ _ ?_ (fun hHeld => ?_)
    · exact ⟨⟨k0, k1, k2, k3, k4, k5, k6, k7, k8, k9, k10, k11, k12, k13⟩, nx⟩
    clear hK K
    try simp only [Act.put, List.setIfInBounds_toArray, List.set_cons_zero, List.set_cons_succ]
    refine callL (i := 32) rfl (by kernel_rfl) (fun K hK => ?_)
    go_simp
    (refine (HNu.out _ _ (by have := HN.out; omega) (by have := HN.out; omega) _).mono ?_)
    rintro e w1 ⟨rfl, hb1⟩
    have nx := (hb1.cell (p := ⟨nb, no + kn, none⟩) nlt).trans nx
    have nlt := Nat.lt_of_lt_of_le nlt hb1.size
    have HB := Lib.hid (HB.out.trans (hb1.mono (Nat.le_trans HY.out HB.out.size))); clear hb1 hHeld k0 k1 k2 k3 k4 k5 k6 k7 k8 k9 k10 k11 k12 k13; obtain ⟨k0, k1, k2, k3, k4, k5, k6, k7, k8, k9, k10, k11, k12, k13⟩ := HK.out _ HB.out
    go_wp2_with fail
    refine hK.out _ _ ?_ (fun hHeld => ?_)
    · exact ⟨⟨k0, k1, k2, k3, k4, k5, k6, k7, k8, k9, k10, k11, k12, k13⟩, nx⟩
    clear hK K
    try simp only [Act.put, List.setIfInBounds_toArray, List.set_cons_zero, List.set_cons_succ]
    refine callL (i := 35) rfl (by kernel_rfl) (fun K hK => ?_)
    go_simp
    refine hK.out _ _ ?_ (fun hHeld => ?_)
    · try dsimp only
      go_keep
    clear hK K
    try simp only [Act.put, List.setIfInBounds_toArray, List.set_cons_zero, List.set_cons_succ]
    refine takeL (i := 36) (v := ?_) rfl (by kernel_rfl) (by kernel_rfl) (by kernel_rfl) (fun _ _ _ h => h) (Or.inl ⟨by rfl, ?_⟩) (by assumption) ?_
    rotate_left
    · (intro w hSw; (try dsimp only at hSw); go_simp; try with_reducible rfl)
    try simp only [Act.put, List.setIfInBounds_toArray, List.set_cons_zero, List.set_cons_succ]
    refine wpAnyH_done (by kernel_rfl) ?_ _
    go_wp2_with fail
    go_meet
    case rel =>
      refine ⟨_, rfl, HFl.out _ (Nat.le_trans HY.out HB.out.size), HB.out.alloc (Nat.le_trans HY.out HB.out.size) _⟩
  case rest =>
  clear HB k0 k1 k2 k3 k4 k5 k6 k7 k8 k9 k10 k11 k12 k13 HNu HN HNs HFl
  obtain ⟨wq, hwq, HO⟩ := hcut
  subst hwq
  obtain ⟨k0, k1, k2, k3, k4, k5, k6, k7, k8, k9, k10, k11, k12, k13⟩ := HK.out _ HO.out.2
  go_wp2_with fail
  go_loopw [4, 5] (fun s i wr => ∃ k : Nat, k ≤ ld.length ∧ i = .int .i64 k ∧ Hid (OwnC wr (w.heap.size + 1) 43 2 ((H ++ (ld.take k).map fun d => (n9doc, docS d)).map frow) s ∧ Below (w.heap.size + 1) W0 wr)) (fun _ i _ => ld.length - (intOf i).toNat)
  case atStart => exact ⟨0, Nat.zero_le _, rfl, by simpa using HO.out.1, HO.out.2⟩
  case round =>
    clear k0 k1 k2 k3 k4 k5 k6 k7 k8 k9 k10 k11 k12 k13 HO
    obtain ⟨k, hk, rfl, HO⟩ := hrel
    obtain ⟨k0, k1, k2, k3, k4, k5, k6, k7, k8, k9, k10, k11, k12, k13⟩ := HK.out _ HO.out.2
    have hsz : w.heap.size + 1 ≤ wr.heap.size := Nat.le_trans HY.out HO.out.2.size
    have hal : ((H ++ (ld.take k).map fun d => (n9doc, docS d)).map frow).length ≤ 100 := by
      rw [List.length_map, List.length_append, HH.out, List.length_map, List.length_take]; omega
    by_cases hlt : k < ld.length
    · have hBr : B ≤ wr.heap.size := by omega
      obtain ⟨b1, o1, fv1, rfl, hb1', hs1, x0, x1, x2, x3⟩ := doc_at (Hda.out.below ((HF.out _ HO.out.2).mono hB)) (List.getElem?_eq_getElem hlt)
      obtain ⟨d1, hd1⟩ : ∃ d, d = ld[k] := ⟨_, rfl⟩
      rw [← hd1] at x0 x1 x2 hs1
      obtain ⟨F1, f1, rfl, -⟩ := id hs1
      rw [List.length_map] at hs1 x3
      have hde := HGD.out d1 (by rw [hd1]; exact List.getElem_mem hlt)
      obtain ⟨s1, hs⟩ : ∃ s, s = docS d1 := ⟨_, rfl⟩
      have HC : Hid (∀ W, Below wr.heap.size wr W → Calls Tryz.prog 50 #[.agg #[.int .i64 d1.kind, .string d1.number, .string d1.issuer, .slice F1 d1.fields.length f1]] W fun e w' => ∃ v', e = .returned v' ∧ SlC w' w'.heap.size 2 ((recordF d1).map frow) v' ∧ Below W.heap.size W w') := fun W h => refRecord_any d1 W B _ (hs1.below (h.mono hBr)) (Nat.le_trans hBr h.size) hde.1.2
      have HTx : Hid (∀ W V, SlC W W.heap.size 2 ((recordF d1).map frow) V → Calls Tryz.prog 24 #[V] W fun e w' => e = .returned (.tuple #[.string s1, .int .i64 (textE (recordF d1))]) ∧ Below W.heap.size W w') := fun W V h => by
        rw [hs, hde.2]; exact refText_any (recordF d1) (record_small hde.1.1) W _ V h (Nat.le_refl _)
      have HT : Hid ((H ++ (ld.take (k + 1)).map fun d => (n9doc, docS d)).map frow = (H ++ (ld.take k).map fun d => (n9doc, docS d)).map frow ++ [frow (n9doc, s1)]) := by
        show _ = _
        rw [List.take_succ_eq_append_getElem hlt, hs, hd1]; simp only [List.map_append, List.map_cons, List.map_nil, List.append_assoc]
      obtain ⟨Q, hQ⟩ : ∃ Q, Q = (H ++ (ld.take k).map fun d => (n9doc, docS d)).map frow := ⟨_, rfl⟩
      obtain ⟨te, hte⟩ : ∃ te, te = textE (recordF d1) := ⟨_, rfl⟩
      rw [← hte] at HTx
      rw [← hQ] at HO HT hal
      have hlI : (k : Int) < (ld.length : Int) := by omega
      clear hs1 hs hd1 hde hQ hte
      go_wp2_with fail
      (with_reducible refine (HC.out _ (Below.refl _ _)).mono ?_)
      rintro e w1 ⟨v1, rfl, hs1, hb1⟩
      have HS1 := Lib.hid hs1
      have HBa : Hid (Below wr.heap.size wr w1) := hb1
      clear hs1 hb1 x0 x1 x2 x3 k0 k1 k2 k3 k4 k5 k6 k7 k8 k9 k10 k11 k12 k13
      go_wp2_with fail
      (with_reducible refine (HTx.out _ _ HS1.out).mono ?_)
      rintro e w2 ⟨rfl, hb2⟩
      have HB1 : Hid (Below wr.heap.size wr w2) := HBa.out.trans (hb2.mono HBa.out.size)
      clear hb2
      have HO1 : Hid (OwnC w2 (w.heap.size + 1) 43 2 Q u4) := HO.out.1.below HB1.out
      have hsz1 : w.heap.size + 1 ≤ w2.heap.size := Nat.le_trans hsz HB1.out.size
      go_wp2_with (at_builtin; go_must (refine wpList_appN _ rfl (.tmp 72) (.tmp 75) 36 rfl elFlds (w.heap.size + 1) _ u4 rfl (HO1.out.alloc _) _ [frow (n9doc, s1)] _ rfl (SlC.litN [frow (n9doc, s1)] (by simp [frow]) rfl 43 w2.heap.size 1 (w2.heap.size + 1) rfl (by simp) (by omega) (by unfold maxLen; omega)) (by simp [frow]) (by simp [frow, Value.oneCell']) (by simp at hal ⊢; omega) (by unfold maxLen; simp at hal ⊢; omega) (by simp; omega) ?_))
      intro v3 w3 ho3 hg3 hb3 _
      have HO3 : Hid (OwnC w3 (w.heap.size + 1) 43 2 ((H ++ (ld.take (k + 1)).map fun d => (n9doc, docS d)).map frow) v3 ∧ Below (w.heap.size + 1) W0 w3) := ⟨by rw [HT.out]; exact ho3, ((HO.out.2.trans (HB1.out.mono hsz)).alloc hsz1 _).trans hb3⟩
      clear ho3 hg3 hb3
      go_wp2
      go_roundw
      case rel => exact ⟨k + 1, hlt, by go_num, HO3⟩
      case measure => simp [intOf]; omega
    · obtain rfl : k = ld.length := by omega
      have HO2 : Hid (OwnC wr (w.heap.size + 1) 43 2 ((H ++ ld.map fun d => (n9doc, docS d)).map frow) u4 ∧ Below (w.heap.size + 1) W0 wr) := by
        have := HO.out
        rw [List.take_length] at this
        exact this
      obtain ⟨G, hG⟩ : ∃ G, G = H ++ ld.map fun d => (n9doc, docS d) := ⟨_, rfl⟩
      have HG : Hid (G.length ≤ 19) := by show _ ≤ _; rw [hG, List.length_append, HH.out, List.length_map]; omega
      rw [← hG] at HO2 HR
      clear hlt hk HO hG hal
      go_wp2_with fail
      go_loopw [4, 8] (fun s i wx => ∃ k : Nat, k ≤ lb.length ∧ i = .int .i64 k ∧ Hid (OwnC wx (w.heap.size + 1) 43 2 ((G ++ (lb.take k).map fun b => (n9box, b)).map frow) s ∧ Below (w.heap.size + 1) W0 wx)) (fun _ i _ => lb.length - (intOf i).toNat)
      case atStart => exact ⟨0, Nat.zero_le _, rfl, by simpa using HO2.out.1, HO2.out.2⟩
      case round =>
        clear k0 k1 k2 k3 k4 k5 k6 k7 k8 k9 k10 k11 k12 k13
        obtain ⟨k, hk, rfl, HO⟩ := hrel
        obtain ⟨k0, k1, k2, k3, k4, k5, k6, k7, k8, k9, k10, k11, k12, k13⟩ := HK.out _ HO.out.2
        have hsz2 : w.heap.size + 1 ≤ wr.heap.size := Nat.le_trans HY.out HO.out.2.size
        have hal : ((G ++ (lb.take k).map fun b => (n9box, b)).map frow).length ≤ 100 := by
          have := HG.out
          rw [List.length_map, List.length_append, List.length_map, List.length_take]; omega
        by_cases hlt : k < lb.length
        · obtain ⟨b1, o1, rfl, hb1', x0⟩ := str_at (Hsa.out.below ((HF.out _ HO.out.2).mono hB)) (List.getElem?_eq_getElem hlt)
          obtain ⟨s1, hd1⟩ : ∃ d, d = lb[k] := ⟨_, rfl⟩
          rw [← hd1] at x0
          have HT : Hid ((G ++ (lb.take (k + 1)).map fun b => (n9box, b)).map frow = (G ++ (lb.take k).map fun b => (n9box, b)).map frow ++ [frow (n9box, s1)]) := by
            show _ = _
            rw [List.take_succ_eq_append_getElem hlt, hd1]; simp only [List.map_append, List.map_cons, List.map_nil, List.append_assoc]
          obtain ⟨Q, hQ⟩ : ∃ Q, Q = (G ++ (lb.take k).map fun b => (n9box, b)).map frow := ⟨_, rfl⟩
          rw [← hQ] at HO HT hal
          have hlI : (k : Int) < (lb.length : Int) := by omega
          clear hd1 hQ
          go_wp2_with (at_builtin; go_must (refine wpList_appN _ rfl (.tmp 84) (.tmp 91) 36 rfl elFlds (w.heap.size + 1) _ u4 rfl (HO.out.1.alloc _) _ [frow (n9box, s1)] _ rfl (SlC.litN [frow (n9box, s1)] (by simp [frow]) rfl 43 wr.heap.size 1 (wr.heap.size + 1) rfl (by simp) (by omega) (by unfold maxLen; omega)) (by simp [frow]) (by simp [frow, Value.oneCell']) (by simp at hal ⊢; omega) (by unfold maxLen; simp at hal ⊢; omega) (by simp; omega) ?_))
          intro v3 w3 ho3 hg3 hb3 _
          have HO3 : Hid (OwnC w3 (w.heap.size + 1) 43 2 ((G ++ (lb.take (k + 1)).map fun b => (n9box, b)).map frow) v3 ∧ Below (w.heap.size + 1) W0 w3) := ⟨by rw [HT.out]; exact ho3, (HO.out.2.alloc hsz2 _).trans hb3⟩
          clear ho3 hg3 hb3
          go_wp2
          go_roundw
          case rel => exact ⟨k + 1, hlt, by go_num, HO3⟩
          case measure => simp [intOf]; omega
        · obtain rfl : k = lb.length := by omega
          have HO3 : Hid (SlC _ _ 2 (R.map frow) _ ∧ Below w.heap.size w _) := ⟨by
            have := HO.out.1.sl
            rw [List.take_length, ← HR.out] at this
            exact this, HF.out _ HO.out.2⟩
          clear hlt hk HO hal
          go_wp2
          go_ret
          exact ⟨_, rfl, HO3.out.1, HO3.out.2⟩
end Go.Proofs.YtlffpelkmdcckaaGreatDoor
