/- FieldSames: the walk. -/
import Derived.Test.YtnohmhemniopoaaAwake5
import Derived.Test.YtnohmhemniopoaaLong
import Derived.Deep.RegionHeld3
namespace Go.Proofs.Ytnohmhemniopoaa
open Go Go.RowKit Go.Sup
set_option maxRecDepth 100000
theorem docEq_self (a : DocD) : docEq a a = true := by simp [docEq, frowsEq]
/-- Two boxes of four cells, kept. -/
theorem two_boxes {W w' : World} {m : Nat} (hb : Below W.heap.size W w') (hm : m + 2 ≤ W.heap.size) {a0 a1 a2 a3 b0 b1 b2 b3 : Value} (h : (W.cell? ⟨m, 0, none⟩ = some a0 ∧ W.cell? ⟨m, 1, none⟩ = some a1 ∧ W.cell? ⟨m, 2, none⟩ = some a2 ∧ W.cell? ⟨m, 3, none⟩ = some a3) ∧ W.cell? ⟨m + 1, 0, none⟩ = some b0 ∧ W.cell? ⟨m + 1, 1, none⟩ = some b1 ∧ W.cell? ⟨m + 1, 2, none⟩ = some b2 ∧ W.cell? ⟨m + 1, 3, none⟩ = some b3) :
    (w'.cell? ⟨m, 0, none⟩ = some a0 ∧ w'.cell? ⟨m, 1, none⟩ = some a1 ∧ w'.cell? ⟨m, 2, none⟩ = some a2 ∧ w'.cell? ⟨m, 3, none⟩ = some a3) ∧ w'.cell? ⟨m + 1, 0, none⟩ = some b0 ∧ w'.cell? ⟨m + 1, 1, none⟩ = some b1 ∧ w'.cell? ⟨m + 1, 2, none⟩ = some b2 ∧ w'.cell? ⟨m + 1, 3, none⟩ = some b3 := by
  obtain ⟨z, _⟩ := bcell hb
  obtain ⟨⟨h0, h1, h2, h3⟩, h4, h5, h6, h7⟩ := h
  exact ⟨⟨(z m 0 (by omega)).trans h0, (z m 1 (by omega)).trans h1, (z m 2 (by omega)).trans h2, (z m 3 (by omega)).trans h3⟩, (z (m + 1) 0 (by omega)).trans h4, (z (m + 1) 1 (by omega)).trans h5, (z (m + 1) 2 (by omega)).trans h6, (z (m + 1) 3 (by omega)).trans h7⟩
set_option maxHeartbeats 2000000 in
theorem fieldSames_any (a b : DocD) (w : World) (B : Nat) (v1 v2 : Value) (hv1 : SlC w B 2 (a.fields.map frow) v1) (hv2 : SlC w B 2 (b.fields.map frow) v2) (hB : B ≤ w.heap.size) :
    Calls Try.prog 4 #[a.val v1, b.val v2] w fun e w' => e = .returned (.bool true) ∧ Below w.heap.size w w' := by
  have CF1 : Hid (∀ W, Below w.heap.size w W → Calls Try.prog 12 #[a.val v1] W fun e w' => e = .returned (.bool (fewB a)) ∧ Below W.heap.size W w') := fun W h => few_any a W w.heap.size v1 ((hv1.more hB).below h) h.size
  have CF2 : Hid (∀ W, Below w.heap.size w W → Calls Try.prog 12 #[b.val v2] W fun e w' => e = .returned (.bool (fewB b)) ∧ Below W.heap.size W w') := fun W h => few_any b W w.heap.size v2 ((hv2.more hB).below h) h.size
  have CS1 : Hid (∀ W, Below w.heap.size w W → Calls Try.prog 13 #[a.val v1, b.val v2] W fun e w' => e = .returned (.bool (docEq a b)) ∧ Below W.heap.size W w') := fun W h => same_any a b W w.heap.size v1 v2 ((hv1.more hB).below h) ((hv2.more hB).below h) h.size
  have CS2 : Hid (∀ W, Below w.heap.size w W → Calls Try.prog 13 #[a.val v1, a.val v1] W fun e w' => e = .returned (.bool true) ∧ Below W.heap.size W w') := fun W h => by
    have := same_any a a W w.heap.size v1 v1 ((hv1.more hB).below h) ((hv1.more hB).below h) h.size
    rw [docEq_self] at this; exact this
  have CA : Hid (∀ W, Below w.heap.size w W → Calls Try.prog 14 #[a.val v1, b.val v2] W fun e w' => e = .returned (.bool (docEq a b)) ∧ Below W.heap.size W w') := fun W h => alike_any a b W w.heap.size v1 v2 ((hv1.more hB).below h) ((hv2.more hB).below h) h.size
  obtain ⟨k1, n1, i1, l1⟩ := a
  obtain ⟨k2, n2, i2, l2⟩ := b
  obtain ⟨A1, c1, rfl, -⟩ := id hv1
  obtain ⟨A2, c2, rfl, -⟩ := id hv2
  simp only [DocD.val, List.length_map] at CF1 CF2 CS1 CS2 CA ⊢
  obtain ⟨f1, hf1⟩ : ∃ f, f = fewB ⟨k1, n1, i1, l1⟩ := ⟨_, rfl⟩
  obtain ⟨f2, hf2⟩ : ∃ f, f = fewB ⟨k2, n2, i2, l2⟩ := ⟨_, rfl⟩
  obtain ⟨d, hd⟩ : ∃ d, d = docEq ⟨k1, n1, i1, l1⟩ ⟨k2, n2, i2, l2⟩ := ⟨_, rfl⟩
  rw [← hf1] at CF1
  rw [← hf2] at CF2
  rw [← hd] at CS1 CA
  clear hf1 hf2 hd hv1 hv2 hB
  go_enter Try.func4, Try.ntmps4
  go_wp2_with fail
  refine (CF1.out _ (((Below.refl _ _).alloc (Nat.le_refl _) _).alloc (by simp) _)).mono ?_
  rintro e w1 ⟨rfl, hb1⟩
  obtain ⟨z0, z1⟩ := bcell hb1
  have p0 : w1.cell? ⟨w.heap.size, 0, none⟩ = some (.int .i64 k1) := (z0 w.heap.size 0 (by simp; omega)).trans (by go_simp)
  have p1 : w1.cell? ⟨w.heap.size, 1, none⟩ = some (.string n1) := (z0 w.heap.size 1 (by simp; omega)).trans (by go_simp)
  have p2 : w1.cell? ⟨w.heap.size, 2, none⟩ = some (.string i1) := (z0 w.heap.size 2 (by simp; omega)).trans (by go_simp)
  have p3 : w1.cell? ⟨w.heap.size, 3, none⟩ = some (.slice A1 l1.length c1) := (z0 w.heap.size 3 (by simp; omega)).trans (by go_simp)
  have q0 : w1.cell? ⟨w.heap.size + 1, 0, none⟩ = some (.int .i64 k2) := (z0 (w.heap.size + 1) 0 (by simp)).trans (by go_simp)
  have q1 : w1.cell? ⟨w.heap.size + 1, 1, none⟩ = some (.string n2) := (z0 (w.heap.size + 1) 1 (by simp)).trans (by go_simp)
  have q2 : w1.cell? ⟨w.heap.size + 1, 2, none⟩ = some (.string i2) := (z0 (w.heap.size + 1) 2 (by simp)).trans (by go_simp)
  have q3 : w1.cell? ⟨w.heap.size + 1, 3, none⟩ = some (.slice A2 l2.length c2) := (z0 (w.heap.size + 1) 3 (by simp)).trans (by go_simp)
  have hs1 : w.heap.size + 2 ≤ w1.heap.size := by have := hb1.size; simp at this; omega
  have HB1 : Hid (Below w.heap.size w w1) := (((Below.refl _ _).alloc (Nat.le_refl _) _).alloc (by simp) _).trans (hb1.mono (by simp; omega))
  clear z0 z1 hb1
  cases f1
  · go_wp2_with fail
    refine (awake_any _).mono ?_
    rintro e w2 ⟨rfl, hb2⟩
    have HB2 : Hid (Below w.heap.size w w2) := HB1.out.trans (hb2.mono (by omega))
    clear hb2
    go_wp2
    go_ret
    exact ⟨rfl, HB2.out⟩
  · go_wp2_with fail
    refine (CF2.out _ HB1.out).mono ?_
    rintro e w2 ⟨rfl, hb2⟩
    obtain ⟨z0, z1⟩ := bcell hb2
    have p0 := (z0 w.heap.size 0 (by omega)).trans p0
    have p1 := (z0 w.heap.size 1 (by omega)).trans p1
    have p2 := (z0 w.heap.size 2 (by omega)).trans p2
    have p3 := (z0 w.heap.size 3 (by omega)).trans p3
    have q0 := (z0 (w.heap.size + 1) 0 (by omega)).trans q0
    have q1 := (z0 (w.heap.size + 1) 1 (by omega)).trans q1
    have q2 := (z0 (w.heap.size + 1) 2 (by omega)).trans q2
    have q3 := (z0 (w.heap.size + 1) 3 (by omega)).trans q3
    have hs2 : w.heap.size + 2 ≤ w2.heap.size := by have := hb2.size; omega
    have HB2 : Hid (Below w.heap.size w w2) := HB1.out.trans (hb2.mono (by omega))
    clear z0 z1 hb2
    cases f2
    · go_wp2_with fail
      refine (awake_any _).mono ?_
      rintro e w3 ⟨rfl, hb3⟩
      have HB3 : Hid (Below w.heap.size w w3) := HB2.out.trans (hb3.mono (by omega))
      clear hb3
      go_wp2
      go_ret
      exact ⟨rfl, HB3.out⟩
    · have tok1 : True := trivial
      go_wp2
      go_region_held3 (fun W => (W.cell? ⟨w.heap.size, 0, none⟩ = some (.int .i64 k1) ∧ W.cell? ⟨w.heap.size, 1, none⟩ = some (.string n1) ∧ W.cell? ⟨w.heap.size, 2, none⟩ = some (.string i1) ∧ W.cell? ⟨w.heap.size, 3, none⟩ = some (.slice A1 l1.length c1)) ∧ W.cell? ⟨w.heap.size + 1, 0, none⟩ = some (.int .i64 k2) ∧ W.cell? ⟨w.heap.size + 1, 1, none⟩ = some (.string n2) ∧ W.cell? ⟨w.heap.size + 1, 2, none⟩ = some (.string i2) ∧ W.cell? ⟨w.heap.size + 1, 3, none⟩ = some (.slice A2 l2.length c2)) (go_keep) (first | (go_at_call 13; have _t := tok1; refine (CS1.out _ (below_drewN HB2.out 1)).mono ?_; rintro e w3 ⟨rfl, hb3⟩; obtain ⟨⟨r0, r1, r2, r3⟩, s0, s1, s2, s3⟩ := two_boxes hb3 hs2 ⟨⟨p0, p1, p2, p3⟩, q0, q1, q2, q3⟩; have hs3 : w.heap.size + 2 ≤ w3.heap.size := Nat.le_trans hs2 hb3.size; have HB3 : Hid (Below w.heap.size w w3) := (below_drewN HB2.out 1).trans (hb3.mono (Nat.le_trans (by omega) hs2)); clear hb3 tok1) | (go_at_call 14; refine (CA.out _ HB3.out).mono ?_; rintro e w4 ⟨rfl, hb4⟩; obtain ⟨⟨t0, t1, t2, t3⟩, u0, u1, u2, u3⟩ := two_boxes hb4 hs3 ⟨⟨r0, r1, r2, r3⟩, s0, s1, s2, s3⟩; have hs4 : w.heap.size + 2 ≤ w4.heap.size := Nat.le_trans hs3 hb4.size; have HB4 : Hid (Below w.heap.size w w4) := HB3.out.trans (hb4.mono (by omega)); clear hb4) | (go_at_call 13; refine (CS2.out _ HB4.out).mono ?_; rintro e w5 ⟨rfl, hb5⟩; obtain ⟨⟨x0, x1, x2, x3⟩, y0, y1, y2, y3⟩ := two_boxes hb5 hs4 ⟨⟨t0, t1, t2, t3⟩, u0, u1, u2, u3⟩; have hs5 : w.heap.size + 2 ≤ w5.heap.size := Nat.le_trans hs4 hb5.size; have HB5 : Hid (Below w.heap.size w w5) := HB4.out.trans (hb5.mono (by omega)); clear hb5) | (go_at_call 7; refine (awake_any _).mono ?_; rintro e w6 ⟨rfl, hb6⟩; obtain ⟨⟨X0, X1, X2, X3⟩, Y0, Y1, Y2, Y3⟩ := two_boxes hb6 hs5 ⟨⟨x0, x1, x2, x3⟩, y0, y1, y2, y3⟩; have HB6 : Hid (Below w.heap.size w w6) := HB5.out.trans (hb6.mono (by omega)); clear hb6))
      all_goals (go_wp2; go_ret; exact ⟨rfl, HB6.out⟩)
end Go.Proofs.Ytnohmhemniopoaa
