/- Rows of fields and papers: are they one. -/
import Derived.Test.YtlffpelkmdcckaaGreatDoorText
import Derived.Laws.StructEq
namespace Go.Proofs.YtlffpelkmdcckaaGreatDoor
open Go Go.RowKit Go.Sup
set_option maxRecDepth 100000
theorem run_neqF (a b c d : ByteArray) (w : World) : (binOp .neq 43 (.agg #[.string a, .string b]) (.agg #[.string c, .string d])).run Tryz.prog w = .ok (.bool (!(decide ((a, b) = (c, d))))) w := by
  have u9 := Tryz.underlying9
  have a9 := Tryz.isAgg9
  have z9 := Tryz.sizeOf9
  have hS : Tryz.prog.underlying 43 = some (.struct (Tryz.prog.fieldsOf 43)) := by kernel_rfl
  have hp : Tryz.prog.stoodInHeld 43 = false := by kernel_rfl
  rw [run_neq_struct, show (10000 : Nat) = 9999 + 1 from rfl, run_equalIn_struct w 9999 43 _ _ hS hp]
  simp only [Program.fieldsOf, Tryz.underlying43]
  go_simp
  have e1 : (a.toList = c.toList) = (a = c) := propext ⟨bs_ext, fun h => by rw [h]⟩
  have e2 : (b.toList = d.toList) = (b = d) := propext ⟨bs_ext, fun h => by rw [h]⟩
  by_cases h1 : a = c <;> by_cases h2 : b = d <;> simp [h1, h2, e1, e2]
def frowsEq (l m : List Fld) : Bool := decide (l = m)
theorem frowsEq_len {l m : List Fld} (h : l.length ≠ m.length) : frowsEq l m = false := by
  unfold frowsEq; simp; intro e; exact h (by rw [e])
theorem frowsEq_at {l m : List Fld} {k : Nat} (h1 : k < l.length) (h2 : k < m.length) (h : l[k] ≠ m[k]) : frowsEq l m = false := by
  unfold frowsEq; simp; intro e; subst e; exact h rfl
theorem frowsEq_all {l m : List Fld} (hl : l.length = m.length) (h : l.take l.length = m.take l.length) : frowsEq l m = true := by
  unfold frowsEq
  rw [List.take_length, hl, List.take_length] at h
  simp [h]
set_option maxHeartbeats 1000000 in
theorem equal_any (l m : List Fld) (w : World) (B : Nat) (v1 v2 : Value) (hv1 : SlC w B 2 (l.map frow) v1) (hv2 : SlC w B 2 (m.map frow) v2) :
    Calls Tryz.prog 55 #[v1, v2] w fun e w' => e = .returned (.bool (frowsEq l m)) ∧ ∃ n, w' = w.drewN n := by
  obtain ⟨A1, c1, rfl, hn1, hc1, -⟩ := id hv1
  obtain ⟨A2, c2, rfl, hn2, hc2, -⟩ := id hv2
  rw [List.length_map] at hn1 hv1 hn2 hv2
  simp only [List.length_map]
  unfold maxLen at hc1 hc2
  have Hv1 := Lib.hid hv1
  have Hv2 := Lib.hid hv2
  clear hv1 hv2
  have hm62 : Tryz.prog.eqGuardType Tryz.prog.depth 43 = false := by kernel_rfl
  by_cases hl : l.length = m.length
  · have hl' : ((l.length : Int) != (m.length : Int)) = false := by simp [hl]
    have Hl := Lib.hid hl
    clear hl
    go_enter Tryz.func55, Tryz.ntmps55
    go_wp2
    go_loopw [5, 13] (fun _ i wr => ∃ k : Nat, k ≤ l.length ∧ i = .int .i64 k ∧ Hid (l.take k = m.take k) ∧ ∃ n, wr = w.drewN n) (fun _ i _ => l.length - (intOf i).toNat)
    case atStart => exact ⟨0, Nat.zero_le _, rfl, rfl, 0, rfl⟩
    case round =>
      obtain ⟨k, hk, rfl, HT, q, rfl⟩ := hrel
      by_cases hlt : k < l.length
      · have hlt2 : k < m.length := by have := Hl.out; omega
        obtain ⟨b1, o1, rfl, _, x0, x1⟩ := fld_at Hv1.out (List.getElem?_eq_getElem hlt)
        obtain ⟨b2, o2, rfl, _, y0, y1⟩ := fld_at Hv2.out (List.getElem?_eq_getElem hlt2)
        have hne := run_neqF l[k].1 l[k].2 m[k].1 m[k].2
        have hlI : (k : Int) < (l.length : Int) := by omega
        have hlI2 : (k : Int) < (m.length : Int) := by omega
        rcases Decidable.em (l[k] = m[k]) with he | he
        · have hd : decide ((l[k].1, l[k].2) = (m[k].1, m[k].2)) = true := by simp [he]
          rw [hd] at hne
          have Hx := Lib.hid he
          clear he hd
          go_wp2
          go_quiet (fail)
          go_wp2
          go_roundw
          case rel =>
            refine ⟨k + 1, hlt, by go_num, ?_, _, rfl⟩
            show l.take (k + 1) = m.take (k + 1)
            rw [List.take_succ_eq_append_getElem hlt, List.take_succ_eq_append_getElem hlt2, HT.out, Hx.out]
          case measure => simp [intOf]; omega
        · have hd : decide ((l[k].1, l[k].2) = (m[k].1, m[k].2)) = false := decide_eq_false he
          rw [hd] at hne
          have Hx := Lib.hid (frowsEq_at hlt hlt2 he)
          clear he hd
          go_wp2
          go_quiet (fail)
          go_wp2
          go_ret
          exact ⟨by rw [Hx.out]; rfl, _, World.drewN_drewN _ _ _⟩
      · obtain rfl : k = l.length := by omega
        have Hx := Lib.hid (frowsEq_all Hl.out HT.out)
        clear hlt hk
        go_wp2
        go_ret
        exact ⟨by rw [Hx.out]; rfl, _, rfl⟩
  · have hl' : ((l.length : Int) != (m.length : Int)) = true := by simp; omega
    have Hx := Lib.hid (frowsEq_len hl)
    clear hl
    go_enter Tryz.func55, Tryz.ntmps55
    go_wp2
    go_ret
    exact ⟨by rw [Hx.out]; rfl, 0, rfl⟩
set_option maxHeartbeats 1000000 in
theorem refSame_any (l m : List Fld) (w : World) (B : Nat) (v1 v2 : Value) (hv1 : SlC w B 2 (l.map frow) v1) (hv2 : SlC w B 2 (m.map frow) v2) :
    Calls Tryz.prog 18 #[v1, v2] w fun e w' => e = .returned (.bool (frowsEq l m)) ∧ ∃ n, w' = w.drewN n := by
  obtain ⟨A1, c1, rfl, hn1, hc1, -⟩ := id hv1
  obtain ⟨A2, c2, rfl, hn2, hc2, -⟩ := id hv2
  rw [List.length_map] at hn1 hv1 hn2 hv2
  simp only [List.length_map]
  unfold maxLen at hc1 hc2
  have Hv1 := Lib.hid hv1
  have Hv2 := Lib.hid hv2
  clear hv1 hv2
  have hm62 : Tryz.prog.eqGuardType Tryz.prog.depth 43 = false := by kernel_rfl
  by_cases hl : l.length = m.length
  · have hl' : ((l.length : Int) != (m.length : Int)) = false := by simp [hl]
    have Hl := Lib.hid hl
    clear hl
    go_enter Tryz.func18, Tryz.ntmps18
    go_wp2
    go_loopw [5] (fun i wr => ∃ k : Nat, k ≤ l.length ∧ i = .int .i64 k ∧ Hid (l.take k = m.take k) ∧ ∃ n, wr = w.drewN n) (fun i _ => l.length - (intOf i).toNat)
    case atStart => exact ⟨0, Nat.zero_le _, rfl, rfl, 0, rfl⟩
    case round =>
      obtain ⟨k, hk, rfl, HT, q, rfl⟩ := hrel
      by_cases hlt : k < l.length
      · have hlt2 : k < m.length := by have := Hl.out; omega
        obtain ⟨b1, o1, rfl, _, x0, x1⟩ := fld_at Hv1.out (List.getElem?_eq_getElem hlt)
        obtain ⟨b2, o2, rfl, _, y0, y1⟩ := fld_at Hv2.out (List.getElem?_eq_getElem hlt2)
        have hne := run_neqF l[k].1 l[k].2 m[k].1 m[k].2
        have hlI : (k : Int) < (l.length : Int) := by omega
        have hlI2 : (k : Int) < (m.length : Int) := by omega
        rcases Decidable.em (l[k] = m[k]) with he | he
        · have hd : decide ((l[k].1, l[k].2) = (m[k].1, m[k].2)) = true := by simp [he]
          rw [hd] at hne
          have Hx := Lib.hid he
          clear he hd
          go_wp2
          go_quiet (fail)
          go_wp2
          go_roundw
          case rel =>
            refine ⟨k + 1, hlt, by go_num, ?_, _, rfl⟩
            show l.take (k + 1) = m.take (k + 1)
            rw [List.take_succ_eq_append_getElem hlt, List.take_succ_eq_append_getElem hlt2, HT.out, Hx.out]
          case measure => simp [intOf]; omega
        · have hd : decide ((l[k].1, l[k].2) = (m[k].1, m[k].2)) = false := decide_eq_false he
          rw [hd] at hne
          have Hx := Lib.hid (frowsEq_at hlt hlt2 he)
          clear he hd
          go_wp2
          go_quiet (fail)
          go_wp2
          go_ret
          exact ⟨by rw [Hx.out]; rfl, _, World.drewN_drewN _ _ _⟩
      · obtain rfl : k = l.length := by omega
        have Hx := Lib.hid (frowsEq_all Hl.out HT.out)
        clear hlt hk
        go_wp2
        go_ret
        exact ⟨by rw [Hx.out]; rfl, _, rfl⟩
  · have hl' : ((l.length : Int) != (m.length : Int)) = true := by simp; omega
    have Hx := Lib.hid (frowsEq_len hl)
    clear hl
    go_enter Tryz.func18, Tryz.ntmps18
    go_wp2
    go_ret
    exact ⟨by rw [Hx.out]; rfl, 0, rfl⟩
/-- A paper. -/
structure DocD where
  kind : Int
  number : ByteArray
  issuer : ByteArray
  fields : List Fld
def DocD.val (d : DocD) (fv : Value) : Value := .agg #[.int .i64 d.kind, .string d.number, .string d.issuer, fv]
def docEq (a b : DocD) : Bool := decide (a.kind = b.kind) && (decide (a.number = b.number) && (decide (a.issuer = b.issuer) && frowsEq a.fields b.fields))
theorem bs_ne {a b : ByteArray} (h : ¬ a = b) : (a.toList == b.toList) = false := by rw [bs_beq]; simp [h]
theorem bs_ne' {a b : ByteArray} (h : ¬ a = b) : ¬ a.toList = b.toList := fun e => h (bs_ext e)
set_option maxHeartbeats 1000000 in
theorem same_any (a b : DocD) (w : World) (B : Nat) (v1 v2 : Value) (hv1 : SlC w B 2 (a.fields.map frow) v1) (hv2 : SlC w B 2 (b.fields.map frow) v2) (hB : B ≤ w.heap.size) :
    Calls Tryz.prog 33 #[a.val v1, b.val v2] w fun e w' => e = .returned (.bool (docEq a b)) ∧ Below w.heap.size w w' := by
  obtain ⟨k1, n1, i1, l1⟩ := a
  obtain ⟨k2, n2, i2, l2⟩ := b
  simp only [DocD.val]
  have Hv1 := Lib.hid hv1
  have Hv2 := Lib.hid hv2
  obtain ⟨A1, c1, rfl, -⟩ := id hv1
  obtain ⟨A2, c2, rfl, -⟩ := id hv2
  clear hv1 hv2
  simp only [List.length_map] at Hv1 Hv2 ⊢
  have HD : Hid (docEq ⟨k1, n1, i1, l1⟩ ⟨k2, n2, i2, l2⟩ = (decide (k1 = k2) && (decide (n1 = n2) && (decide (i1 = i2) && frowsEq l1 l2)))) := rfl
  by_cases h1 : k1 = k2
  · subst h1
    by_cases h2 : n1 = n2
    · subst h2
      by_cases h3 : i1 = i2
      · subst h3
        go_enter Tryz.func33, Tryz.ntmps33
        go_wp2_with fail
        refine (equal_any l1 l2 _ B _ _ ((Hv1.out.alloc hB _).alloc (by simp; omega) _) ((Hv2.out.alloc hB _).alloc (by simp; omega) _)).mono ?_
        rintro e w1 ⟨rfl, n, rfl⟩
        go_wp2
        go_ret
        exact ⟨by rw [HD.out]; simp, Go.Sup.below_drewN (((Below.refl _ _).alloc (Nat.le_refl _) _).alloc (by simp) _) _⟩
      · have h3' := bs_ne h3
        have h3'' := bs_ne' h3
        have HX : Hid (docEq ⟨k1, n1, i1, l1⟩ ⟨k1, n1, i2, l2⟩ = false) := by show docEq _ _ = false; rw [HD.out]; simp [h3]
        clear h3 HD
        go_enter Tryz.func33, Tryz.ntmps33
        go_wp2
        go_ret
        exact ⟨by rw [HX.out]; rfl, ((Below.refl _ _).alloc (Nat.le_refl _) _).alloc (by simp) _⟩
    · have h2' := bs_ne h2
      have h2'' := bs_ne' h2
      have HX : Hid (docEq ⟨k1, n1, i1, l1⟩ ⟨k1, n2, i2, l2⟩ = false) := by show docEq _ _ = false; rw [HD.out]; simp [h2]
      clear h2 HD
      go_enter Tryz.func33, Tryz.ntmps33
      go_wp2
      go_ret
      exact ⟨by rw [HX.out]; rfl, ((Below.refl _ _).alloc (Nat.le_refl _) _).alloc (by simp) _⟩
  · have h1' : (k1 == k2) = false := by simp [h1]
    have HX : Hid (docEq ⟨k1, n1, i1, l1⟩ ⟨k2, n2, i2, l2⟩ = false) := by show docEq _ _ = false; rw [HD.out]; simp [h1]
    clear h1 HD
    go_enter Tryz.func33, Tryz.ntmps33
    go_wp2
    go_ret
    exact ⟨by rw [HX.out]; rfl, ((Below.refl _ _).alloc (Nat.le_refl _) _).alloc (by simp) _⟩
set_option maxHeartbeats 1000000 in
theorem alike_any (a b : DocD) (w : World) (B : Nat) (v1 v2 : Value) (hv1 : SlC w B 2 (a.fields.map frow) v1) (hv2 : SlC w B 2 (b.fields.map frow) v2) (hB : B ≤ w.heap.size) :
    Calls Tryz.prog 35 #[a.val v1, b.val v2] w fun e w' => e = .returned (.bool (docEq a b)) ∧ Below w.heap.size w w' := by
  obtain ⟨k1, n1, i1, l1⟩ := a
  obtain ⟨k2, n2, i2, l2⟩ := b
  simp only [DocD.val]
  have Hv1 := Lib.hid hv1
  have Hv2 := Lib.hid hv2
  obtain ⟨A1, c1, rfl, -⟩ := id hv1
  obtain ⟨A2, c2, rfl, -⟩ := id hv2
  clear hv1 hv2
  simp only [List.length_map] at Hv1 Hv2 ⊢
  have HD : Hid (docEq ⟨k1, n1, i1, l1⟩ ⟨k2, n2, i2, l2⟩ = (decide (k1 = k2) && (decide (n1 = n2) && (decide (i1 = i2) && frowsEq l1 l2)))) := rfl
  by_cases h1 : k1 = k2
  · subst h1
    by_cases h2 : n1 = n2
    · subst h2
      by_cases h3 : i1 = i2
      · subst h3
        go_enter Tryz.func35, Tryz.ntmps35
        go_wp2_with fail
        refine (refSame_any l1 l2 _ B _ _ ((Hv1.out.alloc hB _).alloc (by simp; omega) _) ((Hv2.out.alloc hB _).alloc (by simp; omega) _)).mono ?_
        rintro e w1 ⟨rfl, n, rfl⟩
        go_wp2
        go_ret
        exact ⟨by rw [HD.out]; simp, Go.Sup.below_drewN (((Below.refl _ _).alloc (Nat.le_refl _) _).alloc (by simp) _) _⟩
      · have h3' := bs_ne h3
        have h3'' := bs_ne' h3
        have HX : Hid (docEq ⟨k1, n1, i1, l1⟩ ⟨k1, n1, i2, l2⟩ = false) := by show docEq _ _ = false; rw [HD.out]; simp [h3]
        clear h3 HD
        go_enter Tryz.func35, Tryz.ntmps35
        go_wp2
        go_ret
        exact ⟨by rw [HX.out]; rfl, ((Below.refl _ _).alloc (Nat.le_refl _) _).alloc (by simp) _⟩
    · have h2' := bs_ne h2
      have h2'' := bs_ne' h2
      have HX : Hid (docEq ⟨k1, n1, i1, l1⟩ ⟨k1, n2, i2, l2⟩ = false) := by show docEq _ _ = false; rw [HD.out]; simp [h2]
      clear h2 HD
      go_enter Tryz.func35, Tryz.ntmps35
      go_wp2
      go_ret
      exact ⟨by rw [HX.out]; rfl, ((Below.refl _ _).alloc (Nat.le_refl _) _).alloc (by simp) _⟩
  · have h1' : (k1 == k2) = false := by simp [h1]
    have HX : Hid (docEq ⟨k1, n1, i1, l1⟩ ⟨k2, n2, i2, l2⟩ = false) := by show docEq _ _ = false; rw [HD.out]; simp [h1]
    clear h1 HD
    go_enter Tryz.func35, Tryz.ntmps35
    go_wp2
    go_ret
    exact ⟨by rw [HX.out]; rfl, ((Below.refl _ _).alloc (Nat.le_refl _) _).alloc (by simp) _⟩
end Go.Proofs.YtlffpelkmdcckaaGreatDoor
