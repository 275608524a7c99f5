/- The laws' own bounds: long, few. -/
import Derived.Test.YtnohmhemniopoaaGreatSame
namespace Go.Proofs.YtnohmhemniopoaaGreat
open Go Go.RowKit Go.Sup
set_option maxRecDepth 100000
def wideF (f : Fld) : Bool := decide (100 < f.1.size) || decide (4200 < f.2.size)
def longB (l : List Fld) : Bool := l.any wideF || decide (70 < l.length)
theorem long_small {l : List Fld} (h : longB l = false) : l.length ≤ 70 ∧ ∀ f ∈ l, f.1.size ≤ 100 ∧ f.2.size ≤ 4200 := by
  unfold longB at h
  rw [Bool.or_eq_false_iff] at h
  obtain ⟨h1, h2⟩ := h
  refine ⟨by simpa using h2, fun f hf => ?_⟩
  have := List.any_eq_false.1 h1 f hf
  unfold wideF at this
  simp at this
  exact this
set_option maxHeartbeats 1000000 in
theorem long_any (l : List Fld) (w : World) (B : Nat) (v : Value) (hv : SlC w B 2 (l.map frow) v) (hB : B ≤ w.heap.size) :
    Calls Tryz.prog 13 #[v] w fun e w' => e = .returned (.bool (longB l)) ∧ Below w.heap.size w w' := by
  obtain ⟨A, c, rfl, hn, hc, -⟩ := id hv
  rw [List.length_map] at hn hv ⊢
  unfold maxLen at hc
  have Hv := Lib.hid hv
  clear hv
  go_enter Tryz.func13, Tryz.ntmps13
  go_wp2
  go_loopw [7] (fun i wr => ∃ k : Nat, k ≤ l.length ∧ i = .int .i64 k ∧ Hid ((l.take k).any wideF = false) ∧ Hid (Below w.heap.size w wr)) (fun i _ => l.length - (intOf i).toNat)
  case atStart => exact ⟨0, Nat.zero_le _, rfl, rfl, Below.refl _ _⟩
  case round =>
    obtain ⟨k, hk, rfl, HW, HB⟩ := hrel
    by_cases hlt : k < l.length
    · have hlk : l[k]? = some l[k] := List.getElem?_eq_getElem hlt
      have HL : Hid (SlC wr B 2 (l.map frow) (.slice A l.length c)) := Hv.out.keep fun p hp => HB.out.cell (by omega)
      obtain ⟨b0, off, rfl, hb0, c0, c1⟩ := fld_at HL.out hlk
      have hlt' : (k : Int) < (l.length : Int) := by omega
      obtain ⟨f, hf⟩ : ∃ f, f = l[k] := ⟨_, rfl⟩
      rw [← hf] at c0 c1
      have hbr : b0 < wr.heap.size := lt_of_cell c0
      have hsz := HB.out.size
      have Hf := Lib.hid (And.intro hf hlk)
      have HT : Hid ((l.take (k + 1)).any wideF = wideF f) := by
        show (l.take (k + 1)).any wideF = wideF f
        rw [List.take_succ_eq_append_getElem hlt, List.any_append, HW.out, hf]; simp
      have HY : Hid (wideF f = true → longB l = true) := by
        intro h
        unfold longB
        rw [Bool.or_eq_true]
        left
        exact List.any_eq_true.2 ⟨f, by rw [hf]; exact List.getElem_mem hlt, h⟩
      clear hf hlk
      have e1 : (100 : Int) < (f.1.size : Int) ∨ ¬ (100 : Int) < (f.1.size : Int) := by omega
      have e2 : (4200 : Int) < (f.2.size : Int) ∨ ¬ (4200 : Int) < (f.2.size : Int) := by omega
      rcases e1 with e1 | e1
      · go_wp2
        go_ret
        exact ⟨by rw [HY.out (by unfold wideF; simp; omega)]; rfl, HB.out.alloc hsz _⟩
      · rcases e2 with e2 | e2
        · go_wp2
          go_ret
          exact ⟨by rw [HY.out (by unfold wideF; simp; omega)]; rfl, HB.out.alloc hsz _⟩
        · have hw : Hid (wideF f = false) := by show wideF f = false; unfold wideF; simp; omega
          go_wp2
          go_roundw
          case rel => exact ⟨k + 1, hlt, by go_num, HT.out.trans hw.out, HB.out.alloc hsz _⟩
          case measure => simp [intOf]; omega
    · obtain rfl : k = l.length := by omega
      have HX : Hid (longB l = decide (70 < l.length)) := by
        show longB l = _
        have := HW.out
        rw [List.take_length] at this
        unfold longB; rw [this]; rfl
      clear hlt hk
      go_wp2
      go_ret
      exact ⟨by rw [HX.out]; simp; omega, HB.out⟩
def fewB (d : DocD) : Bool := !(longB d.fields) && (decide (d.number.size ≤ 4200) && decide (d.issuer.size ≤ 4200))
set_option maxHeartbeats 1000000 in
theorem few_any (d : DocD) (w : World) (B : Nat) (v : Value) (hv : SlC w B 2 (d.fields.map frow) v) (hB : B ≤ w.heap.size) :
    Calls Tryz.prog 4 #[d.val v] w fun e w' => e = .returned (.bool (fewB d)) ∧ Below w.heap.size w w' := by
  obtain ⟨kd, n, s, l⟩ := d
  simp only [DocD.val]
  have Hv := Lib.hid hv
  obtain ⟨A, c, rfl, -⟩ := id hv
  clear hv
  simp only [List.length_map] at Hv ⊢
  have HD : Hid (fewB ⟨kd, n, s, l⟩ = (!(longB l) && (decide (n.size ≤ 4200) && decide (s.size ≤ 4200)))) := rfl
  go_enter Tryz.func4, Tryz.ntmps4
  go_wp2_with fail
  refine (long_any l _ B _ (Hv.out.alloc hB _) (by simp; omega)).mono ?_
  rintro e w1 ⟨rfl, hb1⟩
  obtain ⟨z0, z1⟩ := bcell hb1
  have k1 : w1.cell? ⟨w.heap.size, 1, none⟩ = some (.string n) := (z0 w.heap.size 1 (by simp)).trans (by go_simp)
  have k2 : w1.cell? ⟨w.heap.size, 2, none⟩ = some (.string s) := (z0 w.heap.size 2 (by simp)).trans (by go_simp)
  have HB : Hid (Below w.heap.size w w1) := ((Below.refl _ _).alloc (Nat.le_refl _) _).trans (hb1.mono (by simp))
  clear z0 z1 hb1
  cases hl : longB l
  · have Hl := Lib.hid hl
    clear hl
    have e1 : (n.size : Int) ≤ 4200 ∨ ¬ (n.size : Int) ≤ 4200 := by omega
    have e2 : (s.size : Int) ≤ 4200 ∨ ¬ (s.size : Int) ≤ 4200 := by omega
    rcases e1 with e1 | e1
    · rcases e2 with e2 | e2
      · have HX : Hid (fewB ⟨kd, n, s, l⟩ = true) := by
          show fewB _ = true
          rw [HD.out, Hl.out, decide_eq_true (by omega : n.size ≤ 4200), decide_eq_true (by omega : s.size ≤ 4200)]; rfl
        go_wp2
        go_ret
        exact ⟨by rw [HX.out]; first | rfl | (simp; done) | (simp; omega), HB.out⟩
      · have HX : Hid (fewB ⟨kd, n, s, l⟩ = false) := by
          show fewB _ = false
          rw [HD.out, Hl.out, decide_eq_true (by omega : n.size ≤ 4200), decide_eq_false (by omega : ¬ s.size ≤ 4200)]; rfl
        go_wp2
        go_ret
        exact ⟨by rw [HX.out]; first | rfl | (simp; done) | (simp; omega), HB.out⟩
    · have HX : Hid (fewB ⟨kd, n, s, l⟩ = false) := by
        show fewB _ = false
        rw [HD.out, Hl.out, decide_eq_false (by omega : ¬ n.size ≤ 4200)]; rfl
      go_wp2
      go_ret
      exact ⟨by rw [HX.out]; first | rfl | (simp; done) | (simp; omega), HB.out⟩
  · have Hl := Lib.hid hl
    clear hl
    go_wp2
    go_ret
    exact ⟨by rw [HD.out, Hl.out]; simp, HB.out⟩
theorem few_small {d : DocD} (h : fewB d = true) : longB d.fields = false ∧ d.number.size ≤ 4200 ∧ d.issuer.size ≤ 4200 := by
  unfold fewB at h
  simp at h
  exact h
end Go.Proofs.YtnohmhemniopoaaGreat
