/- 09: may a paper go with a letter; is an ack nothing else; closures of post.May over the rows. -/
import Derived.Test.YtlffpelkmdcckaaGreatDoorSame9
import Derived.Test.YtlffpelkmdcckaaGreatDoorMon9
import Derived.Test.YtlffpelkmdcckaaGreatDoorPaper
import Derived.Test.YtlffpelkmdcckaaGreatDoorPName
namespace Go.Proofs.YtlffpelkmdcckaaGreatDoor
open Go Go.RowKit Go.Sup
set_option maxRecDepth 100000
/-- May a paper go with a letter? -/
def goDoc (d : DocD) : Bool := decide (docE d = 0) && decide ((docS d).size ≤ 4096)
/-- Is a paper short? -/
def SmallE (d : DocD) : Prop := SmallD d ∧ d.fields.length ≤ 1000000
set_option maxHeartbeats 800000 in
theorem goDoc_any (d : DocD) (hd : SmallE d) (w : World) (B : Nat) (v : Value) (hv : SlC w B 2 (d.fields.map frow) v) (hB : B ≤ w.heap.size) :
    Calls Tryz.prog 40 #[d.val v] w fun e w' => e = .returned (.bool (goDoc d)) ∧ Below w.heap.size w w' := by
  have HD : Hid (∀ W, Below w.heap.size w W → Calls Tryz.prog 68 #[d.val v] W fun e w' => e = .returned (.tuple #[.string (docS d), .int .i64 (docE d)]) ∧ Below W.heap.size W w') := fun W h => doc_any d hd.1 W B v (hv.below (h.mono hB)) (Nat.le_trans hB h.size) hd.2
  have HG : Hid (goDoc d = (decide (docE d = 0) && decide ((docS d).size ≤ 4096))) := rfl
  obtain ⟨s, hs⟩ : ∃ s, s = docS d := ⟨_, rfl⟩
  obtain ⟨n, hn⟩ : ∃ n, n = docE d := ⟨_, rfl⟩
  obtain ⟨G, hG⟩ : ∃ G, G = goDoc d := ⟨_, rfl⟩
  rw [← hs, ← hn] at HD HG
  rw [← hG] at HG ⊢
  obtain ⟨A, c, rfl, -⟩ := id hv
  rw [List.length_map] at HD ⊢
  clear hs hn hG hv hd
  obtain ⟨kd, nu, is, fs⟩ := d
  simp only [DocD.val] at HD ⊢
  by_cases h0 : n = 0
  · have h0' : ((n : Int) == 0) = true := by simp [h0]
    by_cases h1 : s.size ≤ 4096
    · have h1' : (s.size : Int) ≤ 4096 := by omega
      have HR : Hid (G = true) := by show G = true; rw [HG.out]; simp [h0, h1]
      clear h0 h1 HG
      go_enter Tryz.func40, Tryz.ntmps40
      go_wp2_with fail
      refine (HD.out _ ((Below.refl _ _).alloc (Nat.le_refl _) _)).mono ?_
      rintro e w1 ⟨rfl, hb1⟩
      have HB : Hid (Below w.heap.size w w1) := ((Below.refl _ _).alloc (Nat.le_refl _) _).trans (hb1.mono (by simp))
      clear hb1
      go_wp2
      go_ret
      exact ⟨by rw [HR.out]; rfl, HB.out⟩
    · have h1' : ¬ (s.size : Int) ≤ 4096 := by omega
      have HR : Hid (G = false) := by show G = false; rw [HG.out]; simp [h0, h1]
      clear h0 h1 HG
      go_enter Tryz.func40, Tryz.ntmps40
      go_wp2_with fail
      refine (HD.out _ ((Below.refl _ _).alloc (Nat.le_refl _) _)).mono ?_
      rintro e w1 ⟨rfl, hb1⟩
      have HB : Hid (Below w.heap.size w w1) := ((Below.refl _ _).alloc (Nat.le_refl _) _).trans (hb1.mono (by simp))
      clear hb1
      go_wp2
      go_ret
      exact ⟨by rw [HR.out]; simp; omega, HB.out⟩
  · have h0' : ((n : Int) == 0) = false := by simp; omega
    have HR : Hid (G = false) := by show G = false; rw [HG.out]; simp [h0]
    clear h0 HG
    go_enter Tryz.func40, Tryz.ntmps40
    go_wp2_with fail
    refine (HD.out _ ((Below.refl _ _).alloc (Nat.le_refl _) _)).mono ?_
    rintro e w1 ⟨rfl, hb1⟩
    have HB : Hid (Below w.heap.size w w1) := ((Below.refl _ _).alloc (Nat.le_refl _) _).trans (hb1.mono (by simp))
    clear hb1
    go_wp2
    go_ret
    exact ⟨by rw [HR.out]; rfl, HB.out⟩
set_option maxHeartbeats 400000 in
theorem may1_any (d : DocD) (hd : SmallE d) (w : World) (B : Nat) (v : Value) (hv : SlC w B 2 (d.fields.map frow) v) (hB : B ≤ w.heap.size) :
    Calls Tryz.prog 39 #[d.val v] w fun e w' => e = .returned (.bool (!(goDoc d))) ∧ Below w.heap.size w w' := by
  have HD : Hid (∀ W, Below w.heap.size w W → Calls Tryz.prog 40 #[d.val v] W fun e w' => e = .returned (.bool (goDoc d)) ∧ Below W.heap.size W w') := fun W h => goDoc_any d hd W B v (hv.below (h.mono hB)) (Nat.le_trans hB h.size)
  obtain ⟨G, hG⟩ : ∃ G, G = goDoc d := ⟨_, rfl⟩
  rw [← hG] at HD ⊢
  obtain ⟨A, c, rfl, -⟩ := id hv
  rw [List.length_map] at HD ⊢
  clear hG hv hd
  obtain ⟨kd, nu, is, fs⟩ := d
  simp only [DocD.val] at HD ⊢
  go_enter Tryz.func39, Tryz.ntmps39
  go_wp2_with fail
  refine (HD.out _ ((Below.refl _ _).alloc (Nat.le_refl _) _)).mono ?_
  rintro e w1 ⟨rfl, hb1⟩
  have HB : Hid (Below w.heap.size w w1) := ((Below.refl _ _).alloc (Nat.le_refl _) _).trans (hb1.mono (by simp))
  clear hb1
  go_wp2
  go_ret
  exact ⟨rfl, HB.out⟩
set_option maxHeartbeats 400000 in
theorem may2_any (s : ByteArray) (w : World) : Calls Tryz.prog 41 #[.string s] w fun e w' => e = .returned (.bool (!(nameOk s.data.toList))) ∧ Below w.heap.size w w' := by
  have HD := Lib.hid (fun W => postname_any s W)
  go_enter Tryz.func41, Tryz.ntmps41
  go_wp2_with fail
  refine (HD.out _).mono ?_
  rintro e w1 ⟨rfl, hb1⟩
  have HB := Lib.hid hb1
  clear hb1
  go_wp2
  go_ret
  exact ⟨rfl, HB.out⟩
theorem all_snoc {α : Type} {l : List α} {k : Nat} {p : α → Bool} (h : k < l.length) (h1 : (l.take k).all p = true) (h2 : p l[k] = true) : (l.take (k + 1)).all p = true := by
  rw [List.take_succ_eq_append_getElem h, List.all_append, h1]; simp [h2]
theorem all_bad {α : Type} {l : List α} {k : Nat} {p : α → Bool} (h : k < l.length) (h2 : p l[k] = false) : l.all p = false := by
  rw [List.all_eq_false]
  exact ⟨l[k], List.getElem_mem h, by rw [h2]; decide⟩
theorem all_end {α : Type} {l : List α} {p : α → Bool} (h : (l.take l.length).all p = true) : l.all p = true := by rwa [List.take_length] at h
set_option maxHeartbeats 1000000 in
theorem idxDocs_any (l : List DocD) (hl : ∀ d ∈ l, SmallE d) (w : World) (B : Nat) (v : Value) (hv : DocsC w B l v) (hB : B ≤ w.heap.size) :
    Calls Tryz.prog 69 #[v, .func (.func 39) #[] #[]] w fun e w' => ∃ i : Int, e = .returned (.int .i64 i) ∧ (l.all goDoc = true ∧ i = -1 ∨ l.all goDoc = false ∧ 0 ≤ i) ∧ Below w.heap.size w w' := by
  obtain ⟨A, c, rfl, hn, hc⟩ := hv.form
  unfold maxLen at hc
  have Hv := Lib.hid hv
  have Hl := Lib.hid hl
  clear hv hl
  go_enter Tryz.func69, Tryz.ntmps69
  go_wp2
  go_loopw [8] (fun i wr => ∃ k : Nat, k ≤ l.length ∧ i = .int .i64 k ∧ Hid ((l.take k).all goDoc = true) ∧ Hid (Below w.heap.size w wr)) (fun i _ => l.length - (intOf i).toNat)
  case atStart => exact ⟨0, Nat.zero_le _, rfl, rfl, Below.refl _ _⟩
  case round =>
    obtain ⟨k, hk, rfl, HT, HB⟩ := hrel
    by_cases hlt : k < l.length
    · have hBr : B ≤ wr.heap.size := Nat.le_trans hB HB.out.size
      obtain ⟨b1, o1, fv1, rfl, hb1', hs1, x0, x1, x2, x3⟩ := doc_at (Hv.out.below (HB.out.mono hB)) (List.getElem?_eq_getElem hlt)
      obtain ⟨d1, hd1⟩ : ∃ d, d = l[k] := ⟨_, rfl⟩
      rw [← hd1] at x0 x1 x2 hs1
      obtain ⟨F1, f1, rfl, -⟩ := id hs1
      rw [List.length_map] at hs1 x3
      have HC : Hid (∀ W, Below wr.heap.size wr W → Calls Tryz.prog 39 #[.agg #[.int .i64 d1.kind, .string d1.number, .string d1.issuer, .slice F1 d1.fields.length f1]] W fun e w' => e = .returned (.bool (!(goDoc d1))) ∧ Below W.heap.size W w') := fun W h => may1_any d1 (by rw [hd1]; exact Hl.out _ (List.getElem_mem hlt)) W B _ (hs1.below (h.mono hBr)) (Nat.le_trans hBr h.size)
      have hlI : (k : Int) < (l.length : Int) := by omega
      clear hs1
      rcases hg : goDoc l[k] with _ | _
      · rw [← hd1] at hg
        have Hx := Lib.hid (all_bad hlt (p := goDoc) (by rw [← hd1]; exact hg))
        rw [hg] at HC
        clear hg hd1
        go_wp2_with fail
        refine (HC.out _ (Below.refl _ _)).mono ?_
        rintro e w1 ⟨rfl, hb1⟩
        have HB1 : Hid (Below w.heap.size w w1) := HB.out.trans (hb1.mono HB.out.size)
        clear hb1
        go_wp2
        go_ret
        exact ⟨_, rfl, Or.inr ⟨Hx.out, by omega⟩, HB1.out⟩
      · rw [← hd1] at hg
        have Hx := Lib.hid (all_snoc hlt HT.out (by rw [← hd1]; exact hg))
        rw [hg] at HC
        clear hg hd1
        go_wp2_with fail
        refine (HC.out _ (Below.refl _ _)).mono ?_
        rintro e w1 ⟨rfl, hb1⟩
        have HB1 : Hid (Below w.heap.size w w1) := HB.out.trans (hb1.mono HB.out.size)
        clear hb1
        go_wp2
        go_roundw
        case rel => exact ⟨k + 1, hlt, by go_num, Hx, HB1⟩
        case measure => simp [intOf]; omega
    · obtain rfl : k = l.length := by omega
      have Hx := Lib.hid (all_end HT.out)
      clear hlt hk
      go_wp2
      go_ret
      exact ⟨_, rfl, Or.inl ⟨Hx.out, rfl⟩, HB.out⟩
set_option maxHeartbeats 400000 in
theorem conDocs_any (l : List DocD) (hl : ∀ d ∈ l, SmallE d) (w : World) (B : Nat) (v : Value) (hv : DocsC w B l v) (hB : B ≤ w.heap.size) :
    Calls Tryz.prog 42 #[v, .func (.func 39) #[] #[]] w fun e w' => e = .returned (.bool (!(l.all goDoc))) ∧ Below w.heap.size w w' := by
  have HD := Lib.hid (idxDocs_any l hl w B v hv hB)
  obtain ⟨A, c, rfl, hn, hc⟩ := hv.form
  clear hv hl hn hc
  obtain ⟨G, hG⟩ : ∃ G, G = l.all goDoc := ⟨_, rfl⟩
  rw [← hG] at HD ⊢
  clear hG
  go_enter Tryz.func42, Tryz.ntmps42
  go_wp2_with fail
  refine HD.out.mono ?_
  rintro e w1 ⟨i, rfl, hi, hb1⟩
  have HB := Lib.hid hb1
  clear hb1
  rcases hi with ⟨rfl, rfl⟩ | ⟨rfl, hi⟩
  · go_wp2
    go_ret
    exact ⟨rfl, HB.out⟩
  · go_wp2
    go_ret
    exact ⟨by first | rfl | (simp; done) | (simp; omega), HB.out⟩
set_option maxHeartbeats 1000000 in
theorem idxStrs_any (l : List ByteArray) (w : World) (B : Nat) (v : Value) (hv : SlC w B 1 (l.map srow) v) (hB : B ≤ w.heap.size) :
    Calls Tryz.prog 70 #[v, .func (.func 41) #[] #[]] w fun e w' => ∃ i : Int, e = .returned (.int .i64 i) ∧ (l.all (fun s => nameOk s.data.toList) = true ∧ i = -1 ∨ l.all (fun s => nameOk s.data.toList) = false ∧ 0 ≤ i) ∧ Below w.heap.size w w' := by
  obtain ⟨p, hp⟩ : ∃ p : ByteArray → Bool, p = fun s => nameOk s.data.toList := ⟨_, rfl⟩
  rw [← hp]
  obtain ⟨A, c, rfl, hn, hc, -⟩ := id hv
  rw [List.length_map] at hv hn ⊢
  unfold maxLen at hc
  have Hv := Lib.hid hv
  have HP : Hid (∀ s W, Calls Tryz.prog 41 #[.string s] W fun e w' => e = .returned (.bool (!(p s))) ∧ Below W.heap.size W w') := fun s W => by rw [hp]; exact may2_any s W
  clear hv hp
  go_enter Tryz.func70, Tryz.ntmps70
  go_wp2
  go_loopw [8] (fun i wr => ∃ k : Nat, k ≤ l.length ∧ i = .int .i64 k ∧ Hid ((l.take k).all p = true) ∧ Hid (Below w.heap.size w wr)) (fun i _ => l.length - (intOf i).toNat)
  case atStart => exact ⟨0, Nat.zero_le _, rfl, rfl, Below.refl _ _⟩
  case round =>
    obtain ⟨k, hk, rfl, HT, HB⟩ := hrel
    by_cases hlt : k < l.length
    · obtain ⟨b1, o1, rfl, hb1', x0⟩ := str_at (Hv.out.below (HB.out.mono hB)) (List.getElem?_eq_getElem hlt)
      obtain ⟨d1, hd1⟩ : ∃ d, d = l[k] := ⟨_, rfl⟩
      rw [← hd1] at x0
      have HC := Lib.hid (HP.out d1)
      have hlI : (k : Int) < (l.length : Int) := by omega
      rcases hg : p l[k] with _ | _
      · rw [← hd1] at hg
        have Hx := Lib.hid (all_bad hlt (p := p) (by rw [← hd1]; exact hg))
        rw [hg] at HC
        clear hg hd1
        go_wp2_with fail
        refine (HC.out _).mono ?_
        rintro e w1 ⟨rfl, hb1⟩
        have HB1 : Hid (Below w.heap.size w w1) := HB.out.trans (hb1.mono HB.out.size)
        clear hb1
        go_wp2
        go_ret
        exact ⟨_, rfl, Or.inr ⟨Hx.out, by omega⟩, HB1.out⟩
      · rw [← hd1] at hg
        have Hx := Lib.hid (all_snoc hlt HT.out (by rw [← hd1]; exact hg))
        rw [hg] at HC
        clear hg hd1
        go_wp2_with fail
        refine (HC.out _).mono ?_
        rintro e w1 ⟨rfl, hb1⟩
        have HB1 : Hid (Below w.heap.size w w1) := HB.out.trans (hb1.mono HB.out.size)
        clear hb1
        go_wp2
        go_roundw
        case rel => exact ⟨k + 1, hlt, by go_num, Hx, HB1⟩
        case measure => simp [intOf]; omega
    · obtain rfl : k = l.length := by omega
      have Hx := Lib.hid (all_end HT.out)
      clear hlt hk
      go_wp2
      go_ret
      exact ⟨_, rfl, Or.inl ⟨Hx.out, rfl⟩, HB.out⟩
set_option maxHeartbeats 400000 in
theorem conStrs_any (l : List ByteArray) (w : World) (B : Nat) (v : Value) (hv : SlC w B 1 (l.map srow) v) (hB : B ≤ w.heap.size) :
    Calls Tryz.prog 43 #[v, .func (.func 41) #[] #[]] w fun e w' => e = .returned (.bool (!(l.all fun s => nameOk s.data.toList))) ∧ Below w.heap.size w w' := by
  have HD := Lib.hid (idxStrs_any l w B v hv hB)
  obtain ⟨A, c, rfl, -⟩ := id hv
  rw [List.length_map] at HD ⊢
  clear hv
  obtain ⟨G, hG⟩ : ∃ G, G = l.all fun s => nameOk s.data.toList := ⟨_, rfl⟩
  rw [← hG] at HD ⊢
  clear hG
  go_enter Tryz.func43, Tryz.ntmps43
  go_wp2_with fail
  refine HD.out.mono ?_
  rintro e w1 ⟨i, rfl, hi, hb1⟩
  have HB := Lib.hid hb1
  clear hb1
  rcases hi with ⟨rfl, rfl⟩ | ⟨rfl, hi⟩
  · go_wp2
    go_ret
    exact ⟨rfl, HB.out⟩
  · go_wp2
    go_ret
    exact ⟨by first | rfl | (simp; done) | (simp; omega), HB.out⟩
end Go.Proofs.YtlffpelkmdcckaaGreatDoor
