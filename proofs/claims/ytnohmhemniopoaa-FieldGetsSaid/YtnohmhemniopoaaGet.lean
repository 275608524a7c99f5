/- field.Get, field.Set and the reference's: the walks. -/
import Derived.Test.YtnohmhemniopoaaSame
import Derived.Test.YtnohmhemniopoaaParse
namespace Go.Sup
open Go Go.RowKit
/-- The value of the first field of a name. -/
def getO : List Fld → ByteArray → Option ByteArray
  | [], _ => none
  | f :: l, n => if f.1 = n then some f.2 else getO l n
def getS (l : List Fld) (n : ByteArray) : ByteArray := (getO l n).getD ⟨#[]⟩
def getB (l : List Fld) (n : ByteArray) : Bool := (getO l n).isSome
/-- The first field of a name set; or one more. -/
def setF : List Fld → ByteArray → ByteArray → List Fld
  | [], n, v => [(n, v)]
  | f :: l, n, v => if f.1 = n then (f.1, v) :: l else f :: setF l n v
def hasF (l : List Fld) (n : ByteArray) : Bool := l.any fun f => decide (f.1 = n)
theorem setF_get : ∀ (l : List Fld) (n v : ByteArray), getO (setF l n v) n = some v
  | [], n, v => by simp [setF, getO]
  | f :: l, n, v => by
    unfold setF
    by_cases h : f.1 = n
    · rw [if_pos h]; simp [getO, h]
    · rw [if_neg h]; simp [getO, h, setF_get l n v]
theorem setF_other : ∀ (l : List Fld) (n v m : ByteArray), m ≠ n → getO (setF l n v) m = getO l m
  | [], n, v, m, h => by simp [setF, getO, Ne.symm h]
  | f :: l, n, v, m, h => by
    unfold setF
    by_cases h1 : f.1 = n
    · rw [if_pos h1]
      have : ¬ f.1 = m := fun e => h (e.symm.trans h1)
      simp [getO, this]
    · rw [if_neg h1]
      by_cases h2 : f.1 = m
      · simp [getO, h2]
      · simp [getO, h2, setF_other l n v m h]
theorem setF_len : ∀ (l : List Fld) (n v : ByteArray), (setF l n v).length ≤ l.length + 1
  | [], n, v => by simp [setF]
  | f :: l, n, v => by
    unfold setF
    split
    · simp
    · have := setF_len l n v; simp; omega
/-- Where the first of a name is; -1: nowhere. -/
def Placed (l : List Fld) (n : ByteArray) (i : Int) : Prop :=
  (i = -1 ∧ ∀ f ∈ l, f.1 ≠ n) ∨ ∃ (k : Nat) (v : ByteArray), i = k ∧ l[k]? = some (n, v) ∧ ∀ f ∈ l.take k, f.1 ≠ n
theorem getO_none {l : List Fld} {n : ByteArray} (h : ∀ f ∈ l, f.1 ≠ n) : getO l n = none := by
  induction l with
  | nil => rfl
  | cons f l ih =>
    unfold getO
    rw [if_neg (h f (by simp)), ih fun g hg => h g (by simp [hg])]
theorem getO_some {n v : ByteArray} : ∀ {l : List Fld} {k : Nat}, l[k]? = some (n, v) → (∀ f ∈ l.take k, f.1 ≠ n) → getO l n = some v
  | [], k, h, _ => by simp at h
  | f :: l, 0, h, _ => by simp at h; subst h; simp [getO]
  | f :: l, k + 1, h, hb => by
    unfold getO
    rw [if_neg (hb f (by simp))]
    exact getO_some (by simpa using h) (fun g hg => hb g (by simp [hg]))
theorem setF_none {l : List Fld} {n v : ByteArray} (h : ∀ f ∈ l, f.1 ≠ n) : setF l n v = l ++ [(n, v)] := by
  induction l with
  | nil => rfl
  | cons f l ih =>
    unfold setF
    rw [if_neg (h f (by simp)), ih fun g hg => h g (by simp [hg])]; rfl
theorem setF_some {n u v : ByteArray} : ∀ {l : List Fld} {k : Nat}, l[k]? = some (n, u) → (∀ f ∈ l.take k, f.1 ≠ n) → setF l n v = l.set k (n, v)
  | [], k, h, _ => by simp at h
  | f :: l, 0, h, _ => by simp at h; subst h; simp [setF]
  | f :: l, k + 1, h, hb => by
    unfold setF
    rw [if_neg (hb f (by simp)), setF_some (l := l) (k := k) (by simpa using h) (fun g hg => hb g (by simp [hg]))]
    rfl
theorem frow_set (l : List Fld) (k : Nat) (n u v : ByteArray) (h : l[k]? = some (n, u)) : (l.map frow).set k ((frow (n, u)).set 1 (.string v)) = (l.set k (n, v)).map frow := by
  rw [List.map_set]; rfl
end Go.Sup
namespace Go.Proofs.Ytnohmhemniopoaa
open Go Go.RowKit Go.Sup
set_option maxRecDepth 100000
set_option maxHeartbeats 400000 in
theorem isName_any (f : Fld) (n : ByteArray) (b : Nat) (w : World) (hb : b < w.heap.size) (hc : w.cell? ⟨b, 0, none⟩ = some (.string n)) :
    Calls Try.prog 39 #[.agg #[.string f.1, .string f.2], .pointer (some ⟨b, 0, none⟩)] w fun e w' => e = .returned (.bool (decide (f.1 = n))) ∧ Below w.heap.size w w' := by
  obtain ⟨m, v⟩ := f
  simp only
  by_cases h : m = n
  · subst h
    go_enter Try.func39, Try.ntmps39
    go_wp2
    go_ret
    exact ⟨by simp, (Below.refl _ _).alloc (Nat.le_refl _) _⟩
  · have h1 := bs_ne h
    have h2 := bs_ne' h
    have HX : Hid (decide (m = n) = false) := decide_eq_false h
    clear h
    go_enter Try.func39, Try.ntmps39
    go_wp2
    go_ret
    exact ⟨by rw [HX.out]; rfl, (Below.refl _ _).alloc (Nat.le_refl _) _⟩
set_option maxHeartbeats 1000000 in
theorem idxFlds_any (l : List Fld) (n : ByteArray) (b : Nat) (w : World) (B : Nat) (v : Value) (hv : SlC w B 2 (l.map frow) v) (hB : B ≤ w.heap.size) (hb : b < w.heap.size) (hc : w.cell? ⟨b, 0, none⟩ = some (.string n)) :
    Calls Try.prog 38 #[v, .func (.func 39) #[] #[.pointer (some ⟨b, 0, none⟩)]] w fun e w' => ∃ i, e = .returned (.int .i64 i) ∧ Placed l n i ∧ Below w.heap.size w w' := by
  obtain ⟨A, c, rfl, hn, hcc, -⟩ := id hv
  rw [List.length_map] at hn hv ⊢
  unfold maxLen at hcc
  have Hv := Lib.hid hv
  have Hc := Lib.hid hc
  clear hv hc
  go_enter Try.func38, Try.ntmps38
  go_wp2
  go_loopw [5, 8] (fun _ i wr => ∃ k : Nat, k ≤ l.length ∧ i = .int .i64 k ∧ Hid (∀ f ∈ l.take k, f.1 ≠ n) ∧ Hid (Below w.heap.size w wr)) (fun _ i _ => l.length - (intOf i).toNat)
  case atStart => exact ⟨0, Nat.zero_le _, rfl, (by intro f hf; simp at hf), Below.refl _ _⟩
  case round =>
    obtain ⟨k, hk, rfl, HA, H⟩ := hrel
    have hsz := H.out.size
    by_cases hlt : k < l.length
    · have hlk : l[k]? = some l[k] := List.getElem?_eq_getElem hlt
      have HL : Hid (SlC wr B 2 (l.map frow) (.slice A l.length c)) := Hv.out.keep fun p hp => H.out.cell (by omega)
      obtain ⟨b0, off, rfl, hb0, c0, c1⟩ := fld_at HL.out hlk
      have hlt' : (k : Int) < (l.length : Int) := by omega
      obtain ⟨f, hf⟩ : ∃ f, f = l[k] := ⟨_, rfl⟩
      rw [← hf] at c0 c1
      have Hf := Lib.hid (And.intro hf hlk)
      have HC : Hid (wr.cell? ⟨b, 0, none⟩ = some (.string n)) := (H.out.cell (p := ⟨b, 0, none⟩) hb).trans Hc.out
      clear hf hlk
      go_wp2_with fail
      refine (isName_any f n b _ (by omega) HC.out).mono ?_
      rintro e w1 ⟨rfl, hb1⟩
      have HB1 : Hid (Below w.heap.size w w1) := H.out.trans (hb1.mono hsz)
      clear hb1
      by_cases he : f.1 = n
      · have HE := Lib.hid he
        rw [decide_eq_true he]
        clear he
        go_wp2
        go_ret
        refine ⟨_, rfl, .inr ⟨k, f.2, rfl, ?_, HA.out⟩, HB1.out⟩
        rw [Hf.out.2, ← Hf.out.1, ← HE.out]
      · have HE := Lib.hid he
        rw [decide_eq_false he]
        clear he
        go_wp2
        go_roundw
        case rel =>
          refine ⟨k + 1, hlt, by go_num, ?_, HB1.out⟩
          intro g hg
          rw [List.take_succ_eq_append_getElem hlt] at hg
          rcases List.mem_append.1 hg with hg | hg
          · exact HA.out g hg
          · simp at hg; rw [hg, ← Hf.out.1]; exact HE.out
        case measure => simp [intOf]; omega
    · obtain rfl : k = l.length := by omega
      have HX : Hid (Placed l n (-1)) := by
        have := HA.out
        rw [List.take_length] at this
        exact .inl ⟨rfl, this⟩
      clear hlt hk
      go_wp2
      go_ret
      exact ⟨_, rfl, HX.out, H.out⟩
set_option maxHeartbeats 400000 in
theorem place_any (l : List Fld) (n : ByteArray) (w : World) (B : Nat) (v : Value) (hv : SlC w B 2 (l.map frow) v) (hB : B ≤ w.heap.size) :
    Calls Try.prog 29 #[v, .string n] w fun e w' => ∃ i, e = .returned (.int .i64 i) ∧ Placed l n i ∧ Below w.heap.size w w' := by
  have hmf : ∀ (fn : Fn) (first cap : Array Value) (w : World), (Instr.makeFunc fn first cap).run Try.prog w = .ok (.func fn first cap) w := fun _ _ _ _ => rfl
  have HC := Lib.hid (fun (W : World) h1 h2 h3 h4 => idxFlds_any l n w.heap.size W B v h1 h2 h3 h4)
  obtain ⟨A, c, rfl, -⟩ := id hv
  have HV := Lib.hid hv
  rw [List.length_map] at HC HV ⊢
  clear hv
  go_enter Try.func29, Try.ntmps29
  go_wp2_with fail
  refine (HC.out _ (HV.out.alloc hB _) (by simp; omega) (by simp) (by go_simp)).mono ?_
  rintro e w1 ⟨i, rfl, hp, hb1⟩
  have HP := Lib.hid (And.intro hp hb1)
  clear hp hb1
  go_wp2
  go_ret
  exact ⟨i, rfl, HP.out.1, ((Below.refl _ _).alloc (Nat.le_refl _) _).trans (HP.out.2.mono (by simp))⟩
set_option maxHeartbeats 800000 in
theorem get_any (l : List Fld) (n : ByteArray) (w : World) (B : Nat) (v : Value) (hv : SlC w B 2 (l.map frow) v) (hB : B ≤ w.heap.size) :
    Calls Try.prog 15 #[v, .string n] w fun e w' => e = .returned (.tuple #[.string (getS l n), .bool (getB l n)]) ∧ Below w.heap.size w w' := by
  have HC := Lib.hid (place_any l n w B v hv hB)
  obtain ⟨A, c, rfl, hn, hcc, -⟩ := id hv
  have HV := Lib.hid hv
  rw [List.length_map] at HC HV hn ⊢
  unfold maxLen at hcc
  clear hv
  go_enter Try.func15, Try.ntmps15
  go_wp2_with fail
  refine HC.out.mono ?_
  rintro e w1 ⟨i, rfl, hp, hb1⟩
  rcases hp with ⟨rfl, h⟩ | ⟨k, u, rfl, hk, hbf⟩
  · have HX : Hid (getO l n = none) := getO_none h
    have HB := Lib.hid hb1
    clear h hb1
    go_wp2
    go_ret2
    exact ⟨by unfold getS getB; rw [HX.out]; rfl, HB.out⟩
  · have HX : Hid (getO l n = some u) := getO_some hk hbf
    have hkl : k < l.length := (List.getElem?_eq_some_iff.1 hk).1
    have HL : Hid (SlC w1 B 2 (l.map frow) (.slice A l.length c)) := HV.out.keep fun p hp => hb1.cell (by omega)
    obtain ⟨b0, off, rfl, hb0, c0, c1⟩ := fld_at HL.out hk
    have hkI : (k : Int) < (l.length : Int) := by omega
    have HB := Lib.hid hb1
    clear hk hbf hb1
    go_wp2
    go_ret2
    exact ⟨by unfold getS getB; rw [HX.out]; rfl, HB.out⟩
set_option maxHeartbeats 800000 in
theorem refGet_any (l : List Fld) (n : ByteArray) (w : World) (B : Nat) (v : Value) (hv : SlC w B 2 (l.map frow) v) :
    Calls Try.prog 16 #[v, .string n] w fun e w' => e = .returned (.tuple #[.string (getS l n), .bool (getB l n)]) ∧ w' = w := by
  obtain ⟨A, c, rfl, hn, hcc, -⟩ := id hv
  have HV := Lib.hid hv
  rw [List.length_map] at HV hn ⊢
  unfold maxLen at hcc
  clear hv
  go_enter Try.func16, Try.ntmps16
  go_wp2
  go_loop [6] (fun i => ∃ k : Nat, k ≤ l.length ∧ i = .int .i64 k ∧ Hid (∀ f ∈ l.take k, f.1 ≠ n)) (fun i => l.length - (intOf i).toNat)
  case atStart => exact ⟨0, Nat.zero_le _, rfl, (by intro f hf; simp at hf)⟩
  case round =>
    obtain ⟨k, hk, rfl, HA⟩ := hrel
    by_cases hlt : k < l.length
    · have hlk : l[k]? = some l[k] := List.getElem?_eq_getElem hlt
      obtain ⟨b0, off, rfl, hb0, c0, c1⟩ := fld_at HV.out hlk
      have hlt' : (k : Int) < (l.length : Int) := by omega
      obtain ⟨f, hf⟩ : ∃ f, f = l[k] := ⟨_, rfl⟩
      rw [← hf] at c0 c1
      by_cases he : f.1 = n
      · have HX : Hid (getO l n = some f.2) := getO_some (k := k) (by rw [hlk, ← hf, ← he]) HA.out
        have e1 : (f.1.toList == n.toList) = true := by rw [he]; simp
        have e2 : f.1.toList = n.toList := by rw [he]
        clear hf hlk he
        go_wp2
        go_ret2
        exact ⟨by unfold getS getB; rw [HX.out]; rfl, rfl⟩
      · have e1 := bs_ne he
        have e2 := bs_ne' he
        have HE : Hid (∀ g ∈ l.take (k + 1), g.1 ≠ n) := by
          intro g hg
          rw [List.take_succ_eq_append_getElem hlt] at hg
          rcases List.mem_append.1 hg with hg | hg
          · exact HA.out g hg
          · simp at hg; rw [hg, ← hf]; exact he
        clear hf hlk he
        go_wp2
        go_round
        case rel => exact ⟨k + 1, hlt, by go_num, HE.out⟩
        case measure => simp [intOf]; omega
    · obtain rfl : k = l.length := by omega
      have HX : Hid (getO l n = none) := by
        have := HA.out
        rw [List.take_length] at this
        exact getO_none this
      clear hlt hk
      go_wp2
      go_ret2
      exact ⟨by unfold getS getB; rw [HX.out]; rfl, rfl⟩
end Go.Proofs.Ytnohmhemniopoaa
