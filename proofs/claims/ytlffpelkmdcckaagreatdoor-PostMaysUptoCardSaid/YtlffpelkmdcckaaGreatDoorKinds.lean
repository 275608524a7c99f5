/- The papers' kinds: their names; slices.Index and Contains at strings. -/
import Derived.Test.YtlffpelkmdcckaaGreatDoorSame
namespace Go.Sup
open Go Go.RowKit
def srow (s : ByteArray) : List Value := [.string s]
theorem srow_len (l : List ByteArray) : ∀ r ∈ l.map srow, r.length = 1 := by
  intro r hr
  obtain ⟨f, _, rfl⟩ := List.mem_map.1 hr
  rfl
theorem srow_one (l : List ByteArray) : ∀ r ∈ l.map srow, ∀ u ∈ r, u.oneCell' = true := by
  intro r hr u hu
  obtain ⟨f, _, rfl⟩ := List.mem_map.1 hr
  simp [srow] at hu
  subst hu; rfl
theorem str_at {w : World} {B : Nat} {l : List ByteArray} {A : Option Addr} {n c k : Nat} {s : ByteArray} (h : SlC w B 1 (l.map srow) (.slice A n c)) (hk : l[k]? = some s) :
    ∃ b off, A = some ⟨b, off, none⟩ ∧ b < B ∧ w.cell? ⟨b, off + k, none⟩ = some (.string s) := by
  obtain ⟨b, off, ha, hb, hc⟩ := SlC.at_ h (k := k) (r := srow s) (by simp [hk])
  exact ⟨b, off, ha, hb, by simpa using hc 0 _ rfl⟩
/-- Where a text first is in a row; -1: nowhere. -/
def idxS : List ByteArray → ByteArray → Int
  | [], _ => -1
  | s :: l, x => if s = x then 0 else if idxS l x = -1 then -1 else idxS l x + 1
theorem idxS_ge (l : List ByteArray) (x : ByteArray) : -1 ≤ idxS l x ∧ idxS l x < l.length := by
  induction l with
  | nil => simp [idxS]
  | cons s l ih =>
    unfold idxS
    simp only [List.length_cons]
    split
    · omega
    · split
      · omega
      · omega
theorem idxS_at {x : ByteArray} : ∀ {l : List ByteArray} {k : Nat}, l[k]? = some x → (∀ s ∈ l.take k, s ≠ x) → idxS l x = k
  | [], k, h, _ => by simp at h
  | s :: l, 0, h, _ => by simp at h; subst h; simp [idxS]
  | s :: l, k + 1, h, hb => by
    unfold idxS
    rw [if_neg (hb s (by simp)), idxS_at (l := l) (k := k) (by simpa using h) (fun g hg => hb g (by simp [hg])), if_neg (by omega)]
    omega
theorem idxS_no {x : ByteArray} : ∀ {l : List ByteArray}, (∀ s ∈ l, s ≠ x) → idxS l x = -1
  | [], _ => rfl
  | s :: l, h => by
    unfold idxS
    rw [if_neg (h s (by simp)), idxS_no fun g hg => h g (by simp [hg])]; rfl
theorem idxS_get {x : ByteArray} : ∀ {l : List ByteArray}, 0 ≤ idxS l x → ∃ k : Nat, idxS l x = k ∧ l[k]? = some x
  | [], h => by simp [idxS] at h
  | s :: l, h => by
    unfold idxS at h ⊢
    by_cases he : s = x
    · rw [if_pos he]; exact ⟨0, rfl, by simp [he]⟩
    · rw [if_neg he] at h ⊢
      by_cases h1 : idxS l x = -1
      · rw [if_pos h1] at h; omega
      · rw [if_neg h1] at h ⊢
        have := (idxS_ge l x).1
        obtain ⟨k, hk, hg⟩ := idxS_get (l := l) (x := x) (by omega)
        exact ⟨k + 1, by rw [hk]; omega, by simpa using hg⟩
def kInvoice : ByteArray := ⟨#[105, 110, 118, 111, 105, 99, 101]⟩
def kPacking : ByteArray := ⟨#[112, 97, 99, 107, 105, 110, 103]⟩
def kLading : ByteArray := ⟨#[108, 97, 100, 105, 110, 103]⟩
def kInsurance : ByteArray := ⟨#[105, 110, 115, 117, 114, 97, 110, 99, 101]⟩
def kOrigin : ByteArray := ⟨#[111, 114, 105, 103, 105, 110]⟩
def kDraft : ByteArray := ⟨#[100, 114, 97, 102, 116]⟩
/-- The kinds of papers, by name. -/
def kindL : List ByteArray := [kInvoice, kPacking, kLading, kInsurance, kOrigin, kDraft]
def kindS (k : Int) : ByteArray := if 0 ≤ k then (kindL[k.toNat]?).getD ⟨#[]⟩ else ⟨#[]⟩
theorem kindL_len : kindL.length = 6 := rfl
theorem kindL_idx {k : Nat} (h : k < 6) : idxS kindL (kindS k) = k := by
  match k, h with
  | 0, _ => decide
  | 1, _ => decide
  | 2, _ => decide
  | 3, _ => decide
  | 4, _ => decide
  | 5, _ => decide
theorem kindS_out {k : Int} (h : k < 0 ∨ 5 < k) : kindS k = ⟨#[]⟩ := by
  unfold kindS
  rcases h with h | h
  · rw [if_neg (by omega)]
  · rw [if_pos (by omega), List.getElem?_eq_none (by rw [kindL_len]; omega)]; rfl
theorem kindS_in {k : Int} (h0 : 0 ≤ k) (h1 : k ≤ 5) : kindL[k.toNat]? = some (kindS k) := by
  unfold kindS
  rw [if_pos h0, List.getElem?_eq_getElem (by rw [kindL_len]; omega)]; rfl
theorem kindS_size (k : Int) : (kindS k).size ≤ 9 := by
  by_cases h : k < 0 ∨ 5 < k
  · rw [kindS_out h]; decide
  · obtain ⟨n, rfl⟩ := Int.eq_ofNat_of_zero_le (by omega : 0 ≤ k)
    have : n < 6 := by omega
    match n, this with
    | 0, _ => decide
    | 1, _ => decide
    | 2, _ => decide
    | 3, _ => decide
    | 4, _ => decide
    | 5, _ => decide
theorem kindS_ne {k : Int} (h0 : 0 ≤ k) (h1 : k ≤ 5) : kindS k ≠ ⟨#[]⟩ := by
  obtain ⟨n, rfl⟩ := Int.eq_ofNat_of_zero_le h0
  have : n < 6 := by omega
  match n, this with
  | 0, _ => decide
  | 1, _ => decide
  | 2, _ => decide
  | 3, _ => decide
  | 4, _ => decide
  | 5, _ => decide
end Go.Sup
namespace Go.Proofs.YtlffpelkmdcckaaGreatDoor
open Go Go.RowKit Go.Sup
set_option maxRecDepth 100000
set_option maxHeartbeats 1000000 in
theorem index_any (l : List ByteArray) (x : ByteArray) (w : World) (B : Nat) (v : Value) (hv : SlC w B 1 (l.map srow) v) :
    Calls Tryz.prog 27 #[v, .string x] w fun e w' => e = .returned (.int .i64 (idxS l x)) ∧ w' = w := by
  obtain ⟨A, c, rfl, hn, hcc, -⟩ := id hv
  rw [List.length_map] at hn hv ⊢
  unfold maxLen at hcc
  have Hv := Lib.hid hv
  clear hv
  go_enter Tryz.func27, Tryz.ntmps27
  go_wp2
  go_loop [5, 8] (fun _ i => ∃ k : Nat, k ≤ l.length ∧ i = .int .i64 k ∧ Hid (∀ s ∈ l.take k, s ≠ x)) (fun _ i => l.length - (intOf i).toNat)
  case atStart => exact ⟨0, Nat.zero_le _, rfl, (by intro f hf; simp at hf)⟩
  case round =>
    obtain ⟨k, hk, rfl, HA⟩ := hrel
    by_cases hlt : k < l.length
    · have hlk : l[k]? = some l[k] := List.getElem?_eq_getElem hlt
      obtain ⟨b0, off, rfl, hb0, c0⟩ := str_at Hv.out hlk
      have hlt' : (k : Int) < (l.length : Int) := by omega
      obtain ⟨s, hs⟩ : ∃ s, s = l[k] := ⟨_, rfl⟩
      rw [← hs] at c0
      by_cases he : s = x
      · have HX : Hid (idxS l x = k) := idxS_at (by rw [hlk, ← hs, he]) HA.out
        have e1 : (x.toList == s.toList) = true := by rw [he]; simp
        have e2 : x.toList = s.toList := by rw [he]
        clear hs hlk he
        go_wp2
        go_ret
        exact ⟨by rw [HX.out]; rfl, rfl⟩
      · have he' : ¬ x = s := fun h => he h.symm
        have e1 := bs_ne he'
        have e2 := bs_ne' he'
        have HE : Hid (∀ g ∈ l.take (k + 1), g ≠ x) := by
          intro g hg
          rw [List.take_succ_eq_append_getElem hlt] at hg
          rcases List.mem_append.1 hg with hg | hg
          · exact HA.out g hg
          · simp at hg; rw [hg, ← hs]; exact he
        clear hs hlk he he'
        go_wp2
        go_round
        case rel => exact ⟨k + 1, hlt, by go_num, HE.out⟩
        case measure => simp [intOf]; omega
    · obtain rfl : k = l.length := by omega
      have HX : Hid (idxS l x = -1) := by
        have := HA.out
        rw [List.take_length] at this
        exact idxS_no this
      clear hlt hk
      go_wp2
      go_ret
      exact ⟨by rw [HX.out]; rfl, rfl⟩
set_option maxHeartbeats 400000 in
theorem contains_any (l : List ByteArray) (x : ByteArray) (w : World) (B : Nat) (v : Value) (hv : SlC w B 1 (l.map srow) v) :
    Calls Tryz.prog 108 #[v, .string x] w fun e w' => e = .returned (.bool (decide (0 ≤ idxS l x))) ∧ w' = w := by
  have HC := Lib.hid (index_any l x w B v hv)
  clear hv
  obtain ⟨i, hi⟩ : ∃ i, i = idxS l x := ⟨_, rfl⟩
  rw [← hi] at HC ⊢
  clear hi
  go_enter Tryz.func108, Tryz.ntmps108
  go_wp2_with fail
  refine HC.out.mono ?_
  rintro e w1 ⟨rfl, rfl⟩
  go_wp2
  go_ret
  exact ⟨rfl, rfl⟩
set_option maxHeartbeats 400000 in
theorem kinds_any (w : World) : Calls Tryz.prog 102 #[] w fun e w' => ∃ g, e = .returned (.slice (some ⟨g, 0, none⟩) 6 6) ∧ g = w.heap.size ∧ SlC w' w'.heap.size 1 (kindL.map srow) (.slice (some ⟨g, 0, none⟩) 6 6) ∧ w'.heap.size = w.heap.size + 1 ∧ Below w.heap.size w w' := by
  go_enter Tryz.func102, Tryz.ntmps102
  go_wp2
  go_ret
  exact ⟨_, rfl, rfl, SlC.litN (kindL.map srow) (srow_len _) rfl 9 w.heap.size 6 _ rfl rfl (by simp) (by unfold maxLen; omega), by simp, (Below.refl _ _).alloc (Nat.le_refl _) _⟩
set_option maxHeartbeats 400000 in
theorem refKind_any (k : Int) (w : World) : Calls Tryz.prog 72 #[.int .i64 k] w fun e w' => e = .returned (.string (kindS k)) ∧ w'.heap.size = w.heap.size + 1 ∧ Below w.heap.size w w' := by
  by_cases h0 : k < 0
  · have HX : Hid (kindS k = ⟨#[]⟩) := kindS_out (.inl h0)
    go_enter Tryz.func72, Tryz.ntmps72
    go_wp2
    go_ret
    exact ⟨by rw [HX.out]; rfl, by simp, (Below.refl _ _).alloc (Nat.le_refl _) _⟩
  · by_cases h5 : 5 < k
    · have HX : Hid (kindS k = ⟨#[]⟩) := kindS_out (.inr h5)
      go_enter Tryz.func72, Tryz.ntmps72
      go_wp2
      go_ret
      exact ⟨by rw [HX.out]; rfl, by simp, (Below.refl _ _).alloc (Nat.le_refl _) _⟩
    · obtain ⟨n, rfl⟩ := Int.eq_ofNat_of_zero_le (by omega : 0 ≤ k)
      have hn : n < 6 := by omega
      clear h0 h5
      have hc : n = 0 ∨ n = 1 ∨ n = 2 ∨ n = 3 ∨ n = 4 ∨ n = 5 := by omega
      rcases hc with rfl | rfl | rfl | rfl | rfl | rfl
      all_goals
        go_enter Tryz.func72, Tryz.ntmps72
        go_wp2
        go_ret
        exact ⟨rfl, by simp, (Below.refl _ _).alloc (Nat.le_refl _) _⟩
end Go.Proofs.YtlffpelkmdcckaaGreatDoor
