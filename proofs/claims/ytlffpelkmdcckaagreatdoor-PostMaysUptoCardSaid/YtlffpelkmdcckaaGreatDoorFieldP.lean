/- Fields and records, plainly: the text of a record, and its reading. No program is in sight. -/
import Derived.Test.YtlffpelkmdcckaaGreatDoorMem
namespace Go.Sup
/-- A field: its name, its value. -/
abbrev Fld := ByteArray × ByteArray
def nameCh (b : UInt8) : Bool := (decide (97 ≤ b) && decide (b ≤ 122)) || (decide (48 ≤ b) && decide (b ≤ 57)) || b == 45
def nameOk (l : List UInt8) : Bool := decide (1 ≤ l.length) && decide (l.length ≤ 16) && l.all nameCh
def mayF (f : Fld) : Bool := nameOk f.1.data.toList && decide (f.2.size ≤ 4096)
def escB (b : UInt8) : List UInt8 := if b = 92 then [92, 92] else if b = 10 then [92, 110] else [b]
def escL (l : List UInt8) : List UInt8 := l.flatMap escB
def esc (s : ByteArray) : ByteArray := ⟨(escL s.data.toList).toArray⟩
def special (b : UInt8) : Bool := b == 92 || b == 10
theorem escB_len (b : UInt8) : (escB b).length = if special b then 2 else 1 := by
  unfold escB special
  by_cases h : b = 92
  · simp [h]
  · by_cases h2 : b = 10
    · simp [h2]
    · simp [h, h2]
theorem escL_snoc (l : List UInt8) (b : UInt8) : escL (l ++ [b]) = escL l ++ escB b := by simp [escL]
theorem escL_cons (b : UInt8) (l : List UInt8) : escL (b :: l) = escB b ++ escL l := by simp [escL]
theorem escL_plain : ∀ l : List UInt8, l.any special = false → escL l = l
  | [], _ => rfl
  | b :: l, h => by
    simp only [List.any_cons, Bool.or_eq_false_iff] at h
    have hb : escB b = [b] := by
      have := h.1
      unfold special at this
      simp at this
      simp [escB, this]
    show escB b ++ escL l = b :: l
    rw [hb, escL_plain l h.2]; rfl
theorem escL_len : ∀ l : List UInt8, (escL l).length = l.length + l.countP special
  | [] => rfl
  | b :: l => by
    rw [escL_cons, List.length_append, escB_len, escL_len l, List.countP_cons, List.length_cons]
    cases special b <;> simp <;> omega
theorem count_special : ∀ l : List UInt8, l.count 10 + l.count 92 = l.countP special
  | [] => rfl
  | b :: l => by
    rw [List.count_cons, List.count_cons, List.countP_cons, ← count_special l]
    by_cases h : b = 92
    · subst h; simp [special]; omega
    · by_cases h2 : b = 10
      · subst h2; simp [special]; omega
      · simp [special, h, h2]
theorem any_special (l : List UInt8) : l.any special = decide (0 < l.countP special) := by
  rw [Bool.eq_iff_iff]; simp [List.countP_pos_iff]
def lineL (f : Fld) : List UInt8 := f.1.data.toList ++ 61 :: (escL f.2.data.toList ++ [10])
def textL (l : List Fld) : List UInt8 := l.flatMap lineL
/-- The error's number of a record's text. -/
def textE (l : List Fld) : Nat := if 64 < l.length then 7 else if l.all mayF then 0 else 1
def textS (l : List Fld) : ByteArray := if textE l = 0 then ⟨(textL l).toArray⟩ else ⟨#[]⟩

/-! ### reading -/
def unesc : List UInt8 → Option (List UInt8)
  | [] => some []
  | [b] => if b = 92 then none else some [b]
  | b :: c :: r => if b = 92 then (if c = 110 then (unesc r).map (10 :: ·) else if c = 92 then (unesc r).map (92 :: ·) else none) else (unesc (c :: r)).map (b :: ·)
def cutAt (c : UInt8) : List UInt8 → Option (List UInt8 × List UInt8)
  | [] => none
  | b :: r => if b = c then some ([], r) else (cutAt c r).map fun p => (b :: p.1, p.2)
def lineR (row : List UInt8) : Option Fld :=
  match cutAt 61 row with
  | none => none
  | some (h, raw) => if nameOk h then (match unesc raw with | some v => if v.length ≤ 4096 then some (⟨h.toArray⟩, ⟨v.toArray⟩) else none | none => none) else none
/-- Reading on from line 'n': the fields, the line, the error's number. -/
def parseF : Nat → Nat → List UInt8 → List Fld → List Fld × Nat × Nat
  | _, _, [], acc => (acc, 0, 0)
  | 0, n, _ :: _, _ => ([], n, 2)
  | k + 1, n, b :: s, acc =>
    if 64 < n then ([], n, 7) else
    match cutAt 10 (b :: s) with
    | none => ([], n, 2)
    | some (row, rest) => match lineR row with
      | none => ([], n, 2)
      | some f => parseF k (n + 1) rest (acc ++ [f])
def parseR (s : List UInt8) : List Fld × Nat × Nat := parseF s.length 1 s []

theorem cutAt_none (c : UInt8) : ∀ l : List UInt8, c ∉ l → cutAt c l = none
  | [], _ => rfl
  | b :: r, h => by
    simp at h
    simp [cutAt, Ne.symm h.1, cutAt_none c r h.2]
theorem cutAt_app (c : UInt8) : ∀ (l r : List UInt8), c ∉ l → cutAt c (l ++ c :: r) = some (l, r)
  | [], r, _ => by simp [cutAt]
  | b :: l, r, h => by
    simp at h
    simp [cutAt, Ne.symm h.1, cutAt_app c l r h.2]
theorem cutAt_some {c : UInt8} : ∀ {s l r : List UInt8}, cutAt c s = some (l, r) → s = l ++ c :: r ∧ c ∉ l
  | [], l, r, h => by simp [cutAt] at h
  | b :: s, l, r, h => by
    unfold cutAt at h
    by_cases hb : b = c
    · rw [if_pos hb] at h
      simp at h
      obtain ⟨rfl, rfl⟩ := h
      simp [hb]
    · rw [if_neg hb] at h
      simp only [Option.map_eq_some_iff] at h
      obtain ⟨⟨l', r'⟩, h1, h2⟩ := h
      simp at h2
      obtain ⟨rfl, rfl⟩ := h2
      obtain ⟨e, hn⟩ := cutAt_some h1
      exact ⟨by rw [e]; rfl, by simp [Ne.symm hb, hn]⟩
theorem cutAt_none_iff {c : UInt8} {s : List UInt8} (h : cutAt c s = none) : c ∉ s := by
  intro hm
  obtain ⟨l, r, rfl, hl⟩ := List.append_of_mem hm |>.elim fun l h => h.elim fun r e => (show ∃ l r, s = l ++ c :: r ∧ c ∉ l from by
    clear h e l r
    induction s with
    | nil => simp at hm
    | cons b s ih =>
      by_cases hb : b = c
      · exact ⟨[], s, by rw [hb]; rfl, by simp⟩
      · have : c ∈ s := by simp [Ne.symm hb] at hm; exact hm
        have hs : cutAt c s = none := by
          rw [cutAt, if_neg hb] at h
          simpa using h
        obtain ⟨l, r, e, hl⟩ := ih hs this
        exact ⟨b :: l, r, by rw [e]; rfl, by simp [Ne.symm hb, hl]⟩)
  rw [cutAt_app c l r hl] at h
  cases h
theorem esc_no10 : ∀ l : List UInt8, (10 : UInt8) ∉ escL l
  | [] => by simp [escL]
  | b :: l => by
    rw [escL_cons]
    have h1 := esc_no10 l
    intro h
    rcases List.mem_append.1 h with h | h
    · unfold escB at h
      by_cases h2 : b = 92
      · simp [h2] at h
      · by_cases h3 : b = 10
        · simp [h3] at h
        · simp [h2, h3] at h; exact h3 h.symm
    · exact h1 h
theorem unesc_cons {b : UInt8} (h : b ≠ 92) (l : List UInt8) : unesc (b :: l) = (unesc l).map (b :: ·) := by
  cases l with
  | nil => simp [unesc, h]
  | cons c r => simp [unesc, h]
theorem unesc_esc : ∀ l : List UInt8, unesc (escL l) = some l
  | [] => rfl
  | b :: l => by
    rw [escL_cons]
    have ih := unesc_esc l
    by_cases h2 : b = 92
    · subst h2; simp [escB, unesc, ih]
    · by_cases h3 : b = 10
      · subst h3; simp [escB, unesc, ih]
      · simp only [escB, h2, h3, if_false, List.singleton_append]
        rw [unesc_cons h2, ih]; rfl
theorem name_no {l : List UInt8} (h : nameOk l = true) : (61 : UInt8) ∉ l ∧ (10 : UInt8) ∉ l := by
  unfold nameOk at h
  simp only [Bool.and_eq_true, List.all_eq_true] at h
  refine ⟨fun hm => ?_, fun hm => ?_⟩ <;> exact absurd (h.2 _ hm) (by decide)
theorem lineR_line {f : Fld} (h : mayF f = true) : lineR (f.1.data.toList ++ 61 :: escL f.2.data.toList) = some f := by
  unfold mayF at h
  simp only [Bool.and_eq_true, decide_eq_true_eq] at h
  have hn := name_no h.1
  unfold lineR
  rw [cutAt_app 61 _ _ hn.1]
  simp only [h.1, if_true, unesc_esc]
  rw [if_pos (by have := h.2; rw [Array.length_toList]; exact this)]
theorem cut_line {f : Fld} (h : mayF f = true) (r : List UInt8) : cutAt 10 (lineL f ++ r) = some (f.1.data.toList ++ 61 :: escL f.2.data.toList, r) := by
  have h' := h
  unfold mayF at h'
  simp only [Bool.and_eq_true, decide_eq_true_eq] at h'
  have hn := name_no h'.1
  rw [show lineL f ++ r = (f.1.data.toList ++ 61 :: escL f.2.data.toList) ++ 10 :: r by simp [lineL]]
  refine cutAt_app 10 _ _ fun hm => ?_
  rcases List.mem_append.1 hm with hm | hm
  · exact hn.2 hm
  · rcases List.mem_cons.1 hm with hm | hm
    · exact absurd hm (by decide)
    · exact esc_no10 _ hm
theorem line_pos (f : Fld) : 0 < (lineL f).length := by simp [lineL]; omega
theorem parseF_text : ∀ (l : List Fld) (k n : Nat) (acc : List Fld), (∀ f ∈ l, mayF f = true) → n + l.length ≤ 65 → (textL l).length ≤ k → parseF k n (textL l) acc = (acc ++ l, 0, 0)
  | [], k, n, acc, _, _, _ => by cases k <;> simp [textL, parseF]
  | f :: l, k, n, acc, hm, hn, hk => by
    have hf := hm f (by simp)
    have e : textL (f :: l) = lineL f ++ textL l := by simp [textL]
    rw [e, List.length_append] at hk
    have hp := line_pos f
    obtain ⟨k, rfl⟩ : ∃ k', k = k' + 1 := ⟨k - 1, by omega⟩
    rw [e]
    obtain ⟨b, s, hbs⟩ : ∃ b s, lineL f ++ textL l = b :: s := by
      cases h : lineL f ++ textL l with
      | nil => rw [List.append_eq_nil_iff] at h; rw [h.1] at hp; simp at hp
      | cons b s => exact ⟨b, s, rfl⟩
    have hc := cut_line hf (textL l)
    rw [hbs] at hc ⊢
    simp only [List.length_cons] at hn
    rw [parseF, if_neg (by omega), hc]
    simp only [lineR_line hf]
    rw [parseF_text l k (n + 1) (acc ++ [f]) (fun g hg => hm g (by simp [hg])) (by omega) (by omega)]
    simp
theorem parseR_text {l : List Fld} (h : textE l = 0) : parseR (textL l) = (l, 0, 0) := by
  unfold textE at h
  by_cases h1 : 64 < l.length
  · simp [h1] at h
  · rw [if_neg h1] at h
    by_cases h2 : l.all mayF = true
    · have := parseF_text l (textL l).length 1 [] (fun f hf => List.all_eq_true.1 h2 f hf) (by omega) (Nat.le_refl _)
      simpa [parseR] using this
    · simp [h2] at h
theorem textE_zero {l : List Fld} : textE l = 0 ↔ l.length ≤ 64 ∧ ∀ f ∈ l, mayF f = true := by
  unfold textE
  by_cases h1 : 64 < l.length
  · simp [h1]; omega
  · rw [if_neg h1]
    by_cases h2 : l.all mayF = true
    · rw [if_pos h2]; simp only [List.all_eq_true] at h2; simp; exact ⟨by omega, fun a b hm => h2 (a, b) hm⟩
    · rw [if_neg h2]; simp only [List.all_eq_true] at h2; simp; intro _
      simp only [Classical.not_forall] at h2
      obtain ⟨⟨a, b⟩, h3, h4⟩ := h2
      exact ⟨a, b, h3, by simpa using h4⟩
end Go.Sup
