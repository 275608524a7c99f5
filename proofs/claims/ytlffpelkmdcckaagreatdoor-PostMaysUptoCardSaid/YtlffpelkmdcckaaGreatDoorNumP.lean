/- Numbers: the digits of a number; the law in plain Lean. -/
import Derived.Test.YtlffpelkmdcckaaGreatDoorMem
import Derived.Lib.ItoaMem
import Derived.Lib.ParseIntBTie
namespace Go.Sup
open Go Go.RowKit Go.Lib
/-- The digits behind the sign, as the referee reads them. -/
def refLoop : Int → List UInt8 → Option Int
  | acc, [] => some acc
  | acc, c :: r => if c.toNat < 48 ∨ 57 < c.toNat ∨ 461168601842738790 < acc then none else refLoop (10 * acc + c.toNat - 48) r
theorem refLoop_app (acc : Int) (l : List UInt8) (c : UInt8) : refLoop acc (l ++ [c]) = (refLoop acc l).bind fun a => refLoop a [c] := by
  induction l generalizing acc with
  | nil => rfl
  | cons d r ih =>
    simp only [List.cons_append, refLoop]
    split
    · rfl
    · exact ih _
theorem parseM_app (M acc : Nat) (l : List UInt8) (c : UInt8) (a : Nat) (h : parseUintM M acc l = .ok a) : parseUintM M acc (l ++ [c]) = parseUintM M a [c] := by
  induction l generalizing acc with
  | nil => simp only [parseUintM] at h; injection h with h; subst h; rfl
  | cons d r ih =>
    simp only [List.cons_append, parseUintM] at h ⊢
    split at h
    · rename_i h1
      rw [if_pos h1]
      split at h
      · cases h
      · rename_i h2
        rw [if_neg h2]
        split at h
        · cases h
        · rename_i h3
          rw [if_neg h3]
          exact ih _ h
    · cases h
theorem dig_toNat {k : Nat} (h : k < 10) : (UInt8.ofNat (48 + k)).toNat = 48 + k := by
  show (48 + k) % 256 = 48 + k
  omega
theorem dec_ref : ∀ (u : Nat), u ≤ 4611686018427387904 → refLoop 0 (decDigits u) = some (u : Int) := by
  intro u
  induction u using Nat.strongRecOn with
  | _ u ih =>
    intro hu
    rw [decDigits]
    split
    · rename_i h
      simp only [refLoop, dig_toNat h]
      rw [if_neg (by omega)]
      exact congrArg some (by omega)
    · rename_i h
      rw [refLoop_app, ih (u / 10) (by omega) (by omega)]
      simp only [Option.bind_some, refLoop, dig_toNat (Nat.mod_lt u (by decide : 10 > 0))]
      rw [if_neg (by omega)]
      exact congrArg some (by omega)
theorem dec_parse : ∀ (u : Nat), u ≤ 18446744073709551615 → parseUintM 18446744073709551615 0 (decDigits u) = .ok u := by
  intro u
  induction u using Nat.strongRecOn with
  | _ u ih =>
    intro hu
    rw [decDigits]
    split
    · rename_i h
      simp only [parseUintM, dig_toNat h]
      rw [if_pos (by omega), if_neg (by omega), if_neg (by omega)]
      exact congrArg _ (by omega)
    · rename_i h
      rw [parseM_app _ _ _ _ _ (ih (u / 10) (by omega) (by omega))]
      simp only [parseUintM, dig_toNat (Nat.mod_lt u (by decide : 10 > 0))]
      rw [if_pos (by omega), if_neg (by omega), if_neg (by omega)]
      exact congrArg _ (by omega)
theorem dec_head (u : Nat) : ∃ c r, decDigits u = c :: r ∧ 48 ≤ c.toNat ∧ c.toNat ≤ 57 := by
  induction u using Nat.strongRecOn with
  | _ u ih =>
    rw [decDigits]
    split
    · rename_i h
      exact ⟨_, [], rfl, by rw [dig_toNat h]; omega, by rw [dig_toNat h]; omega⟩
    · rename_i h
      obtain ⟨c, r, e, h1, h2⟩ := ih (u / 10) (by omega)
      exact ⟨c, r ++ [UInt8.ofNat (48 + u % 10)], by rw [e]; rfl, h1, h2⟩
theorem nDigits_le {k u : Nat} (h : u < 10 ^ (k + 1)) : nDigits u ≤ k + 1 := by
  induction k generalizing u with
  | zero => rw [nDigits_small (by simpa using h)]; omega
  | succ k ih =>
    by_cases h1 : u < 10
    · rw [nDigits_small h1]; omega
    · rw [nDigits_big h1]
      have := ih (u := u / 10) (by rw [Nat.pow_succ] at h; omega)
      omega
/-- Within what a number may be. -/
def inN (v : Int) : Bool := decide (-4611686018427387904 ≤ v) && decide (v ≤ 4611686018427387904)
theorem inN_iff {v : Int} : inN v = true ↔ -4611686018427387904 ≤ v ∧ v ≤ 4611686018427387904 := by simp [inN]
theorem itoa_len {v : Int} (h : inN v = true) : (itoa v).length ≤ 20 := by
  rw [inN_iff] at h
  unfold itoa
  have hb : ∀ u : Nat, u ≤ 4611686018427387904 → (decDigits u).length ≤ 19 := by
    intro u hu
    rw [decDigits_length]
    exact nDigits_le (k := 18) (by omega)
  split
  · rw [List.length_cons]; have := hb v.natAbs (by omega); omega
  · have := hb v.toNat (by omega); omega
theorem itoa_ne (v : Int) : itoa v ≠ [] := by
  unfold itoa
  split
  · simp
  · obtain ⟨c, r, e, -⟩ := dec_head v.toNat
    rw [e]; simp
/-- What stands behind the sign. -/
def behind (l : List UInt8) : List UInt8 := if l.head? = some 45 then l.tail else l
/-- The number as the referee finds it. -/
def signed (l : List UInt8) (n : Int) : Int := if l.head? = some 45 then -n else n
def refNum (l : List UInt8) : Option Int :=
  if l = [] ∨ 20 < l.length then none
  else (refLoop 0 (behind l)).bind fun n => if inN (signed l n) && decide (itoa (signed l n) = l) then some (signed l n) else none
/-- The number as the program finds it. -/
def numOf (l : List UInt8) : Option Int :=
  match parseIntB 64 l with
  | .ok v => if inN v && decide (itoa v = l) then some v else none
  | _ => none
theorem parse_itoa {v : Int} (h0 : -9223372036854775808 ≤ v) (h1 : v ≤ 9223372036854775807) : parseIntB 64 (itoa v) = .ok v := by
  have hN : (2 : Nat) ^ 64 - 1 = 18446744073709551615 := by decide
  have hB : ∀ u, u ≤ 18446744073709551615 → parseUintB 64 (decDigits u) = .ok u := by
    intro u hu
    obtain ⟨c, r, e, -⟩ := dec_head u
    unfold parseUintB
    rw [if_neg (by rw [e]; simp), hN]
    exact dec_parse u hu
  unfold itoa
  split
  · rename_i h
    simp only [parseIntB]
    rw [if_pos (by decide), hB _ (by omega)]
    simp only
    rw [if_neg (by intro ⟨h, _⟩; exact h (by decide)), if_neg (by omega), if_pos (by decide)]
    exact congrArg _ (by omega)
  · rename_i h
    obtain ⟨c, r, e, hc1, hc2⟩ := dec_head v.toNat
    rw [e]
    simp only [parseIntB]
    rw [if_neg (by omega), ← e, hB _ (by omega)]
    simp only
    rw [if_neg (by omega), if_neg (by omega), if_neg (by omega)]
    exact congrArg _ (by omega)
theorem ref_itoa {v : Int} (h : inN v = true) : refLoop 0 (behind (itoa v)) = some (v.natAbs : Int) ∧ signed (itoa v) (v.natAbs : Int) = v := by
  have hv := inN_iff.1 h
  unfold itoa
  split
  · rename_i hn
    exact ⟨dec_ref _ (by omega), by unfold signed; rw [if_pos (show (45 :: decDigits v.natAbs).head? = some 45 from rfl)]; omega⟩
  · rename_i hn
    obtain ⟨c, r, e, hc1, hc2⟩ := dec_head v.toNat
    have hc : ¬ (decDigits v.toNat).head? = some 45 := by
      rw [e]
      intro hx
      simp only [List.head?_cons, Option.some.injEq] at hx
      subst hx
      exact absurd hc1 (by decide)
    unfold behind signed
    rw [if_neg hc, if_neg hc, dec_ref _ (by omega)]
    exact ⟨congrArg some (by omega), by omega⟩
/-- THE LAW: both find the same. -/
theorem refNum_eq (l : List UInt8) : refNum l = numOf l := by
  by_cases hx : ∃ v, inN v = true ∧ itoa v = l
  · obtain ⟨v, hv, rfl⟩ := hx
    have hv' := inN_iff.1 hv
    have h1 : numOf (itoa v) = some v := by
      unfold numOf
      rw [parse_itoa (by omega) (by omega)]
      simp [hv]
    have h2 : refNum (itoa v) = some v := by
      unfold refNum
      have := itoa_len hv
      rw [if_neg (by intro h; rcases h with h | h; exact itoa_ne v h; omega), (ref_itoa hv).1, Option.bind_some, (ref_itoa hv).2]
      simp [hv]
    rw [h1, h2]
  · have h1 : numOf l = none := by
      unfold numOf
      split
      · rename_i v _
        rw [if_neg]
        intro h
        simp only [Bool.and_eq_true, decide_eq_true_eq] at h
        exact hx ⟨v, h.1, h.2⟩
      · rfl
    have h2 : refNum l = none := by
      unfold refNum
      split
      · rfl
      · cases refLoop 0 (behind l) with
        | none => rfl
        | some n =>
          rw [Option.bind_some, if_neg]
          intro h
          simp only [Bool.and_eq_true, decide_eq_true_eq] at h
          exact hx ⟨_, h.1, h.2⟩
    rw [h1, h2]
/-- A number's own digits. -/
theorem numOf_itoa {v : Int} (h0 : -9223372036854775808 ≤ v) (h1 : v ≤ 9223372036854775807) : numOf (itoa v) = if inN v then some v else none := by
  unfold numOf
  rw [parse_itoa h0 h1]
  simp
/-- The pair that the two hand back. -/
def numV (o : Option Int) : Value := .tuple #[.int .i64 (o.getD 0), .bool o.isSome]
/-- Digits: how they grow. -/
theorem itoa_small {n : Int} (h : n < 0) (h1 : -10 < n) : itoa n = [45, UInt8.ofNat (48 + n.natAbs)] := by
  unfold itoa
  rw [if_pos h, decDigits, dif_pos (by omega)]
theorem itoa_digit {n : Int} (h : 0 ≤ n) (h1 : n < 10) : itoa n = [UInt8.ofNat (48 + n.natAbs)] := by
  unfold itoa
  rw [if_neg (by omega), decDigits, dif_pos (by omega)]
  congr 3; omega
theorem itoa_grow {n : Int} (h : n ≤ -10 ∨ 10 ≤ n) : itoa n = itoa (n.tdiv 10) ++ [UInt8.ofNat (48 + n.natAbs % 10)] := by
  unfold itoa
  rcases h with h | h
  · have e : n.tdiv 10 = -((n.natAbs / 10 : Nat) : Int) := by
      have : n = -(n.natAbs : Int) := by omega
      rw [this, Int.neg_tdiv, Int.natAbs_neg, Int.natAbs_natCast]
      rfl
    rw [if_pos (by omega), if_pos (by rw [e]; omega), decDigits, dif_neg (by omega), e, Int.natAbs_neg, Int.natAbs_natCast]
    rfl
  · have e : n.tdiv 10 = ((n.natAbs / 10 : Nat) : Int) := by
      have : n = (n.natAbs : Int) := by omega
      rw [this, Int.natAbs_natCast]
      rfl
    rw [if_neg (by omega), if_neg (by rw [e]; omega), decDigits, dif_neg (by omega), e]
    have : n.toNat = n.natAbs := by omega
    rw [this]; rfl
end Go.Sup
