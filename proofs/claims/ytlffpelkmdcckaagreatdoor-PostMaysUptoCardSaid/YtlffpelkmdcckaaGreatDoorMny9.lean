/- Texts in one: MonP, MonT, MonM, Sum9, RNum9, HeldL. -/
import Derived.Test.YtlffpelkmdcckaaGreatDoorMon9
import Derived.Test.YtlffpelkmdcckaaGreatDoorDig
import Derived.Test.YtlffpelkmdcckaaGreatDoorNumb
import Derived.Test.YtlffpelkmdcckaaGreatDoorTxt9
import Derived.Test.YtlffpelkmdcckaaGreatDoorSmall9
import Derived.Deep.RegionHeld3
/- Money's text; the law in plain Lean. -/
namespace Go.Sup
open Go Go.RowKit Go.Lib
/-- One digit's letter. -/
def dgt (k : Nat) : UInt8 := UInt8.ofNat (48 + k)
theorem dec_small {u : Nat} (h : u < 10) : decDigits u = [dgt u] := by rw [decDigits, dif_pos h]; rfl
theorem dec_big {u : Nat} (h : ¬ u < 10) : decDigits u = decDigits (u / 10) ++ [dgt (u % 10)] := by rw [decDigits, dif_neg h]; rfl
theorem dec_pos (u : Nat) : 0 < (decDigits u).length := by
  obtain ⟨c, r, e, -⟩ := dec_head u
  rw [e]; simp
/-- A number's digits, so many at least. -/
def padL (k u : Nat) : List UInt8 := List.replicate (k - (decDigits u).length) 48 ++ decDigits u
theorem padL_len (k u : Nat) : (padL k u).length = max k (decDigits u).length := by
  unfold padL
  rw [List.length_append, List.length_replicate]; omega
theorem padL_one (u : Nat) : padL 1 u = decDigits u := by
  unfold padL
  have := dec_pos u
  rw [show 1 - (decDigits u).length = 0 by omega]
  rfl
theorem padL_step (k u : Nat) (hk : 1 ≤ k) : padL (k + 1) u = padL k (u / 10) ++ [dgt (u % 10)] := by
  unfold padL
  by_cases h : u < 10
  · rw [dec_small h, show u / 10 = 0 by omega, show u % 10 = u by omega, dec_small (show 0 < 10 by decide)]
    obtain ⟨j, rfl⟩ : ∃ j, k = j + 1 := ⟨k - 1, by omega⟩
    simp only [List.length_cons, List.length_nil, Nat.zero_add, Nat.add_sub_cancel]
    rw [show (dgt 0) = 48 from rfl, List.replicate_succ']
  · rw [dec_big h, List.length_append]
    simp only [List.length_cons, List.length_nil, Nat.zero_add]
    rw [show k + 1 - ((decDigits (u / 10)).length + 1) = k - (decDigits (u / 10)).length by omega, List.append_assoc]
theorem padL_two (u : Nat) : padL 3 u = decDigits (u / 100) ++ padL 2 (u % 100) ∧ (padL 2 (u % 100)).length = 2 := by
  have h1 : padL 2 (u % 100) = [dgt (u / 10 % 10), dgt (u % 10)] := by
    rw [padL_step 1 _ (by omega), padL_one, dec_small (by omega), show u % 100 / 10 = u / 10 % 10 by omega, show u % 100 % 10 = u % 10 by omega]
    rfl
  refine ⟨?_, by rw [h1]; rfl⟩
  rw [h1, padL_step 2 u (by omega), padL_step 1 _ (by omega), padL_one, show u / 10 / 10 = u / 100 by omega]
  simp
theorem padL_three (u : Nat) : padL 4 u = decDigits (u / 1000) ++ padL 3 (u % 1000) ∧ (padL 3 (u % 1000)).length = 3 := by
  have h1 : padL 3 (u % 1000) = [dgt (u / 100 % 10), dgt (u / 10 % 10), dgt (u % 10)] := by
    rw [padL_step 2 _ (by omega), padL_step 1 _ (by omega), padL_one, dec_small (by omega), show u % 1000 / 10 / 10 = u / 100 % 10 by omega, show u % 1000 / 10 % 10 = u / 10 % 10 by omega, show u % 1000 % 10 = u % 10 by omega]
    rfl
  refine ⟨?_, by rw [h1]; rfl⟩
  rw [h1, padL_step 3 u (by omega), padL_step 2 _ (by omega), padL_step 1 _ (by omega), padL_one, show u / 10 / 10 / 10 = u / 1000 by omega, show u / 10 / 10 % 10 = u / 100 % 10 by omega]
  simp
def cJPY : ByteArray := ⟨#[74, 80, 89]⟩
def cKRW : ByteArray := ⟨#[75, 82, 87]⟩
def cBHD : ByteArray := ⟨#[66, 72, 68]⟩
def cKWD : ByteArray := ⟨#[75, 87, 68]⟩
def cTND : ByteArray := ⟨#[84, 78, 68]⟩
/-- How many digits stand behind the point. -/
def scale (c : ByteArray) : Nat := if c = cJPY ∨ c = cKRW then 0 else if c = cBHD ∨ c = cKWD ∨ c = cTND then 3 else 2
theorem scale_cases (c : ByteArray) : scale c = 0 ∨ scale c = 2 ∨ scale c = 3 := by
  unfold scale; split
  · exact Or.inl rfl
  · split
    · exact Or.inr (Or.inr rfl)
    · exact Or.inr (Or.inl rfl)
/-- What stands behind the sign. -/
def amtL (d u : Nat) : List UInt8 := if d = 0 then decDigits u else decDigits (u / 10 ^ d) ++ 46 :: padL d (u % 10 ^ d)
def signL (n : Int) : List UInt8 := if n < 0 then [45] else []
/-- Money's text. -/
def monL (c : ByteArray) (n : Int) : List UInt8 := c.data.toList ++ 32 :: (signL n ++ amtL (scale c) n.natAbs)
def monS (c : ByteArray) (n : Int) : ByteArray := if monOk c n then ⟨(monL c n).toArray⟩ else ⟨#[]⟩
/-- As the program puts it: filled up with zeros, and cut. -/
theorem amt_cut (d u : Nat) (hd : d = 2 ∨ d = 3) : (padL (d + 1) u).take ((padL (d + 1) u).length - d) ++ 46 :: (padL (d + 1) u).drop ((padL (d + 1) u).length - d) = amtL d u := by
  unfold amtL
  rcases hd with rfl | rfl
  · obtain ⟨e, hl⟩ := padL_two u
    rw [if_neg (by decide), show (10 : Nat) ^ 2 = 100 from rfl]
    rw [show 2 + 1 = 3 from rfl, e, List.length_append, hl, Nat.add_sub_cancel, List.take_left, List.drop_left]
  · obtain ⟨e, hl⟩ := padL_three u
    rw [if_neg (by decide), show (10 : Nat) ^ 3 = 1000 from rfl]
    rw [show 3 + 1 = 4 from rfl, e, List.length_append, hl, Nat.add_sub_cancel, List.take_left, List.drop_left]
/-- What the referee's loop still puts ahead: k digits at least. -/
def restL (k u : Nat) : List UInt8 := if u = 0 ∧ k = 0 then [] else padL (max k 1) u
theorem restL_step {k u : Nat} (h : 0 < u ∨ 0 < k) : restL k u = restL (k - 1) (u / 10) ++ [dgt (u % 10)] := by
  unfold restL
  rw [if_neg (by omega)]
  by_cases hk : 2 ≤ k
  · rw [if_neg (by omega), show max k 1 = k - 1 + 1 by omega, show max (k - 1) 1 = k - 1 by omega]
    exact padL_step (k - 1) u (by omega)
  · rw [show max k 1 = 1 by omega, show max (k - 1) 1 = 1 by omega, padL_one, padL_one]
    by_cases hu : u < 10
    · rw [if_pos (by omega), dec_small hu, show u % 10 = u by omega]; rfl
    · rw [if_neg (by omega), dec_big hu]
theorem restL_end : restL 0 0 = [] := rfl
theorem restL_start {k : Nat} (u : Nat) (h : 1 ≤ k) : restL k u = padL k u := by
  unfold restL
  rw [if_neg (by omega), show max k 1 = k by omega]
theorem dgt_toNat {k : Nat} (h : k < 10) : (dgt k).toNat = 48 + k := dig_toNat h
/-- How long money's text is at most. -/
theorem dec_le13 {u : Nat} (h : u ≤ 1099511627776) : (decDigits u).length ≤ 13 := by
  rw [decDigits_length]
  exact nDigits_le (k := 12) (by omega)
theorem amtL_le {d u : Nat} (hd : d = 0 ∨ d = 2 ∨ d = 3) (hu : u ≤ 1099511627776) : (amtL d u).length ≤ 17 := by
  unfold amtL
  have hx : ∀ v, v ≤ 1099511627776 → (decDigits v).length ≤ 13 := fun v h => dec_le13 h
  rcases hd with rfl | rfl | rfl
  · rw [if_pos rfl]; have := hx u hu; omega
  · rw [if_neg (by decide), show (10 : Nat) ^ 2 = 100 from rfl, List.length_append, List.length_cons, (padL_two u).2]
    have := hx (u / 100) (by omega); omega
  · rw [if_neg (by decide), show (10 : Nat) ^ 3 = 1000 from rfl, List.length_append, List.length_cons, (padL_three u).2]
    have := hx (u / 1000) (by omega); omega
theorem monS_le (c : ByteArray) (n : Int) : (monS c n).size ≤ 22 := by
  unfold monS
  split
  · rename_i h
    unfold monOk curOk amtOk at h
    simp only [Bool.and_eq_true, decide_eq_true_eq] at h
    obtain ⟨⟨h3, -⟩, h4, h5⟩ := h
    show (monL c n).toArray.size ≤ 22
    rw [List.size_toArray]
    unfold monL
    rw [List.length_append, List.length_cons, List.length_append, h3]
    have := amtL_le (scale_cases c) (u := n.natAbs) (by omega)
    have : (signL n).length ≤ 1 := by unfold signL; split <;> simp
    omega
  · decide
end Go.Sup

/- Money's text: the program's and the referee's. -/
namespace Go.Proofs.YtlffpelkmdcckaaGreatDoor
open Go Go.RowKit Go.Sup Go.Lib
set_option maxRecDepth 100000
theorem ne_lst {c : ByteArray} {l : List UInt8} (h : ¬ c = ⟨l.toArray⟩) : ¬ c.toList = l := fun e => h (bs_ext (by rw [e, ByteArray.toList_eq]))
theorem ne_beq {c : ByteArray} {l : List UInt8} (h : ¬ c = ⟨l.toArray⟩) : (c.toList == l) = false := by simp [ne_lst h]
theorem scale_two {c : ByteArray} (h1 : ¬ c = cJPY) (h2 : ¬ c = cKRW) (h3 : ¬ c = cBHD) (h4 : ¬ c = cKWD) (h5 : ¬ c = cTND) : scale c = 2 := by
  unfold scale
  rw [if_neg (by simp [h1, h2]), if_neg (by simp [h3, h4, h5])]
theorem scale_J : scale cJPY = 0 := by decide
theorem scale_K : scale cKRW = 0 := by decide
theorem scale_B : scale cBHD = 3 := by decide
theorem scale_W : scale cKWD = 3 := by decide
theorem scale_T : scale cTND = 3 := by decide
set_option maxHeartbeats 1000000 in
theorem mdigits_any (c : ByteArray) (w : World) : Calls Tryz.prog 117 #[.string c] w fun e w' => e = .returned (.int .i64 (scale c : Nat)) ∧ w' = w := by
  by_cases h1 : c = cJPY
  · subst h1
    rw [scale_J]; unfold cJPY
    go_enter Tryz.func117, Tryz.ntmps117
    go_wp2
    go_ret
    exact ⟨rfl, rfl⟩
  by_cases h2 : c = cKRW
  · subst h2
    rw [scale_K]; unfold cKRW
    go_enter Tryz.func117, Tryz.ntmps117
    go_wp2
    go_ret
    exact ⟨rfl, rfl⟩
  by_cases h3 : c = cBHD
  · subst h3
    rw [scale_B]; unfold cBHD
    go_enter Tryz.func117, Tryz.ntmps117
    go_wp2
    go_ret
    exact ⟨rfl, rfl⟩
  by_cases h4 : c = cKWD
  · subst h4
    rw [scale_W]; unfold cKWD
    go_enter Tryz.func117, Tryz.ntmps117
    go_wp2
    go_ret
    exact ⟨rfl, rfl⟩
  by_cases h5 : c = cTND
  · subst h5
    rw [scale_T]; unfold cTND
    go_enter Tryz.func117, Tryz.ntmps117
    go_wp2
    go_ret
    exact ⟨rfl, rfl⟩
  rw [scale_two h1 h2 h3 h4 h5]
  have a1 := ne_beq h1
  have a2 := ne_beq h2
  have a3 := ne_beq h3
  have a4 := ne_beq h4
  have a5 := ne_beq h5
  clear h1 h2 h3 h4 h5
  go_enter Tryz.func117, Tryz.ntmps117
  go_wp2
  go_ret
  exact ⟨rfl, rfl⟩
set_option maxHeartbeats 1000000 in
theorem rdigits_any (c : ByteArray) (w : World) : Calls Tryz.prog 75 #[.string c] w fun e w' => e = .returned (.int .i64 (scale c : Nat)) ∧ w' = w := by
  by_cases h1 : c = cJPY
  · subst h1
    rw [scale_J]; unfold cJPY
    go_enter Tryz.func75, Tryz.ntmps75
    go_wp2
    go_ret
    exact ⟨rfl, rfl⟩
  by_cases h2 : c = cKRW
  · subst h2
    rw [scale_K]; unfold cKRW
    go_enter Tryz.func75, Tryz.ntmps75
    go_wp2
    go_ret
    exact ⟨rfl, rfl⟩
  by_cases h3 : c = cBHD
  · subst h3
    rw [scale_B]; unfold cBHD
    go_enter Tryz.func75, Tryz.ntmps75
    go_wp2
    go_ret
    exact ⟨rfl, rfl⟩
  by_cases h4 : c = cKWD
  · subst h4
    rw [scale_W]; unfold cKWD
    go_enter Tryz.func75, Tryz.ntmps75
    go_wp2
    go_ret
    exact ⟨rfl, rfl⟩
  by_cases h5 : c = cTND
  · subst h5
    rw [scale_T]; unfold cTND
    go_enter Tryz.func75, Tryz.ntmps75
    go_wp2
    go_ret
    exact ⟨rfl, rfl⟩
  rw [scale_two h1 h2 h3 h4 h5]
  have a1 := ne_beq h1
  have a2 := ne_beq h2
  have a3 := ne_beq h3
  have a4 := ne_beq h4
  have a5 := ne_beq h5
  clear h1 h2 h3 h4 h5
  go_enter Tryz.func75, Tryz.ntmps75
  go_wp2
  go_ret
  exact ⟨rfl, rfl⟩
/-- One round of the referee's loop. -/
theorem whole_step {k u : Nat} {t : ByteArray} {L : List UInt8} (h : restL (k - t.size) u ++ t.data.toList = L) (hgo : 0 < u ∨ t.size < k) :
    restL (k - (oneB (48 + (u : Int) % 10) ++ t).size) (u / 10) ++ (oneB (48 + (u : Int) % 10) ++ t).data.toList = L := by
  have e : oneB (48 + (u : Int) % 10) = ⟨#[dgt (u % 10)]⟩ := by
    unfold oneB dgt
    rw [show (48 + (u : Int) % 10).toNat = 48 + u % 10 by omega]
  have h1 := restL_step (k := k - t.size) (u := u) (by omega)
  have h2 : (⟨#[dgt (u % 10)]⟩ : ByteArray).size = 1 := rfl
  rw [e, ByteArray.size_append, ← h, h1, h2, show k - (1 + t.size) = k - t.size - 1 by omega]
  simp
def strLen : Value → Nat
  | .string t => t.size
  | _ => 0
set_option maxHeartbeats 2000000 in
theorem whole_any (u k : Nat) (hu : u ≤ 1099511627776) (hk : 1 ≤ k) (hk2 : k ≤ 3) (w : World) :
    Calls Tryz.prog 76 #[.int .i64 u, .int .i64 k] w fun e w' => e = .returned (.string ⟨(padL k u).toArray⟩) ∧ Below w.heap.size w w' := by
  obtain ⟨L, hL⟩ : ∃ L, L = padL k u := ⟨_, rfl⟩
  have HL : Hid (L.length ≤ 13) := by
    show L.length ≤ 13
    rw [hL, padL_len]
    have := dec_le13 hu
    omega
  have H0 : Hid (restL (k - 0) u = L) := by rw [hL]; exact restL_start u hk
  rw [← hL]
  clear hL
  go_enter Tryz.func76, Tryz.ntmps76
  go_wp2
  go_loopw [0, 5] (fun n s wr => ∃ (v : Nat) (t : ByteArray), n = .int .i64 v ∧ s = .string t ∧ v ≤ 1099511627776 ∧ t.size ≤ 13 ∧ Hid (restL (k - t.size) v ++ t.data.toList = L ∧ Below w.heap.size w wr)) (fun n s _ => (intOf n).toNat + (k - strLen s))
  case atStart => exact ⟨u, ⟨#[]⟩, rfl, rfl, hu, by decide, by show restL (k - 0) u ++ [] = L; rw [List.append_nil]; exact H0.out, Below.refl _ _⟩
  case round =>
    obtain ⟨v, t, rfl, rfl, hv, ht, HH⟩ := hrel
    by_cases hgo : 0 < v ∨ t.size < k
    · have hs := Lib.hid (whole_step HH.out.1 hgo)
      have hl2 : (oneB (48 + (v : Int) % 10) ++ t).size = t.size + 1 := by
        rw [ByteArray.size_append]; show 1 + t.size = _; omega
      have hl : t.size + 1 ≤ 13 := by
        have h1 := congrArg List.length hs.out
        rw [List.length_append] at h1
        have : (oneB (48 + (v : Int) % 10) ++ t).data.toList.length = (oneB (48 + (v : Int) % 10) ++ t).size := Array.length_toList
        have := HL.out
        omega
      have HL2 := Lib.hid hl2
      have no : ¬ 9223372036854775807 < (oneB (48 + (v : Int) % 10)).size + t.size := by show ¬ 9223372036854775807 < 1 + t.size; omega
      have CV := fun W b c h => conv1 W b c (48 + (v : Int) % 10) h
      clear hl2
      by_cases hv0 : 0 < v
      · have hvI : (0 : Int) < (v : Int) := by omega
        clear hgo
        go_wp2_with fail
        go_roundw
        case rel => exact ⟨v / 10, _, by go_num, rfl, by omega, by rw [HL2.out]; exact hl, hs.out, HH.out.2.trans ((Below.refl _ _).alloc (Nat.le_refl _) _ |>.mono HH.out.2.size)⟩
        case measure => simp only [strLen]; rw [HL2.out]; simp [intOf]; omega
      · obtain rfl : v = 0 := by omega
        have hlt : t.size < k := by omega
        clear hgo CV hv0
        rw [show (48 : Int) + ((0 : Nat) : Int) % 10 = 48 from rfl] at hs no HL2
        have CV := fun W b c h => conv1 W b c 48 h
        rw [show ((0 : Nat) : Int) = 0 from rfl]
        go_wp2_with fail
        go_roundw
        case rel => exact ⟨0, _, rfl, rfl, by omega, by rw [HL2.out]; exact hl, hs.out, HH.out.2.trans ((Below.refl _ _).alloc (Nat.le_refl _) _ |>.mono HH.out.2.size)⟩
        case measure => simp only [strLen]; rw [HL2.out]; simp [intOf]; omega
    · obtain rfl : v = 0 := by omega
      have hlt : ¬ t.size < k := by omega
      have HE : Hid (t = ⟨L.toArray⟩) := by
        have := HH.out.1
        rw [show k - t.size = 0 by omega] at this
        show t = ⟨L.toArray⟩
        apply ByteArray.ext
        rw [← this]
        simp [restL_end]
      clear hgo
      rw [show ((0 : Nat) : Int) = 0 from rfl]
      go_wp2_with fail
      go_ret
      exact ⟨by rw [HE.out]; rfl, HH.out.2⟩
theorem signL_pos (u : Nat) : signL (u : Int) = [] := by unfold signL; rw [if_neg (by omega)]
theorem signL_neg {u : Nat} (h : 0 < u) : signL (-(u : Int)) = [45] := by unfold signL; rw [if_pos (by omega)]
theorem toL (n : Int) (u : Nat) (h : n = u) : itoa n = decDigits u := by subst h; exact itoa_nonneg u
set_option maxHeartbeats 4000000 in
theorem rmtext_any (c : ByteArray) (n : Int) (w : World) : Calls Tryz.prog 52 #[.agg #[.string c, .int .i64 n]] w fun e w' => e = .returned (.string (monS c n)) ∧ Below w.heap.size w w' := by
  have HM := Lib.hid (fun W => refMMay_any c n W)
  have HS : Hid (monS c n = if monOk c n then ⟨(monL c n).toArray⟩ else ⟨#[]⟩) := rfl
  obtain ⟨S, hS⟩ : ∃ S, S = monS c n := ⟨_, rfl⟩
  rw [← hS] at HS ⊢
  rcases hb : monOk c n with _ | _
  · rw [hb] at HM HS
    have he : S = ⟨#[]⟩ := HS.out
    subst he
    clear HS hS hb
    go_enter Tryz.func52, Tryz.ntmps52
    go_wp2_with fail
    refine (HM.out _).mono ?_
    rintro e w1 ⟨rfl, hb1⟩
    have HB : Hid (Below w.heap.size w w1) := ((Below.refl _ _).alloc (Nat.le_refl _) _).trans (hb1.mono (by simp))
    clear hb1
    go_wp2
    go_ret
    exact ⟨rfl, HB.out⟩
  have hok := hb
  unfold monOk curOk amtOk at hok
  simp only [Bool.and_eq_true, decide_eq_true_eq] at hok
  obtain ⟨⟨h3, -⟩, h4, h5⟩ := hok
  have hc3 : c.size = 3 := by rw [← h3]; exact Array.length_toList.symm
  have HD := Lib.hid (fun W => rdigits_any c W)
  have HW := Lib.hid (fun (u k : Nat) hu hk hk2 W => whole_any u k hu hk hk2 W)
  rw [hb] at HM HS
  obtain ⟨u, hu⟩ : ∃ u, u = n.natAbs := ⟨_, rfl⟩
  have hd : scale c ≤ 3 := by rcases scale_cases c with h | h | h <;> omega
  have hul : u ≤ 1099511627776 := by omega
  have HS2 : Hid (S = ⟨(c.data.toList ++ 32 :: (signL n ++ amtL (scale c) u)).toArray⟩) := by rw [hu]; exact HS.out
  obtain ⟨d, hde⟩ : ∃ d, d = scale c := ⟨_, rfl⟩
  rw [← hde] at HD HS2 hd
  have hcas : n = (u : Int) ∨ (n = -(u : Int) ∧ 0 < u) := by omega
  clear HS hS hb h4 h5 h3 hu hde
  rcases hcas with rfl | ⟨rfl, hpos⟩
  · have hun : (u : Int) ≤ 1099511627776 := by omega
    go_enter Tryz.func52, Tryz.ntmps52
    go_wp2_with fail
    refine (HM.out _).mono ?_
    rintro e w1 ⟨rfl, hb1⟩
    have HB : Hid (Below w.heap.size w w1) := ((Below.refl _ _).alloc (Nat.le_refl _) _).trans (hb1.mono (by simp))
    obtain ⟨z0, z1⟩ := bcell hb1
    have x0 : w1.cell? ⟨w.heap.size, 0, none⟩ = some (.string c) := (z0 w.heap.size 0 (by simp)).trans (by go_simp)
    have x1 : w1.cell? ⟨w.heap.size, 1, none⟩ = some (.int .i64 (u : Int)) := (z0 w.heap.size 1 (by simp)).trans (by go_simp)
    clear hb1 z0 z1
    go_wp2_with fail
    go_quiet (fail)
    go_wp2_with fail
    refine (HD.out _).mono ?_
    rintro e w2 ⟨rfl, rfl⟩
    go_wp2_with fail
    go_loop [6, 7] (fun m i => ∃ j p : Nat, j ≤ d ∧ i = .int .i64 j ∧ m = .int .i64 p ∧ 1 ≤ p ∧ p ≤ 1000 ∧ Hid (p = 10 ^ j)) (fun _ i => d - (intOf i).toNat)
    case atStart => exact ⟨0, 1, Nat.zero_le _, rfl, rfl, by omega, by omega, rfl⟩
    case round =>
      obtain ⟨j, p, hj, rfl, rfl, hp1, hp2, HP⟩ := hrel
      by_cases hlt : j < d
      · have hq : p ≤ 100 := by
          have := Nat.pow_le_pow_right (show 0 < 10 by decide) (show j ≤ 2 by omega)
          rw [← HP.out] at this
          omega
        go_wp2_with fail
        go_round
        case rel => exact ⟨j + 1, 10 * p, hlt, by go_num, by go_num, by omega, by omega, by show 10 * p = 10 ^ (j + 1); rw [Nat.pow_succ, HP.out]; omega⟩
        case measure => simp [intOf]; omega
      · obtain rfl : j = d := by omega
        obtain ⟨q, hq⟩ : ∃ q, q = u / p := ⟨_, rfl⟩
        obtain ⟨r, hr⟩ : ∃ r, r = u % p := ⟨_, rfl⟩
        have hqu : q ≤ 1099511627776 := by rw [hq]; exact Nat.le_trans (Nat.div_le_self _ _) hul
        have hru : r ≤ 1099511627776 := by rw [hr]; exact Nat.le_trans (Nat.mod_le _ _) hul
        have hqw : wrap64 ((u : Int) / (p : Int)) = (q : Int) := by
          rw [show ((u : Int) / (p : Int)) = (q : Int) by rw [hq]; rfl]
          unfold wrap64; omega
        have hrw : ((u : Int) % (p : Int)) = (r : Int) := by rw [hr]; rfl
        obtain ⟨X, hX⟩ : ∃ X : ByteArray, X = ⟨(padL 1 q).toArray⟩ := ⟨_, rfl⟩
        have HX : Hid (∀ W, Calls Tryz.prog 76 #[.int .i64 (q : Int), .int .i64 1] W fun e w' => e = .returned (.string X) ∧ Below W.heap.size W w') := fun W => by rw [hX]; exact HW.out q 1 hqu (by omega) (by omega) W
        have hXs : X.size ≤ 13 := by
          rw [hX]
          show (padL 1 q).toArray.size ≤ 13
          rw [List.size_toArray, padL_one]
          exact dec_le13 hqu
        have HXE := Lib.hid hX
        have HQ := Lib.hid hq
        have HR := Lib.hid hr
        clear hX hlt hq hr
        by_cases hd0 : j = 0
        · subst hd0
          have HE : Hid (S = c ++ ⟨#[32]⟩ ++ X) := by
            show S = _
            have h1 : p = 1 := HP.out
            have h2 : q = u := by rw [HQ.out, h1, Nat.div_one]
            rw [HS2.out, HXE.out, padL_one, signL_pos u, h2]
            apply ByteArray.ext
            simp [amtL]
          go_wp2_with fail
          (with_reducible refine (HX.out _).mono ?_)
          rintro e w3 ⟨rfl, hb3⟩
          have HB3 : Hid (Below w.heap.size w w3) := (Go.Sup.below_drewN HB.out _).trans (hb3.mono (by simp; exact HB.out.size))
          clear hb3
          go_wp2
          go_ret
          exact ⟨by rw [HE.out]; rfl, HB3.out⟩
        · have hd1 : (0 : Int) < (j : Int) := by omega
          obtain ⟨Y, hY⟩ : ∃ Y : ByteArray, Y = ⟨(padL j r).toArray⟩ := ⟨_, rfl⟩
          have HYC : Hid (∀ W, Calls Tryz.prog 76 #[.int .i64 (r : Int), .int .i64 (j : Int)] W fun e w' => e = .returned (.string Y) ∧ Below W.heap.size W w') := fun W => by rw [hY]; exact HW.out r j hru (by omega) hd W
          have hYs : Y.size ≤ 13 := by
            rw [hY]
            show (padL j r).toArray.size ≤ 13
            rw [List.size_toArray, padL_len]
            have := dec_le13 hru
            omega
          have HE : Hid (S = c ++ ⟨#[32]⟩ ++ X ++ (⟨#[46]⟩ ++ Y)) := by
            show S = _
            rw [HS2.out, HXE.out, hY, padL_one, signL_pos u, HQ.out, HR.out, HP.out]
            apply ByteArray.ext
            simp [amtL, hd0]
          clear hY hd0
          go_wp2_with fail
          (with_reducible refine (HX.out _).mono ?_)
          rintro e w3 ⟨rfl, hb3⟩
          have HB3 : Hid (Below w.heap.size w w3) := (Go.Sup.below_drewN HB.out _).trans (hb3.mono (by simp; exact HB.out.size))
          clear hb3
          go_wp2_with fail
          (with_reducible refine (HYC.out _).mono ?_)
          rintro e w4 ⟨rfl, hb4⟩
          have HB4 : Hid (Below w.heap.size w w4) := HB3.out.trans (hb4.mono HB3.out.size)
          clear hb4
          go_wp2
          go_ret
          exact ⟨by rw [HE.out]; rfl, HB4.out⟩
  · have hun : (u : Int) ≤ 1099511627776 := by omega
    have hu1 : (0 : Int) < (u : Int) := by omega
    go_enter Tryz.func52, Tryz.ntmps52
    go_wp2_with fail
    refine (HM.out _).mono ?_
    rintro e w1 ⟨rfl, hb1⟩
    have HB : Hid (Below w.heap.size w w1) := ((Below.refl _ _).alloc (Nat.le_refl _) _).trans (hb1.mono (by simp))
    obtain ⟨z0, z1⟩ := bcell hb1
    have x0 : w1.cell? ⟨w.heap.size, 0, none⟩ = some (.string c) := (z0 w.heap.size 0 (by simp)).trans (by go_simp)
    have x1 : w1.cell? ⟨w.heap.size, 1, none⟩ = some (.int .i64 (-(u : Int))) := (z0 w.heap.size 1 (by simp)).trans (by go_simp)
    clear hb1 z0 z1
    go_wp2_with fail
    go_quiet (fail)
    go_wp2_with fail
    refine (HD.out _).mono ?_
    rintro e w2 ⟨rfl, rfl⟩
    go_wp2_with fail
    go_loop [6, 7] (fun m i => ∃ j p : Nat, j ≤ d ∧ i = .int .i64 j ∧ m = .int .i64 p ∧ 1 ≤ p ∧ p ≤ 1000 ∧ Hid (p = 10 ^ j)) (fun _ i => d - (intOf i).toNat)
    case atStart => exact ⟨0, 1, Nat.zero_le _, rfl, rfl, by omega, by omega, rfl⟩
    case round =>
      obtain ⟨j, p, hj, rfl, rfl, hp1, hp2, HP⟩ := hrel
      by_cases hlt : j < d
      · have hq : p ≤ 100 := by
          have := Nat.pow_le_pow_right (show 0 < 10 by decide) (show j ≤ 2 by omega)
          rw [← HP.out] at this
          omega
        go_wp2_with fail
        go_round
        case rel => exact ⟨j + 1, 10 * p, hlt, by go_num, by go_num, by omega, by omega, by show 10 * p = 10 ^ (j + 1); rw [Nat.pow_succ, HP.out]; omega⟩
        case measure => simp [intOf]; omega
      · obtain rfl : j = d := by omega
        obtain ⟨q, hq⟩ : ∃ q, q = u / p := ⟨_, rfl⟩
        obtain ⟨r, hr⟩ : ∃ r, r = u % p := ⟨_, rfl⟩
        have hqu : q ≤ 1099511627776 := by rw [hq]; exact Nat.le_trans (Nat.div_le_self _ _) hul
        have hru : r ≤ 1099511627776 := by rw [hr]; exact Nat.le_trans (Nat.mod_le _ _) hul
        have hqw : wrap64 ((u : Int) / (p : Int)) = (q : Int) := by
          rw [show ((u : Int) / (p : Int)) = (q : Int) by rw [hq]; rfl]
          unfold wrap64; omega
        have hrw : ((u : Int) % (p : Int)) = (r : Int) := by rw [hr]; rfl
        obtain ⟨X, hX⟩ : ∃ X : ByteArray, X = ⟨(padL 1 q).toArray⟩ := ⟨_, rfl⟩
        have HX : Hid (∀ W, Calls Tryz.prog 76 #[.int .i64 (q : Int), .int .i64 1] W fun e w' => e = .returned (.string X) ∧ Below W.heap.size W w') := fun W => by rw [hX]; exact HW.out q 1 hqu (by omega) (by omega) W
        have hXs : X.size ≤ 13 := by
          rw [hX]
          show (padL 1 q).toArray.size ≤ 13
          rw [List.size_toArray, padL_one]
          exact dec_le13 hqu
        have HXE := Lib.hid hX
        have HQ := Lib.hid hq
        have HR := Lib.hid hr
        clear hX hlt hq hr
        by_cases hd0 : j = 0
        · subst hd0
          have HE : Hid (S = c ++ ⟨#[32]⟩ ++ ⟨#[45]⟩ ++ X) := by
            show S = _
            have h1 : p = 1 := HP.out
            have h2 : q = u := by rw [HQ.out, h1, Nat.div_one]
            rw [HS2.out, HXE.out, padL_one, signL_neg hpos, h2]
            apply ByteArray.ext
            simp [amtL]
          go_wp2_with fail
          (with_reducible refine (HX.out _).mono ?_)
          rintro e w3 ⟨rfl, hb3⟩
          have HB3 : Hid (Below w.heap.size w w3) := (Go.Sup.below_drewN HB.out _).trans (hb3.mono (by simp; exact HB.out.size))
          clear hb3
          go_wp2
          go_ret
          exact ⟨by rw [HE.out]; rfl, HB3.out⟩
        · have hd1 : (0 : Int) < (j : Int) := by omega
          obtain ⟨Y, hY⟩ : ∃ Y : ByteArray, Y = ⟨(padL j r).toArray⟩ := ⟨_, rfl⟩
          have HYC : Hid (∀ W, Calls Tryz.prog 76 #[.int .i64 (r : Int), .int .i64 (j : Int)] W fun e w' => e = .returned (.string Y) ∧ Below W.heap.size W w') := fun W => by rw [hY]; exact HW.out r j hru (by omega) hd W
          have hYs : Y.size ≤ 13 := by
            rw [hY]
            show (padL j r).toArray.size ≤ 13
            rw [List.size_toArray, padL_len]
            have := dec_le13 hru
            omega
          have HE : Hid (S = c ++ ⟨#[32]⟩ ++ ⟨#[45]⟩ ++ X ++ (⟨#[46]⟩ ++ Y)) := by
            show S = _
            rw [HS2.out, HXE.out, hY, padL_one, signL_neg hpos, HQ.out, HR.out, HP.out]
            apply ByteArray.ext
            simp [amtL, hd0]
          clear hY hd0
          go_wp2_with fail
          (with_reducible refine (HX.out _).mono ?_)
          rintro e w3 ⟨rfl, hb3⟩
          have HB3 : Hid (Below w.heap.size w w3) := (Go.Sup.below_drewN HB.out _).trans (hb3.mono (by simp; exact HB.out.size))
          clear hb3
          go_wp2_with fail
          (with_reducible refine (HYC.out _).mono ?_)
          rintro e w4 ⟨rfl, hb4⟩
          have HB4 : Hid (Below w.heap.size w w4) := HB3.out.trans (hb4.mono HB3.out.size)
          clear hb4
          go_wp2
          go_ret
          exact ⟨by rw [HE.out]; rfl, HB4.out⟩
end Go.Proofs.YtlffpelkmdcckaaGreatDoor

/- Money's text: the program's. Printed by wip/tools/gen_mont.py. -/
namespace Go.Proofs.YtlffpelkmdcckaaGreatDoor
open Go Go.RowKit Go.Sup Go.Lib
set_option maxRecDepth 100000
theorem ext_take (P : ByteArray) (a : Nat) : (P.extract 0 a).data.toList = P.data.toList.take a := by
  simp [ByteArray.data_extract]
theorem ext_drop (P : ByteArray) (a : Nat) : (P.extract a P.size).data.toList = P.data.toList.drop a := by
  have : P.data.toList.length = P.size := Array.length_toList
  simp [ByteArray.data_extract]
  rw [List.take_of_length_le (by simp [this])]
theorem padL_ge {k u : Nat} (h : k ≤ (decDigits u).length) : padL k u = decDigits u := by
  unfold padL
  rw [show k - (decDigits u).length = 0 by omega]; rfl
theorem repeat48 (q : Nat) : Lib.repeatL (⟨#[48]⟩ : ByteArray).data.toList q = List.replicate q 48 := by
  induction q with
  | zero => rfl
  | succ q ih => rw [List.replicate_succ]; show 48 :: Lib.repeatL _ q = _; rw [ih]
set_option maxHeartbeats 1000000 in
theorem mtext_any (c : ByteArray) (n : Int) (w : World) (hP : Lib.TabIs Tryz.prog w "internal/strconv.uint64pow10" .u64 Lib.pow10Tab) : Calls Tryz.prog 104 #[.agg #[.string c, .int .i64 n]] w fun e w' => e = .returned (.string (monS c n)) ∧ Below w.heap.size w w' := by
  have HM := Lib.hid (fun W => mmay_any c n W)
  have HS : Hid (monS c n = if monOk c n then ⟨(monL c n).toArray⟩ else ⟨#[]⟩) := rfl
  obtain ⟨S, hS⟩ : ∃ S, S = monS c n := ⟨_, rfl⟩
  rw [← hS] at HS ⊢
  rcases hb : monOk c n with _ | _
  · rw [hb] at HM HS
    have he : S = ⟨#[]⟩ := HS.out
    subst he
    clear HS hS hb hP
    go_enter Tryz.func104, Tryz.ntmps104
    go_wp2_with fail
    refine (HM.out _).mono ?_
    rintro e w1 ⟨rfl, hb1⟩
    have HB : Hid (Below w.heap.size w w1) := ((Below.refl _ _).alloc (Nat.le_refl _) _).trans (hb1.mono (by simp))
    clear hb1
    go_wp2
    go_ret
    exact ⟨rfl, HB.out⟩
  have hok := hb
  unfold monOk curOk amtOk at hok
  simp only [Bool.and_eq_true, decide_eq_true_eq] at hok
  obtain ⟨⟨h3, -⟩, h4, h5⟩ := hok
  have hc3 : c.size = 3 := by rw [← h3]; exact Array.length_toList.symm
  have HD := Lib.hid (fun W => mdigits_any c W)
  rw [hb] at HM HS
  obtain ⟨u, hu⟩ : ∃ u, u = n.natAbs := ⟨_, rfl⟩
  have hd : scale c = 0 ∨ scale c = 2 ∨ scale c = 3 := scale_cases c
  have hul : u ≤ 1099511627776 := by omega
  have HS2 : Hid (S = ⟨(c.data.toList ++ 32 :: (signL n ++ amtL (scale c) u)).toArray⟩) := by rw [hu]; exact HS.out
  obtain ⟨d, hde⟩ : ∃ d, d = scale c := ⟨_, rfl⟩
  rw [← hde] at HD HS2 hd
  obtain ⟨D, hD⟩ : ∃ D : ByteArray, D = ⟨(decDigits u).toArray⟩ := ⟨_, rfl⟩
  have HFM : Hid (∀ W, Below w.heap.size w W → Calls Tryz.prog 106 #[.int .i64 (u : Int), .int .i64 10] W fun e w' => e = .returned (.string D) ∧ Below W.heap.size W w') := fun W h => by
    refine (Tryz.strconv_FormatInt_10 u (by omega) (by omega) W (var_below hP h)).mono ?_
    rintro e w' ⟨rfl, k, os, rfl⟩
    rw [itoa_nonneg, hD]
    exact ⟨rfl, Lib.below_grow _ W (Nat.le_refl _) k os⟩
  have HDE := Lib.hid hD
  have hDs : D.size ≤ 13 ∧ 1 ≤ D.size := by
    rw [hD]
    show (decDigits u).toArray.size ≤ 13 ∧ 1 ≤ (decDigits u).toArray.size
    rw [List.size_toArray]
    exact ⟨dec_le13 hul, dec_pos u⟩
  obtain ⟨hDs, hDs1⟩ := hDs
  have hcas : n = (u : Int) ∨ (n = -(u : Int) ∧ 0 < u) := by omega
  clear HS hS hb h4 h5 h3 hu hde hD hP
  rcases hcas with rfl | ⟨rfl, hpos⟩
  · have hun : (u : Int) ≤ 1099511627776 := by omega
    go_enter Tryz.func104, Tryz.ntmps104
    go_wp2_with fail
    refine (HM.out _).mono ?_
    rintro e w1 ⟨rfl, hb1⟩
    have HB : Hid (Below w.heap.size w w1) := ((Below.refl _ _).alloc (Nat.le_refl _) _).trans (hb1.mono (by simp))
    obtain ⟨z0, z1⟩ := bcell hb1
    have hsz : w.heap.size < w1.heap.size := by have := hb1.size; simp at this; omega
    have x0 : w1.cell? ⟨w.heap.size, 0, none⟩ = some (.string c) := (z0 w.heap.size 0 (by simp)).trans (by go_simp)
    have x1 : w1.cell? ⟨w.heap.size, 1, none⟩ = some (.int .i64 (u : Int)) := (z0 w.heap.size 1 (by simp)).trans (by go_simp)
    clear hb1 z0 z1
    go_wp2_with fail
    go_quiet (fail)
    have HB1 : Hid (Below w.heap.size w (w1.drewN nq)) := Go.Sup.below_drewN HB.out _
    go_wp2_with fail
    refine (HD.out _).mono ?_
    rintro e w2 ⟨rfl, rfl⟩
    go_wp2_with fail
    (with_reducible refine (HFM.out _ HB1.out).mono ?_)
    rintro e w3 ⟨rfl, hb3⟩
    have HB3 : Hid (Below w.heap.size w w3) := HB1.out.trans (hb3.mono HB1.out.size)
    have x3 : w3.cell? ⟨w.heap.size, 0, none⟩ = some (.string c) := ((bcell hb3).1 w.heap.size 0 (by simpa using hsz)).trans x0
    have hsz3 : w.heap.size < w3.heap.size := Nat.lt_of_lt_of_le hsz (by have := hb3.size; simpa using this)
    clear hb3 x0 x1
    by_cases hd0 : d = 0
    · subst hd0
      have HE : Hid (S = c ++ ⟨#[32]⟩ ++ ⟨#[]⟩ ++ D) := by
        show S = _
        rw [HS2.out, HDE.out, signL_pos u]
        apply ByteArray.ext
        simp [amtL]
      go_wp2_with fail
      go_ret
      exact ⟨by rw [HE.out]; first | rfl | simp, HB3.out⟩
    · have hd23 : d = 2 ∨ d = 3 := by omega
      have hdI : ((d : Int) == 0) = false := by simp [hd0]
      have hdp : 0 < d := by omega
      have hd4 : d ≤ 3 := by omega
      by_cases hl : D.size < d + 1
      · obtain ⟨q, hq⟩ : ∃ q, q = d + 1 - D.size := ⟨_, rfl⟩
        have hqI : (d : Int) + 1 - (D.size : Int) = (q : Int) := by omega
        have hq0 : 0 < q := by omega
        have hq0' : (0 : Int) < (q : Int) := by omega
        have hqs : q ≤ 3 := by omega
        obtain ⟨Z, hZ⟩ : ∃ Z : ByteArray, Z = ⟨(Lib.repeatL (⟨#[48]⟩ : ByteArray).data.toList q).toArray⟩ := ⟨_, rfl⟩
        have HRP : Hid (∀ W, Calls Tryz.prog 118 #[.string ⟨#[48]⟩, .int .i64 (q : Int)] W fun e w' => e = .returned (.string Z) ∧ Below W.heap.size W w') := fun W => by
          rw [hZ]
          exact Tryz.strings_Repeat ⟨#[48]⟩ q W (by omega) (by show 1 * q ≤ _; omega)
        have hZl : Z.data.toList = List.replicate q 48 := by rw [hZ]; exact repeat48 q
        have hZs : Z.size = q := by
          have : Z.data.toList.length = Z.size := Array.length_toList
          rw [← this, hZl, List.length_replicate]
        obtain ⟨P, hPP⟩ : ∃ P, P = Z ++ D := ⟨_, rfl⟩
        have HPE : Hid (P.data.toList = padL (d + 1) u) := by
          show _ = _
          have hdl : (decDigits u).length = D.size := by rw [HDE.out]; simp [ByteArray.size]
          unfold padL
          rw [hPP, ByteArray.data_append, Array.toList_append, hZl, hdl, ← hq, HDE.out]
        have hPs : P.size = q + D.size := by rw [hPP, ByteArray.size_append, hZs]
        have hPs2 : P.size ≤ 20 := by omega
        have hPs3 : d ≤ P.size := by omega
        have no : ¬ 9223372036854775807 < Z.size + D.size := by omega
        have HPP := Lib.hid hPP
        have HPS := Lib.hid hPs
        clear hq hZ hZl hPP hPs hZs
        go_wp2_with fail
        (with_reducible refine (HRP.out _).mono ?_)
        rintro e w4 ⟨rfl, hb4⟩
        have HB4 : Hid (Below w.heap.size w w4) := HB3.out.trans (hb4.mono HB3.out.size)
        have x4 : w4.cell? ⟨w.heap.size, 0, none⟩ = some (.string c) := ((bcell hb4).1 w.heap.size 0 hsz3).trans x3
        clear hb4 x3 hqI hq0 hq0'
        have hZD : Z ++ D = P := HPP.out.symm
        obtain ⟨a, ha⟩ : ∃ a, a = P.size - d := ⟨_, rfl⟩
        have haI : (P.size : Int) - (d : Int) = (a : Int) := by omega
        have haN : a ≤ P.size := by omega
        have HE : Hid (S = c ++ ⟨#[32]⟩ ++ ⟨#[]⟩ ++ P.extract 0 a ++ ⟨#[46]⟩ ++ P.extract a P.size) := by
          show S = _
          rw [HS2.out, ← amt_cut d u (by omega), ← HPE.out]
          have hl : P.data.toList.length = P.size := Array.length_toList
          rw [hl, ← ha]
          apply ByteArray.ext
          simp only [ByteArray.data_append]
          apply Array.toList_inj.1
          simp only [Array.toList_append, ext_take, ext_drop]
          rw [signL_pos u]
          simp
        have hx1 : (P.extract 0 a).size ≤ 20 := by rw [ByteArray.size_extract]; omega
        have hx2 : (P.extract a P.size).size ≤ 20 := by rw [ByteArray.size_extract]; omega
        clear ha
        go_wp2_with fail
        go_quiet (fail)
        go_wp2_with fail
        go_ret
        exact ⟨by rw [HE.out]; first | rfl | simp, Go.Sup.below_drewN HB4.out _⟩
      · have HPE : Hid (D.data.toList = padL (d + 1) u) := by
          have hdl : (decDigits u).length = D.size := by rw [HDE.out]; simp [ByteArray.size]
          show _ = _
          rw [padL_ge (by omega), HDE.out]
        have hPs3 : d ≤ D.size := by omega
        have hlI : (d : Int) + 1 - (D.size : Int) ≤ 0 := by omega
        have hlI2 : ¬ (0 : Int) < (d : Int) + 1 - (D.size : Int) := by omega
        obtain ⟨a, ha⟩ : ∃ a, a = D.size - d := ⟨_, rfl⟩
        have haI : (D.size : Int) - (d : Int) = (a : Int) := by omega
        have haN : a ≤ D.size := by omega
        have HE : Hid (S = c ++ ⟨#[32]⟩ ++ ⟨#[]⟩ ++ D.extract 0 a ++ ⟨#[46]⟩ ++ D.extract a D.size) := by
          show S = _
          rw [HS2.out, ← amt_cut d u (by omega), ← HPE.out]
          have hl : D.data.toList.length = D.size := Array.length_toList
          rw [hl, ← ha]
          apply ByteArray.ext
          simp only [ByteArray.data_append]
          apply Array.toList_inj.1
          simp only [Array.toList_append, ext_take, ext_drop]
          rw [signL_pos u]
          simp
        have hx1 : (D.extract 0 a).size ≤ 20 := by rw [ByteArray.size_extract]; omega
        have hx2 : (D.extract a D.size).size ≤ 20 := by rw [ByteArray.size_extract]; omega
        clear ha
        go_wp2_with fail
        go_quiet (fail)
        go_wp2_with fail
        go_ret
        exact ⟨by rw [HE.out]; first | rfl | simp, Go.Sup.below_drewN HB3.out _⟩
  · have hun : (u : Int) ≤ 1099511627776 := by omega
    have hu1 : (0 : Int) < (u : Int) := by omega
    go_enter Tryz.func104, Tryz.ntmps104
    go_wp2_with fail
    refine (HM.out _).mono ?_
    rintro e w1 ⟨rfl, hb1⟩
    have HB : Hid (Below w.heap.size w w1) := ((Below.refl _ _).alloc (Nat.le_refl _) _).trans (hb1.mono (by simp))
    obtain ⟨z0, z1⟩ := bcell hb1
    have hsz : w.heap.size < w1.heap.size := by have := hb1.size; simp at this; omega
    have x0 : w1.cell? ⟨w.heap.size, 0, none⟩ = some (.string c) := (z0 w.heap.size 0 (by simp)).trans (by go_simp)
    have x1 : w1.cell? ⟨w.heap.size, 1, none⟩ = some (.int .i64 (-(u : Int))) := (z0 w.heap.size 1 (by simp)).trans (by go_simp)
    clear hb1 z0 z1
    go_wp2_with fail
    go_quiet (fail)
    have HB1 : Hid (Below w.heap.size w (w1.drewN nq)) := Go.Sup.below_drewN HB.out _
    go_wp2_with fail
    refine (HD.out _).mono ?_
    rintro e w2 ⟨rfl, rfl⟩
    go_wp2_with fail
    (with_reducible refine (HFM.out _ HB1.out).mono ?_)
    rintro e w3 ⟨rfl, hb3⟩
    have HB3 : Hid (Below w.heap.size w w3) := HB1.out.trans (hb3.mono HB1.out.size)
    have x3 : w3.cell? ⟨w.heap.size, 0, none⟩ = some (.string c) := ((bcell hb3).1 w.heap.size 0 (by simpa using hsz)).trans x0
    have hsz3 : w.heap.size < w3.heap.size := Nat.lt_of_lt_of_le hsz (by have := hb3.size; simpa using this)
    clear hb3 x0 x1
    by_cases hd0 : d = 0
    · subst hd0
      have HE : Hid (S = c ++ ⟨#[32]⟩ ++ ⟨#[45]⟩ ++ D) := by
        show S = _
        rw [HS2.out, HDE.out, signL_neg hpos]
        apply ByteArray.ext
        simp [amtL]
      go_wp2_with fail
      go_ret
      exact ⟨by rw [HE.out]; first | rfl | simp, HB3.out⟩
    · have hd23 : d = 2 ∨ d = 3 := by omega
      have hdI : ((d : Int) == 0) = false := by simp [hd0]
      have hdp : 0 < d := by omega
      have hd4 : d ≤ 3 := by omega
      by_cases hl : D.size < d + 1
      · obtain ⟨q, hq⟩ : ∃ q, q = d + 1 - D.size := ⟨_, rfl⟩
        have hqI : (d : Int) + 1 - (D.size : Int) = (q : Int) := by omega
        have hq0 : 0 < q := by omega
        have hq0' : (0 : Int) < (q : Int) := by omega
        have hqs : q ≤ 3 := by omega
        obtain ⟨Z, hZ⟩ : ∃ Z : ByteArray, Z = ⟨(Lib.repeatL (⟨#[48]⟩ : ByteArray).data.toList q).toArray⟩ := ⟨_, rfl⟩
        have HRP : Hid (∀ W, Calls Tryz.prog 118 #[.string ⟨#[48]⟩, .int .i64 (q : Int)] W fun e w' => e = .returned (.string Z) ∧ Below W.heap.size W w') := fun W => by
          rw [hZ]
          exact Tryz.strings_Repeat ⟨#[48]⟩ q W (by omega) (by show 1 * q ≤ _; omega)
        have hZl : Z.data.toList = List.replicate q 48 := by rw [hZ]; exact repeat48 q
        have hZs : Z.size = q := by
          have : Z.data.toList.length = Z.size := Array.length_toList
          rw [← this, hZl, List.length_replicate]
        obtain ⟨P, hPP⟩ : ∃ P, P = Z ++ D := ⟨_, rfl⟩
        have HPE : Hid (P.data.toList = padL (d + 1) u) := by
          show _ = _
          have hdl : (decDigits u).length = D.size := by rw [HDE.out]; simp [ByteArray.size]
          unfold padL
          rw [hPP, ByteArray.data_append, Array.toList_append, hZl, hdl, ← hq, HDE.out]
        have hPs : P.size = q + D.size := by rw [hPP, ByteArray.size_append, hZs]
        have hPs2 : P.size ≤ 20 := by omega
        have hPs3 : d ≤ P.size := by omega
        have no : ¬ 9223372036854775807 < Z.size + D.size := by omega
        have HPP := Lib.hid hPP
        have HPS := Lib.hid hPs
        clear hq hZ hZl hPP hPs hZs
        go_wp2_with fail
        (with_reducible refine (HRP.out _).mono ?_)
        rintro e w4 ⟨rfl, hb4⟩
        have HB4 : Hid (Below w.heap.size w w4) := HB3.out.trans (hb4.mono HB3.out.size)
        have x4 : w4.cell? ⟨w.heap.size, 0, none⟩ = some (.string c) := ((bcell hb4).1 w.heap.size 0 hsz3).trans x3
        clear hb4 x3 hqI hq0 hq0'
        have hZD : Z ++ D = P := HPP.out.symm
        obtain ⟨a, ha⟩ : ∃ a, a = P.size - d := ⟨_, rfl⟩
        have haI : (P.size : Int) - (d : Int) = (a : Int) := by omega
        have haN : a ≤ P.size := by omega
        have HE : Hid (S = c ++ ⟨#[32]⟩ ++ ⟨#[45]⟩ ++ P.extract 0 a ++ ⟨#[46]⟩ ++ P.extract a P.size) := by
          show S = _
          rw [HS2.out, ← amt_cut d u (by omega), ← HPE.out]
          have hl : P.data.toList.length = P.size := Array.length_toList
          rw [hl, ← ha]
          apply ByteArray.ext
          simp only [ByteArray.data_append]
          apply Array.toList_inj.1
          simp only [Array.toList_append, ext_take, ext_drop]
          rw [signL_neg hpos]
          simp
        have hx1 : (P.extract 0 a).size ≤ 20 := by rw [ByteArray.size_extract]; omega
        have hx2 : (P.extract a P.size).size ≤ 20 := by rw [ByteArray.size_extract]; omega
        clear ha
        go_wp2_with fail
        go_quiet (fail)
        go_wp2_with fail
        go_ret
        exact ⟨by rw [HE.out]; first | rfl | simp, Go.Sup.below_drewN HB4.out _⟩
      · have HPE : Hid (D.data.toList = padL (d + 1) u) := by
          have hdl : (decDigits u).length = D.size := by rw [HDE.out]; simp [ByteArray.size]
          show _ = _
          rw [padL_ge (by omega), HDE.out]
        have hPs3 : d ≤ D.size := by omega
        have hlI : (d : Int) + 1 - (D.size : Int) ≤ 0 := by omega
        have hlI2 : ¬ (0 : Int) < (d : Int) + 1 - (D.size : Int) := by omega
        obtain ⟨a, ha⟩ : ∃ a, a = D.size - d := ⟨_, rfl⟩
        have haI : (D.size : Int) - (d : Int) = (a : Int) := by omega
        have haN : a ≤ D.size := by omega
        have HE : Hid (S = c ++ ⟨#[32]⟩ ++ ⟨#[45]⟩ ++ D.extract 0 a ++ ⟨#[46]⟩ ++ D.extract a D.size) := by
          show S = _
          rw [HS2.out, ← amt_cut d u (by omega), ← HPE.out]
          have hl : D.data.toList.length = D.size := Array.length_toList
          rw [hl, ← ha]
          apply ByteArray.ext
          simp only [ByteArray.data_append]
          apply Array.toList_inj.1
          simp only [Array.toList_append, ext_take, ext_drop]
          rw [signL_neg hpos]
          simp
        have hx1 : (D.extract 0 a).size ≤ 20 := by rw [ByteArray.size_extract]; omega
        have hx2 : (D.extract a D.size).size ≤ 20 := by rw [ByteArray.size_extract]; omega
        clear ha
        go_wp2_with fail
        go_quiet (fail)
        go_wp2_with fail
        go_ret
        exact ⟨by rw [HE.out]; first | rfl | simp, Go.Sup.below_drewN HB3.out _⟩
end Go.Proofs.YtlffpelkmdcckaaGreatDoor

/- 09: post.sum; post.Fields. -/
namespace Go.Proofs.YtlffpelkmdcckaaGreatDoor
open Go Go.RowKit Go.Sup
set_option maxRecDepth 100000
/-- A letter's sum as text. -/
def sumS (c : ByteArray) (n : Int) : ByteArray := if noSum c n then ⟨#[]⟩ else monS c n
theorem sumS_le (c : ByteArray) (n : Int) : (sumS c n).size ≤ 22 := by
  unfold sumS
  split
  · decide
  · exact monS_le c n
set_option maxHeartbeats 800000 in
theorem msum_any (c : ByteArray) (n : Int) (w : World) (hP : Lib.TabIs Tryz.prog w "internal/strconv.uint64pow10" .u64 Lib.pow10Tab) : Calls Tryz.prog 74 #[.agg #[.string c, .int .i64 n]] w fun e w' => e = .returned (.string (sumS c n)) ∧ Below w.heap.size w w' := by
  have e30 : Tryz.prog.eqGuardType Tryz.prog.depth 30 = false := by kernel_rfl
  have hq : ∀ W, (binOp .eql 30 (.agg #[.string c, .int .i64 n]) (.agg #[.string ⟨#[]⟩, .int .i64 0])).run Tryz.prog W = .ok (.bool (decide (c = ⟨#[]⟩) && decide (n = 0))) W := fun W => run_eqM _ _ _ _ W
  have HT : Hid (∀ W, Below w.heap.size w W → Calls Tryz.prog 104 #[.agg #[.string c, .int .i64 n]] W fun e w' => e = .returned (.string (monS c n)) ∧ Below W.heap.size W w') := fun W h => mtext_any c n W (var_below hP h)
  have HS : Hid (sumS c n = if noSum c n then ⟨#[]⟩ else monS c n) := rfl
  have HN : Hid (noSum c n = (decide (c = ⟨#[]⟩) && decide (n = 0))) := rfl
  obtain ⟨S, hS⟩ : ∃ S, S = sumS c n := ⟨_, rfl⟩
  rw [← hS] at HS ⊢
  rcases hz : (decide (c = ⟨#[]⟩) && decide (n = 0)) with _ | _
  · have HE : Hid (S = monS c n) := by show S = _; rw [HS.out, HN.out, hz]; rfl
    rw [hz] at hq
    clear hz HS HN hS hP
    go_enter Tryz.func74, Tryz.ntmps74
    go_wp2_with fail
    (with_reducible refine (HT.out _ ((Below.refl _ _).alloc (Nat.le_refl _) _)).mono ?_)
    rintro e w1 ⟨rfl, hb1⟩
    have HB : Hid (Below w.heap.size w w1) := ((Below.refl _ _).alloc (Nat.le_refl _) _).trans (hb1.mono (by simp))
    clear hb1
    go_wp2
    go_ret
    exact ⟨by rw [HE.out]; rfl, HB.out⟩
  · have HE : Hid (S = ⟨#[]⟩) := by show S = _; rw [HS.out, HN.out, hz]; rfl
    rw [hz] at hq
    clear hz HS HN hS hP
    go_enter Tryz.func74, Tryz.ntmps74
    go_wp2
    go_ret
    exact ⟨by rw [HE.out]; rfl, (Below.refl _ _).alloc (Nat.le_refl _) _⟩
/-- A letter's record, or none. -/
def fld9 (l : LetD) : List Fld := if letMay l then rec9 l (sumS l.cur l.amount) else []
set_option maxHeartbeats 2000000 in
theorem pflds_any (l : LetD) (hl : SmallL l) (w : World) (B : Nat) (v : Value) (hv : LetC w B l v) (hB : B ≤ w.heap.size) (hT : TabW w) (hP : Lib.TabIs Tryz.prog w "internal/strconv.uint64pow10" .u64 Lib.pow10Tab) :
    Calls Tryz.prog 19 #[v] w fun e w' => ∃ v', e = .returned v' ∧ SlC w' w'.heap.size 2 ((fld9 l).map frow) v' ∧ Below w.heap.size w w' := by
  have HM : Hid (∀ W, Below w.heap.size w W → Calls Tryz.prog 16 #[v] W fun e w' => e = .returned (.bool (letMay l)) ∧ Below W.heap.size W w') := fun W h => may9_any l hl W B v (hv.below (h.mono hB)) (Nat.le_trans hB h.size) (hT.below h)
  have HR : Hid (letMay l = true → ∀ W, Below w.heap.size w W → Calls Tryz.prog 51 #[v] W fun e w' => ∃ v', e = .returned v' ∧ SlC w' w'.heap.size 2 ((rec9 l (sumS l.cur l.amount)).map frow) v' ∧ Below W.heap.size W w') := fun hm W h => by
    obtain ⟨-, -, d8, b8⟩ := rec9_may (ms := sumS l.cur l.amount) hm (by have := sumS_le l.cur l.amount; omega)
    exact rec9_any l (sumS l.cur l.amount) hl (letMay_parts hm).2.1 (by omega) (by omega) W B v (hv.below (h.mono hB)) (Nat.le_trans hB h.size) (hT.below h) (var_below hP h) (fun W' h' => msum_any _ _ W' (var_below (var_below hP h) h'))
  have HX : Hid (fld9 l = if letMay l then rec9 l (sumS l.cur l.amount) else []) := rfl
  obtain ⟨dv, bv, rfl, da, sa⟩ := hv
  obtain ⟨Ad, cd, rfl, -⟩ := da.form
  obtain ⟨Ab, cb, rfl, -⟩ := id sa
  rw [List.length_map] at HM HR ⊢
  obtain ⟨X, hX⟩ : ∃ X, X = fld9 l := ⟨_, rfl⟩
  obtain ⟨R, hR⟩ : ∃ R, R = rec9 l (sumS l.cur l.amount) := ⟨_, rfl⟩
  rw [← hX] at HX ⊢
  rw [← hR] at HR HX
  clear hX hR hl hT hP da sa hB
  rcases hm : letMay l with _ | _
  · rw [hm] at HM HX
    have h1 : X = [] := HX.out
    subst h1
    clear HR HX hm
    obtain ⟨l0, l1, l2, l3, l4, l5, l6, l7, l8, l9, l10, l11, ld, lb⟩ := l
    simp only [LetD.val] at *
    go_enter Tryz.func19, Tryz.ntmps19
    go_wp2_with fail
    (with_reducible refine (HM.out _ ((Below.refl _ _).alloc (Nat.le_refl _) _)).mono ?_)
    rintro e w1 ⟨rfl, hb1⟩
    have HB : Hid (Below w.heap.size w w1) := ((Below.refl _ _).alloc (Nat.le_refl _) _).trans (hb1.mono (by simp))
    clear hb1
    go_wp2
    go_ret
    exact ⟨_, rfl, SlC.nil_ _ _ _, HB.out⟩
  · have HR2 := Lib.hid (HR.out hm)
    rw [hm] at HM HX
    have h1 : X = R := HX.out
    subst h1
    clear HR HX hm
    obtain ⟨l0, l1, l2, l3, l4, l5, l6, l7, l8, l9, l10, l11, ld, lb⟩ := l
    simp only [LetD.val] at *
    go_enter Tryz.func19, Tryz.ntmps19
    go_wp2_with fail
    (with_reducible refine (HM.out _ ((Below.refl _ _).alloc (Nat.le_refl _) _)).mono ?_)
    rintro e w1 ⟨rfl, hb1⟩
    have HB : Hid (Below w.heap.size w w1) := ((Below.refl _ _).alloc (Nat.le_refl _) _).trans (hb1.mono (by simp))
    obtain ⟨z0, z1⟩ := bcell hb1
    have k0 : w1.cell? ⟨w.heap.size, 0, none⟩ = some (.string l0) := (z0 w.heap.size 0 (by simp)).trans (by go_simp)
    have k1 : w1.cell? ⟨w.heap.size, 1, none⟩ = some (.string l1) := (z0 w.heap.size 1 (by simp)).trans (by go_simp)
    have k2 : w1.cell? ⟨w.heap.size, 2, none⟩ = some (.int .i64 l2) := (z0 w.heap.size 2 (by simp)).trans (by go_simp)
    have k3 : w1.cell? ⟨w.heap.size, 3, none⟩ = some (.int .i64 l3) := (z0 w.heap.size 3 (by simp)).trans (by go_simp)
    have k4 : w1.cell? ⟨w.heap.size, 4, none⟩ = some (.int .i64 l4) := (z0 w.heap.size 4 (by simp)).trans (by go_simp)
    have k5 : w1.cell? ⟨w.heap.size, 5, none⟩ = some (.string l5) := (z0 w.heap.size 5 (by simp)).trans (by go_simp)
    have k6 : w1.cell? ⟨w.heap.size, 6, none⟩ = some (.string l6) := (z0 w.heap.size 6 (by simp)).trans (by go_simp)
    have k7 : w1.cell? ⟨w.heap.size, 7, none⟩ = some (.string l7) := (z0 w.heap.size 7 (by simp)).trans (by go_simp)
    have k8 : w1.cell? ⟨w.heap.size, 8, none⟩ = some (.int .i64 l8) := (z0 w.heap.size 8 (by simp)).trans (by go_simp)
    have k9 : w1.cell? ⟨w.heap.size, 9, none⟩ = some (.int .i64 l9) := (z0 w.heap.size 9 (by simp)).trans (by go_simp)
    have k10 : w1.cell? ⟨w.heap.size, 10, none⟩ = some (.string l10) := (z0 w.heap.size 10 (by simp)).trans (by go_simp)
    have k11 : w1.cell? ⟨w.heap.size, 11, none⟩ = some (.int .i64 l11) := (z0 w.heap.size 11 (by simp)).trans (by go_simp)
    have k12 : w1.cell? ⟨w.heap.size, 12, none⟩ = some (.slice Ad ld.length cd) := (z0 w.heap.size 12 (by simp)).trans (by go_simp)
    have k13 : w1.cell? ⟨w.heap.size, 13, none⟩ = some (.slice Ab lb.length cb) := (z0 w.heap.size 13 (by simp)).trans (by go_simp)
    clear hb1 z0 z1
    go_wp2_with fail
    refine (HR2.out _ HB.out).mono ?_
    rintro e w2 ⟨v', rfl, hs2, hb2⟩
    have HB2 : Hid (Below w.heap.size w w2) := HB.out.trans (hb2.mono HB.out.size)
    have HS2 := Lib.hid hs2
    clear hb2 hs2
    go_wp2
    go_ret
    exact ⟨_, rfl, HS2.out, HB2.out⟩
end Go.Proofs.YtlffpelkmdcckaaGreatDoor

/- 09: the referee's number; the head of the referee's record. -/
namespace Go.Proofs.YtlffpelkmdcckaaGreatDoor
open Go Go.RowKit Go.Sup
set_option maxRecDepth 100000
set_option maxHeartbeats 800000 in
theorem rnum_any (s : ByteArray) (n : Int) (h0 : -9223372036854775808 ≤ n) (h1 : n ≤ 9223372036854775807) (w : World) : Calls Tryz.prog 53 #[.string s, .int .i64 n] w fun e w' => e = .returned (.agg #[.string s, .string (digS n)]) ∧ Below w.heap.size w w' := by
  have HD := Lib.hid (fun W => digits_any n.natAbs n W (Nat.le_refl _) h0 h1)
  clear h0 h1
  go_enter Tryz.func53, Tryz.ntmps53
  go_wp2_with fail
  (with_reducible refine (HD.out _).mono ?_)
  rintro e w1 ⟨rfl, hb1⟩
  obtain ⟨z0, z1⟩ := bcell hb1
  have hsz : w.heap.size < w1.heap.size := by have := hb1.size; simp at this; omega
  have HB : Hid (Below w.heap.size w w1) := ((Below.refl _ _).alloc (Nat.le_refl _) _).trans (hb1.mono (by simp))
  clear hb1
  go_wp2
  have c0 : w1.cell? ⟨w.heap.size, 0, none⟩ = some (.string ⟨#[]⟩) := (z0 w.heap.size 0 (by simp)).trans (by go_simp)
  have c1 : w1.cell? ⟨w.heap.size, 1, none⟩ = some (.string ⟨#[]⟩) := (z0 w.heap.size 1 (by simp)).trans (by go_simp)
  exact bodyPost_ret (v := .agg #[.string s, .string (digS n)]) (by simp [results, Tryz.results53, go_sem, c0, c1]) rfl ⟨rfl, (HB.out.setCell (Nat.le_refl _) _).setCell (Nat.le_refl _) _⟩
end Go.Proofs.YtlffpelkmdcckaaGreatDoor

/- A region that draws its order, walked by hand: one operation taken first; a call that comes up alone; what is held made more on the way. -/
namespace Go.Sup
open Go
section
variable {P : Program} {md : Region.Mode} {ops : Array Oper} {Q : Exit → Act → World → Prop} {S S2 : World → Prop}
theorem takeL {i : Nat} {oi : Oper} {v : Value} {fuel : Nat} {listed : Array Bool} {a : Act} {w : World} (hi : ops.toList[i]? = some oi)
    (hs : Region.noSelect ops = true) (hf : Region.free md ops listed i = true) (hr : (Region.ready md ops listed).contains i = true)
    (hQ : ∀ c a w, Q (.panic c) (a.put oi.dst v) w → Q (.panic c) a w) (hy : YieldsIf P ops S oi v a) (hS : S w)
    (h : wpAnyH P md ops Q S fuel (listed.setIfInBounds i true) (a.put oi.dst v) w) : wpAnyH P md ops Q S (fuel + 1) listed a w :=
  wpAnyH_take (by simpa using hi) hs hf hr hQ hy hS h
theorem callL {i : Nat} {o : Oper} {fuel : Nat} {listed : Array Bool} {a : Act} {w : World} (ho : ops.toList[i]? = some o) (hr : Region.ready md ops listed = [i])
    (h : ∀ K' : Act → World → Prop, Shut (∀ a w, S w → (S w → wpAnyH P md ops Q S fuel (listed.setIfInBounds i true) a w) → K' a w) → if Region.wanted o (yielded ops a.tmps) = true then Oper.wp P o a w K' Q else K' (a.put o.dst undef) w) :
    wpAnyH P md ops Q S (fuel + 1) listed a w :=
  wpAnyH_ready hr (by simp) (AllReadyH.cons (by simpa using ho) h AllReadyH.nil)
/-- What is held may become more on the way. -/
theorem switchL (h : ∀ w, S2 w → S w) : ∀ (fuel : Nat) (listed : Array Bool) (a : Act) (w : World), wpAnyH P md ops Q S2 fuel listed a w → wpAnyH P md ops Q S fuel listed a w
  | 0, _, _, _, hh => hh
  | fuel + 1, _, _, _, hh => ⟨hh.1, fun i hi => wpOp_mono (fun a' w' h' => ⟨h _ h'.1, switchL h fuel _ a' w' h'.2⟩) (hh.2 i hi)⟩
end
end Go.Sup
