/- The two banks of the waking test. -/
import Derived.Test.YtmjkkmfjpppehaaDoorPair
import Derived.Test.YtmjkkmfjpppehaaDoorRemits
namespace Go.Proofs.YtmjkkmfjpppehaaDoor
open Go.RowKit Go.Sup
set_option maxRecDepth 100000
def booked (L : LG) (text : ByteArray) (x : List EntryD) : LG := ⟨L.owner, L.accts.map (upd (chL x)), L.posts ++ [⟨((L.posts.length + 1 : Nat) : Int), text, x⟩], L.holds⟩
def opened (L : LG) (a c : ByteArray) (fl : Int) : LG := { L with accts := L.accts ++ [((a, c), ⟨fl, 0, 0⟩)] }
/-- A ledger all of whose blocks lie at B or above. -/
structure LedHi (B : Nat) (w : World) (b m h : Nat) (pv : Value) (L : LG) : Prop where
  at_ : LedAt w b m h pv L
  hb : B ≤ b
  hm : B ≤ m
  hh : B ≤ h
  ho : ∀ g, pv.ownBlock = some g → B ≤ g
section
variable {B : Nat} {w w' : World} {b m h : Nat} {pv : Value} {L : LG}
theorem LedHi.below (H : LedHi B w b m h pv L) (hb : Below w.heap.size w w') : LedHi B w' b m h pv L := ⟨H.at_.below hb, H.hb, H.hm, H.hh, H.ho⟩
theorem open_hi (H : LedHi B w b m h pv L) (hB : B ≤ w.heap.size) (a c : ByteArray) (ha : GoodN a) (hc : GoodC c) (fl : Int) (hf1 : -1099511627776 ≤ fl) (hf2 : fl ≤ 0) (hn : ∀ p ∈ L.accts, p.1 ≠ (a, c)) (hl : L.accts.length < 4096) :
    Calls Tryd.prog 13 #[.pointer (some ⟨b, 0, none⟩), .string a, .string c, .int .i64 fl] w fun e w' => e = .returned (.int .i64 0) ∧ LedHi B w' b m h pv (opened L a c fl) ∧ Turns [m] w w' ∧ Below B w w' := by
  refine (open_any w b m h pv L H.at_ a c ha hc fl hf1 hf2 hn hl).mono ?_
  rintro e w' ⟨rfl, h1, h2⟩
  exact ⟨rfl, ⟨h1, H.hb, H.hm, H.hh, H.ho⟩, h2, h2.to_below hB (by simpa using H.hm)⟩
theorem post_hi (H : LedHi B w b m h pv L) (hB : B ≤ w.heap.size) (text : ByteArray) (x : List EntryD) (v : Value) (hx : SlC w w.heap.size 3 (x.map EntryD.row) v) (hf : Fine L text x) (hb : Bears L x) :
    Calls Tryd.prog 21 #[.pointer (some ⟨b, 0, none⟩), .string text, v] w fun e w' => ∃ n : Int, e = .returned (.tuple #[.int .i64 n, .int .i64 0]) ∧
      ∃ pv', LedHi B w' b m h pv' (booked L text x) ∧ Turns (b :: m :: pv.ownBlock.toList) w w' ∧ Below B w w' := by
  refine (post_any w b m h pv L H.at_ text x v hx hf hb).mono ?_
  rintro e w' ⟨rfl, ⟨pv', h1, h2⟩, h3⟩
  refine ⟨_, rfl, pv', ⟨h1, H.hb, H.hm, H.hh, fun g hg => ?_⟩, h3, h3.to_below hB fun i hi => ?_⟩
  · rcases h2 with h2 | ⟨g', h2, h4⟩
    · exact H.ho g (h2 ▸ hg)
    · rw [h2] at hg; injection hg with hg; omega
  · simp at hi
    rcases hi with rfl | rfl | hi
    · exact H.hb
    · exact H.hm
    · exact H.ho i hi
/-- What another ledger turns leaves this one as it is. -/
theorem LedAt.beside {bA mA hA : Nat} {pvA : Value} {LA : LG} (H : LedAt w b m h pv L) (HA : LedAt w bA mA hA pvA LA) (hT : Turns (bA :: mA :: pvA.ownBlock.toList) w w') (h1 : bA ≠ b) (h2 : mA ≠ m) (h3 : mA ≠ h) (h4 : pv.ownBlock = none ∨ pvA.ownBlock = none) : LedAt w' b m h pv L := by
  obtain ⟨es, clock, hm0, _⟩ := H.accts
  obtain ⟨es', clock', hh0, _⟩ := H.holds
  obtain ⟨es2, clock2, hm2, _⟩ := HA.accts
  obtain ⟨rows, _, hro⟩ := HA.posts
  obtain ⟨rows2, _, hro2⟩ := H.posts
  have own : ∀ g, pvA.ownBlock = some g → g ≠ b ∧ g ≠ m ∧ g ≠ h ∧ ∀ cur f, w.heap[g]? ≠ some (.cells cur 57 f) := by
    intro g hg
    obtain ⟨cur, hc⟩ := OwnC.typed hro hg
    refine ⟨fun e => ?_, fun e => ?_, fun e => ?_, fun cur f e => ?_⟩
    · rw [e, H.cells] at hc; injection hc with hc; injection hc with _ ht; cases ht
    · rw [e, hm0] at hc; cases hc
    · rw [e, hh0] at hc; cases hc
    · rw [e] at hc; injection hc with hc; injection hc with _ ht; cases ht
  refine H.turns hT ?_ ?_ ?_ ?_ ?_
  · simp only [List.mem_cons, Option.mem_toList, not_or]
    refine ⟨Ne.symm h1, fun e => ?_, fun hg => (own _ hg).1 rfl⟩
    rw [← e, H.cells] at hm2; cases hm2
  · simp only [List.mem_cons, Option.mem_toList, not_or]
    refine ⟨fun e => ?_, Ne.symm h2, fun hg => (own _ hg).2.1 rfl⟩
    rw [e, HA.cells] at hm0; cases hm0
  · simp only [List.mem_cons, Option.mem_toList, not_or]
    refine ⟨fun e => ?_, Ne.symm h3, fun hg => (own _ hg).2.2.1 rfl⟩
    rw [e, HA.cells] at hh0; cases hh0
  · intro g hg
    simp only [List.mem_cons, Option.mem_toList, not_or]
    obtain ⟨cur, hc⟩ := OwnC.typed hro2 hg
    refine ⟨fun e => ?_, fun e => ?_, fun h => ?_⟩
    · rw [e, HA.cells] at hc; injection hc with hc; injection hc with _ ht; cases ht
    · rw [e, hm2] at hc; cases hc
    · rcases h4 with h4 | h4
      · rw [h4] at hg; cases hg
      · rw [h4] at h; cases h
  · intro i hi cur f
    simp only [List.mem_cons, Option.mem_toList] at hi
    rcases hi with rfl | rfl | hi
    · exact HA.kinds _ (by simp) cur f
    · exact HA.kinds _ (by simp) cur f
    · exact (own i hi).2.2.2 cur f
theorem LedAt.notIn (H : LedAt w b m h pv L) {i : Nat} {cs : Array Value} {ty : TypeId} {f : Nat × Nat} (hi : w.heap[i]? = some (.cells cs ty f)) (h70 : ty ≠ 70) (h89 : ty ≠ 89) : i ∉ b :: m :: pv.ownBlock.toList := by
  obtain ⟨es, clock, hm0, _⟩ := H.accts
  obtain ⟨rows, _, hro⟩ := H.posts
  simp only [List.mem_cons, Option.mem_toList, not_or]
  refine ⟨fun e => ?_, fun e => ?_, fun e => ?_⟩
  · rw [e, H.cells] at hi; injection hi with hi; injection hi with _ ht; exact h70 ht.symm
  · rw [e, hm0] at hi; cases hi
  · obtain ⟨cur, hc⟩ := OwnC.typed hro e
    rw [hc] at hi; injection hi with hi; injection hi with _ ht; exact h89 ht.symm
end
def nX : ByteArray := ⟨#[120]⟩
def nVB : ByteArray := ⟨#[118, 111, 115, 116, 114, 111, 58, 98]⟩
def nNA : ByteArray := ⟨#[110, 111, 115, 116, 114, 111, 58, 97]⟩
def nY : ByteArray := ⟨#[121]⟩
def cEUR : ByteArray := ⟨#[69, 85, 82]⟩
def cUSD : ByteArray := ⟨#[85, 83, 68]⟩
def tPay : ByteArray := ⟨#[112, 97, 121]⟩
def tRemit : ByteArray := ⟨#[114, 101, 109, 105, 116]⟩
theorem goodX : GoodN nX := ⟨by decide, by decide, by kernel_rfl⟩
theorem goodVB : GoodN nVB := ⟨by decide, by decide, by kernel_rfl⟩
theorem goodNA : GoodN nNA := ⟨by decide, by decide, by kernel_rfl⟩
theorem goodY : GoodN nY := ⟨by decide, by decide, by kernel_rfl⟩
theorem goodEUR : GoodC cEUR := ⟨by decide, by kernel_rfl⟩
theorem goodUSD : GoodC cUSD := ⟨by decide, by kernel_rfl⟩
def LA (k : Nat) : LG := match k with
  | 0 => ⟨⟨#[97]⟩, [((nX, cEUR), ⟨-1099511627776, 0, 0⟩), ((nVB, cEUR), ⟨0, 0, 0⟩)], [], []⟩
  | 1 => ⟨⟨#[97]⟩, [((nX, cEUR), ⟨-1099511627776, -30, 0⟩), ((nVB, cEUR), ⟨0, 30, 0⟩)], [⟨1, tPay, pair nX nVB cEUR (-30)⟩], []⟩
  | _ => ⟨⟨#[97]⟩, [((nX, cEUR), ⟨-1099511627776, -50, 0⟩), ((nVB, cEUR), ⟨0, 50, 0⟩)], [⟨1, tPay, pair nX nVB cEUR (-30)⟩, ⟨2, tPay, pair nX nVB cEUR (-20)⟩], []⟩
def LB0 : LG := ⟨⟨#[98]⟩, [((nNA, cEUR), ⟨-1099511627776, 0, 0⟩), ((nY, cEUR), ⟨0, 0, 0⟩)], [], []⟩
theorem LA_one : booked (LA 0) tPay (pair nX nVB cEUR (-30)) = LA 1 := by kernel_rfl
theorem LA_two : booked (LA 1) tPay (pair nX nVB cEUR (-20)) = LA 2 := by kernel_rfl
theorem LA_fine1 : Fine (LA 0) tPay (pair nX nVB cEUR (-30)) ∧ Bears (LA 0) (pair nX nVB cEUR (-30)) :=
  ⟨pair_fine (s1 := ⟨-1099511627776, 0, 0⟩) (s2 := ⟨0, 0, 0⟩) (by decide) (by decide) (by kernel_rfl) (by kernel_rfl) ⟨by decide, by decide⟩ ⟨by decide, by decide⟩ (by omega) (by omega),
   pair_bears (s1 := ⟨-1099511627776, 0, 0⟩) (s2 := ⟨0, 0, 0⟩) (by decide) (by kernel_rfl) (by kernel_rfl) (by unfold Bear; simp only; omega) (by unfold Bear; simp only; omega)⟩
theorem LA_fine2 : Fine (LA 1) tPay (pair nX nVB cEUR (-20)) ∧ Bears (LA 1) (pair nX nVB cEUR (-20)) :=
  ⟨pair_fine (s1 := ⟨-1099511627776, -30, 0⟩) (s2 := ⟨0, 30, 0⟩) (by decide) (by decide) (by kernel_rfl) (by kernel_rfl) ⟨by decide, by decide⟩ ⟨by decide, by decide⟩ (by omega) (by omega),
   pair_bears (s1 := ⟨-1099511627776, -30, 0⟩) (s2 := ⟨0, 30, 0⟩) (by decide) (by kernel_rfl) (by kernel_rfl) (by unfold Bear; simp only; omega) (by unfold Bear; simp only; omega)⟩
theorem LB_fine (n : Int) (h1 : 0 ≤ n) (h2 : n ≤ 1000) : Fine LB0 tRemit (pair nNA nY cEUR (-n)) ∧ Bears LB0 (pair nNA nY cEUR (-n)) :=
  ⟨pair_fine (s1 := ⟨-1099511627776, 0, 0⟩) (s2 := ⟨0, 0, 0⟩) (by decide) (by decide) (by kernel_rfl) (by kernel_rfl) ⟨by decide, by decide⟩ ⟨by decide, by decide⟩ (by omega) (by omega),
   pair_bears (s1 := ⟨-1099511627776, 0, 0⟩) (s2 := ⟨0, 0, 0⟩) (by decide) (by kernel_rfl) (by kernel_rfl) (by unfold Bear; simp only; omega) (by unfold Bear; simp only; omega)⟩

set_option maxHeartbeats 2000000 in
theorem banks_any (n : Int) (h1 : 0 ≤ n) (h2 : n ≤ 1000) (w : World) : Calls Tryd.prog 20 #[.int .i64 n] w fun e w' => ∃ x y va vb, e = .returned (.tuple #[.pointer (some ⟨x, 0, none⟩), .pointer (some ⟨y, 0, none⟩)]) ∧ x < w'.heap.size ∧ y < w'.heap.size ∧
    w'.cell? ⟨x, 2, none⟩ = some va ∧ w'.cell? ⟨y, 2, none⟩ = some vb ∧ PostsAt w' w'.heap.size (LA 2).posts va ∧ PostsAt w' w'.heap.size [⟨1, tRemit, pair nNA nY cEUR (-n)⟩] vb ∧ Below w.heap.size w w' := by
  go_enter Tryd.func20, Tryd.ntmps20
  go_wp2_with fail
  refine (new_any _ _).mono ?_
  rintro e w1 ⟨bA, mA, hA, rfl, a1, a2, a3, HA0, hb1⟩
  have HA1 : Hid (LedHi w.heap.size w1 bA mA hA (.slice none 0 0) ⟨⟨#[97]⟩, [], [], []⟩) := ⟨HA0, a1, a2, a3, by simp [Value.ownBlock]⟩
  have sA : bA < w1.heap.size ∧ mA < w1.heap.size ∧ hA < w1.heap.size := ⟨HA0.blt, HA0.accts.lt, HA0.holds.lt⟩
  obtain ⟨sA1, sA2, sA3⟩ := sA
  have Hb1 := Lib.hid hb1
  clear HA0 hb1
  go_wp2_with fail
  refine (new_any _ _).mono ?_
  rintro e w2 ⟨bB, mB, hB, rfl, c1, c2, c3, HB0, hb2⟩
  have hs1 := Hb1.out.size
  have HA2 : Hid (LedHi w.heap.size w2 bA mA hA (.slice none 0 0) ⟨⟨#[97]⟩, [], [], []⟩) := HA1.out.below hb2
  have HB2 : Hid (LedHi w.heap.size w2 bB mB hB (.slice none 0 0) ⟨⟨#[98]⟩, [], [], []⟩) := ⟨HB0, by omega, by omega, by omega, by simp [Value.ownBlock]⟩
  have Hb2 : Hid (Below w.heap.size w w2) := Hb1.out.trans (hb2.mono (by omega))
  clear HB0 hb2 HA1 Hb1
  go_wp2_with fail
  refine (open_hi HA2.out Hb2.out.size nX cEUR goodX goodEUR (-1099511627776) (by omega) (by omega) (by simp [opened]) (by decide)).mono ?_
  rintro e w3 ⟨rfl, hL, hT, hb⟩
  have HA3 : Hid (LedHi w.heap.size w3 bA mA hA (.slice none 0 0) _) := hL
  have HB3 : Hid (LedHi w.heap.size w3 bB mB hB (.slice none 0 0) _) := ⟨LedAt.beside HB2.out.at_ HA2.out.at_ (hT.mono (by simp)) (by omega) (by omega) (by omega) (.inl rfl), HB2.out.hb, HB2.out.hm, HB2.out.hh, HB2.out.ho⟩
  have Hb3 : Hid (Below w.heap.size w w3) := Hb2.out.trans hb
  clear hL hT hb HA2 HB2 Hb2
  go_wp2_with fail
  refine (open_hi HA3.out Hb3.out.size nVB cEUR goodVB goodEUR 0 (by omega) (by omega) (by simp [opened]; decide) (by decide)).mono ?_
  rintro e w4 ⟨rfl, hL, hT, hb⟩
  have HA4 : Hid (LedHi w.heap.size w4 bA mA hA (.slice none 0 0) _) := hL
  have HB4 : Hid (LedHi w.heap.size w4 bB mB hB (.slice none 0 0) _) := ⟨LedAt.beside HB3.out.at_ HA3.out.at_ (hT.mono (by simp)) (by omega) (by omega) (by omega) (.inl rfl), HB3.out.hb, HB3.out.hm, HB3.out.hh, HB3.out.ho⟩
  have Hb4 : Hid (Below w.heap.size w w4) := Hb3.out.trans hb
  clear hL hT hb HA3 HB3 Hb3
  go_wp2_with fail
  refine (open_hi HB4.out Hb4.out.size nNA cEUR goodNA goodEUR (-1099511627776) (by omega) (by omega) (by simp [opened]) (by decide)).mono ?_
  rintro e w5 ⟨rfl, hL, hT, hb⟩
  have HB5 : Hid (LedHi w.heap.size w5 bB mB hB (.slice none 0 0) _) := hL
  have HA5 : Hid (LedHi w.heap.size w5 bA mA hA (.slice none 0 0) _) := ⟨LedAt.beside HA4.out.at_ HB4.out.at_ (hT.mono (by simp)) (by omega) (by omega) (by omega) (.inl rfl), HA4.out.hb, HA4.out.hm, HA4.out.hh, HA4.out.ho⟩
  have Hb5 : Hid (Below w.heap.size w w5) := Hb4.out.trans hb
  clear hL hT hb HB4 HA4 Hb4
  go_wp2_with fail
  refine (open_hi HB5.out Hb5.out.size nY cEUR goodY goodEUR 0 (by omega) (by omega) (by simp [opened]; decide) (by decide)).mono ?_
  rintro e w6 ⟨rfl, hL, hT, hb⟩
  have HB6 : Hid (LedHi w.heap.size w6 bB mB hB (.slice none 0 0) _) := hL
  have HA6 : Hid (LedHi w.heap.size w6 bA mA hA (.slice none 0 0) _) := ⟨LedAt.beside HA5.out.at_ HB5.out.at_ (hT.mono (by simp)) (by omega) (by omega) (by omega) (.inl rfl), HA5.out.hb, HA5.out.hm, HA5.out.hh, HA5.out.ho⟩
  have Hb6 : Hid (Below w.heap.size w w6) := Hb5.out.trans hb
  clear hL hT hb HB5 HA5 Hb5
  go_wp2_with fail
  have HA0 : Hid (LedHi w.heap.size w6 bA mA hA (.slice none 0 0) (LA 0)) := HA6.out
  have HB0 : Hid (LedHi w.heap.size w6 bB mB hB (.slice none 0 0) LB0) := HB6.out
  clear HA6 HB6
  go_loopw [20, 7] (fun i _ wr => ∃ k : Nat, k ≤ 2 ∧ i = .int .i64 k ∧ ∃ pvA, Hid (LedHi w.heap.size wr bA mA hA pvA (LA k)) ∧ Hid (LedHi w.heap.size wr bB mB hB (.slice none 0 0) LB0) ∧ Hid (wr.heap[w6.heap.size]? = some (.cells #[.int .i64 30, .int .i64 20] 2 (0, 0))) ∧ Hid (Below w.heap.size w wr)) (fun i _ _ => 2 - (intOf i).toNat)
  case atStart =>
    refine ⟨0, by omega, rfl, .slice none 0 0, HA0.out.below ((Below.refl _ _).alloc (Nat.le_refl _) _), HB0.out.below ((Below.refl _ _).alloc (Nat.le_refl _) _), heap_alloc_new w6 _, Hb6.out.alloc Hb6.out.size _⟩
  case round =>
    obtain ⟨k, hk, rfl, pvA, HA, HB, hds, hbel⟩ := hrel
    by_cases hlt : k < 2
    · have q0 : wr.cell? ⟨w6.heap.size, 0, none⟩ = some (.int .i64 30) := by simp [World.cell?, hds.out]
      have q1 : wr.cell? ⟨w6.heap.size, 1, none⟩ = some (.int .i64 20) := by simp [World.cell?, hds.out]
      have hk2 : k = 0 ∨ k = 1 := by omega
      rcases hk2 with rfl | rfl
      · go_wp2_with fail
        refine (post_hi (HA.out.below ((Below.refl _ _).alloc (Nat.le_refl _) _)) (by have := hbel.out.size; simp; omega) tPay (pair nX nVB cEUR (-30)) _ (SlC.litN ((pair nX nVB cEUR (-30)).map EntryD.row) (EntryD.rows_len _) rfl 57 wr.heap.size 2 _ rfl rfl (by simp) (by unfold maxLen; omega)) LA_fine1.1 LA_fine1.2).mono ?_
        rintro e w7 ⟨nn, rfl, pv', hL, hT, hb⟩
        have Hn : Hid (LedHi w.heap.size w7 bA mA hA pv' (LA 1) ∧ LedHi w.heap.size w7 bB mB hB (.slice none 0 0) LB0 ∧ w7.heap[w6.heap.size]? = some (.cells #[.int .i64 30, .int .i64 20] 2 (0, 0)) ∧ Below w.heap.size w w7) := by
          have HBa := HB.out.below (w' := wr.alloc (.cells #[.string ⟨#[120]⟩, .string ⟨#[69, 85, 82]⟩, .int .i64 (-30), .string ⟨#[118, 111, 115, 116, 114, 111, 58, 98]⟩, .string ⟨#[69, 85, 82]⟩, .int .i64 30] 57)) ((Below.refl _ _).alloc (Nat.le_refl _) _)
          have HAa := HA.out.below (w' := wr.alloc (.cells #[.string ⟨#[120]⟩, .string ⟨#[69, 85, 82]⟩, .int .i64 (-30), .string ⟨#[118, 111, 115, 116, 114, 111, 58, 98]⟩, .string ⟨#[69, 85, 82]⟩, .int .i64 30] 57)) ((Below.refl _ _).alloc (Nat.le_refl _) _)
          have hds' := (Below.heap_alloc wr (.cells #[.string ⟨#[120]⟩, .string ⟨#[69, 85, 82]⟩, .int .i64 (-30), .string ⟨#[118, 111, 115, 116, 114, 111, 58, 98]⟩, .string ⟨#[69, 85, 82]⟩, .int .i64 30] 57) _ (Array.getElem?_eq_some_iff.1 hds.out).1).trans hds.out
          refine ⟨by rw [← LA_one]; exact hL, ⟨LedAt.beside HBa.at_ HAa.at_ hT (by omega) (by omega) (by omega) (.inl rfl), HB.out.hb, HB.out.hm, HB.out.hh, HB.out.ho⟩, (hT.block _ (Array.getElem?_eq_some_iff.1 hds').1 (HAa.at_.notIn hds' (by decide) (by decide))).trans hds', (hbel.out.alloc hbel.out.size _).trans hb⟩
        clear hL hT hb
        go_wp2
        go_roundw
        case rel => exact ⟨1, by omega, by go_num, pv', Hn.out.1, Hn.out.2.1, Hn.out.2.2.1, Hn.out.2.2.2⟩
        case measure => simp [intOf]
      · go_wp2_with fail
        refine (post_hi (HA.out.below ((Below.refl _ _).alloc (Nat.le_refl _) _)) (by have := hbel.out.size; simp; omega) tPay (pair nX nVB cEUR (-20)) _ (SlC.litN ((pair nX nVB cEUR (-20)).map EntryD.row) (EntryD.rows_len _) rfl 57 wr.heap.size 2 _ rfl rfl (by simp) (by unfold maxLen; omega)) LA_fine2.1 LA_fine2.2).mono ?_
        rintro e w7 ⟨nn, rfl, pv', hL, hT, hb⟩
        have Hn : Hid (LedHi w.heap.size w7 bA mA hA pv' (LA 2) ∧ LedHi w.heap.size w7 bB mB hB (.slice none 0 0) LB0 ∧ w7.heap[w6.heap.size]? = some (.cells #[.int .i64 30, .int .i64 20] 2 (0, 0)) ∧ Below w.heap.size w w7) := by
          have HBa := HB.out.below (w' := wr.alloc (.cells #[.string ⟨#[120]⟩, .string ⟨#[69, 85, 82]⟩, .int .i64 (-20), .string ⟨#[118, 111, 115, 116, 114, 111, 58, 98]⟩, .string ⟨#[69, 85, 82]⟩, .int .i64 20] 57)) ((Below.refl _ _).alloc (Nat.le_refl _) _)
          have HAa := HA.out.below (w' := wr.alloc (.cells #[.string ⟨#[120]⟩, .string ⟨#[69, 85, 82]⟩, .int .i64 (-20), .string ⟨#[118, 111, 115, 116, 114, 111, 58, 98]⟩, .string ⟨#[69, 85, 82]⟩, .int .i64 20] 57)) ((Below.refl _ _).alloc (Nat.le_refl _) _)
          have hds' := (Below.heap_alloc wr (.cells #[.string ⟨#[120]⟩, .string ⟨#[69, 85, 82]⟩, .int .i64 (-20), .string ⟨#[118, 111, 115, 116, 114, 111, 58, 98]⟩, .string ⟨#[69, 85, 82]⟩, .int .i64 20] 57) _ (Array.getElem?_eq_some_iff.1 hds.out).1).trans hds.out
          refine ⟨by rw [← LA_two]; exact hL, ⟨LedAt.beside HBa.at_ HAa.at_ hT (by omega) (by omega) (by omega) (.inl rfl), HB.out.hb, HB.out.hm, HB.out.hh, HB.out.ho⟩, (hT.block _ (Array.getElem?_eq_some_iff.1 hds').1 (HAa.at_.notIn hds' (by decide) (by decide))).trans hds', (hbel.out.alloc hbel.out.size _).trans hb⟩
        clear hL hT hb
        go_wp2
        go_roundw
        case rel => exact ⟨2, by omega, by go_num, pv', Hn.out.1, Hn.out.2.1, Hn.out.2.2.1, Hn.out.2.2.2⟩
        case measure => simp [intOf]
    · have hk2 : k = 2 := by omega
      subst hk2
      clear HA0 HB0
      go_wp2_with fail
      refine (post_hi (HB.out.below ((Below.refl _ _).alloc (Nat.le_refl _) _)) (by have := hbel.out.size; simp; omega) tRemit (pair nNA nY cEUR (-n)) _ (SlC.litN ((pair nNA nY cEUR (-n)).map EntryD.row) (EntryD.rows_len _) (by simp [pair, EntryD.row, nNA, nY, cEUR]) 57 wr.heap.size 2 _ rfl rfl (by simp) (by unfold maxLen; omega)) (LB_fine n h1 h2).1 (LB_fine n h1 h2).2).mono ?_
      rintro e w7 ⟨nn, rfl, pv', hL, hT, hb⟩
      have HAa := HA.out.below (w' := wr.alloc (.cells #[.string ⟨#[110, 111, 115, 116, 114, 111, 58, 97]⟩, .string ⟨#[69, 85, 82]⟩, .int .i64 (-n), .string ⟨#[121]⟩, .string ⟨#[69, 85, 82]⟩, .int .i64 n] 57)) ((Below.refl _ _).alloc (Nat.le_refl _) _)
      have HBa := HB.out.below (w' := wr.alloc (.cells #[.string ⟨#[110, 111, 115, 116, 114, 111, 58, 97]⟩, .string ⟨#[69, 85, 82]⟩, .int .i64 (-n), .string ⟨#[121]⟩, .string ⟨#[69, 85, 82]⟩, .int .i64 n] 57)) ((Below.refl _ _).alloc (Nat.le_refl _) _)
      have hLA := LedAt.beside HAa.at_ HBa.at_ hT (by omega) (by omega) (by omega) (.inr rfl)
      have Hn : Hid (LedAt w7 bA mA hA pvA (LA 2) ∧ LedAt w7 bB mB hB pv' (booked LB0 tRemit (pair nNA nY cEUR (-n))) ∧ Below w.heap.size w w7) := ⟨hLA, hL.at_, (hbel.out.alloc hbel.out.size _).trans hb⟩
      clear hL hT hb HAa HBa hLA
      go_wp2
      go_ret2
      exact ⟨bA, bB, pvA, pv', rfl, Hn.out.1.blt, Hn.out.2.1.blt, Hn.out.1.c2, Hn.out.2.1.c2, Hn.out.1.postsAt, Hn.out.2.1.postsAt, Hn.out.2.2⟩
end Go.Proofs.YtmjkkmfjpppehaaDoor
