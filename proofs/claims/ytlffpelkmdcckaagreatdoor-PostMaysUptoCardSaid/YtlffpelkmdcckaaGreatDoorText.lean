/- field.Text: the text of a record. -/
import Derived.Test.YtlffpelkmdcckaaGreatDoorLine
import Derived.Test.YtlffpelkmdcckaaGreatDoorName
import Derived.Test.YtlffpelkmdcckaaGreatDoorBld
import Derived.Deep.DeepMust
namespace Go.Sup
open Go Go.RowKit
/-- A field's cells. -/
def frow (f : Fld) : List Value := [.string f.1, .string f.2]
def SmallF (f : Fld) : Prop := f.1.size ≤ 1000000 ∧ f.2.size ≤ 1000000
theorem frow_len (l : List Fld) : ∀ r ∈ l.map frow, r.length = 2 := by
  intro r hr
  obtain ⟨f, _, rfl⟩ := List.mem_map.1 hr
  rfl
theorem frow_one (l : List Fld) : ∀ r ∈ l.map frow, ∀ u ∈ r, u.oneCell' = true := by
  intro r hr u hu
  obtain ⟨f, _, rfl⟩ := List.mem_map.1 hr
  simp [frow] at hu
  rcases hu with rfl | rfl <;> rfl
/-- Field k of a slice that reads as l: its two cells. -/
theorem fld_at {w : World} {B : Nat} {l : List Fld} {A : Option Addr} {n c k : Nat} {f : Fld} (h : SlC w B 2 (l.map frow) (.slice A n c)) (hk : l[k]? = some f) :
    ∃ b off, A = some ⟨b, off, none⟩ ∧ b < B ∧ w.cell? ⟨b, off + k * 2, none⟩ = some (.string f.1) ∧ w.cell? ⟨b, off + k * 2 + 1, none⟩ = some (.string f.2) := by
  obtain ⟨b, off, ha, hb, hc⟩ := SlC.at_ h (k := k) (r := frow f) (by simp [hk])
  exact ⟨b, off, ha, hb, by simpa using hc 0 _ rfl, hc 1 _ rfl⟩
theorem textL_snoc (l : List Fld) (f : Fld) : textL (l ++ [f]) = textL l ++ lineL f := by simp [textL]
theorem lineL_le {f : Fld} (h : SmallF f) : (lineL f).length ≤ 3000002 := by
  obtain ⟨h1, h2⟩ := h
  unfold lineL
  rw [List.length_append, List.length_cons, List.length_append, escL_len, Array.length_toList, Array.length_toList]
  have h3 : f.2.data.toList.countP special ≤ f.2.data.toList.length := List.countP_le_length
  rw [Array.length_toList] at h3
  have e1 : f.1.data.size = f.1.size := rfl
  have e2 : f.2.data.size = f.2.size := rfl
  simp only [List.length_singleton]
  omega
theorem textL_le : ∀ (l : List Fld), (∀ f ∈ l, SmallF f) → (textL l).length ≤ l.length * 3000002
  | [], _ => by simp [textL]
  | f :: l, h => by
    have h1 := textL_le l (fun g hg => h g (by simp [hg]))
    have h2 := lineL_le (h f (by simp))
    rw [show textL (f :: l) = lineL f ++ textL l by simp [textL], List.length_append, List.length_cons]
    omega
end Go.Sup
namespace Go.Proofs.YtlffpelkmdcckaaGreatDoor
open Go Go.RowKit Go.Sup
set_option maxRecDepth 100000
set_option maxHeartbeats 2000000 in
theorem text_any (l : List Fld) (hs : ∀ f ∈ l, SmallF f) (w : World) (B : Nat) (v : Value) (hv : SlC w B 2 (l.map frow) v) (hB : B ≤ w.heap.size) :
    Calls Tryz.prog 59 #[v] w fun e w' => e = .returned (.tuple #[.string (textS l), .int .i64 (textE l)]) ∧ Below w.heap.size w w' := by
  obtain ⟨A, c, rfl, hn, hc, -⟩ := id hv
  rw [List.length_map] at hn hv ⊢
  unfold maxLen at hc
  have Hv := Lib.hid hv
  have Hs := Lib.hid hs
  clear hv hs
  by_cases h64 : 64 < l.length
  · have h64' : (64 : Int) < (l.length : Int) := by omega
    have HE : Hid (textE l = 7) := by show textE l = 7; simp [textE, h64]
    have HT : Hid (textS l = ⟨#[]⟩) := by show textS l = ⟨#[]⟩; unfold textS; rw [HE.out]; rfl
    clear h64
    go_enter Tryz.func59, Tryz.ntmps59
    go_wp2
    go_ret2
    exact ⟨by rw [HE.out, HT.out]; rfl, Below.refl _ _⟩
  · have h64' : ¬ (64 : Int) < (l.length : Int) := by omega
    go_enter Tryz.func59, Tryz.ntmps59
    go_wp2
    go_loopw [12] (fun i wr => ∃ k : Nat, k ≤ l.length ∧ i = .int .i64 k ∧ (∀ f ∈ l.take k, mayF f = true) ∧ Hid (IsBld w.heap.size w.heap.size (textL (l.take k)) wr ∧ Below w.heap.size w wr)) (fun i _ => l.length - (intOf i).toNat)
    case atStart => exact ⟨0, Nat.zero_le _, rfl, by simp, Lib.fresh_isBuilder _ _ _, (Below.refl _ _).alloc (Nat.le_refl _) _⟩
    case round =>
      obtain ⟨k, hk, rfl, hm, H⟩ := hrel
      have Hm := Lib.hid hm
      clear hm
      have hsz : w.heap.size < wr.heap.size := by
        rcases H.out.1 with h | h <;> exact h.lt
      by_cases hlt : k < l.length
      · have hlk : l[k]? = some l[k] := List.getElem?_eq_getElem hlt
        have HL : Hid (SlC wr B 2 (l.map frow) (.slice A l.length c)) := Hv.out.keep fun p hp => H.out.2.cell (by omega)
        obtain ⟨b0, off, rfl, hb0, c0, c1⟩ := fld_at HL.out hlk
        have hlt' : (k : Int) < (l.length : Int) := by omega
        obtain ⟨f, hf⟩ : ∃ f, f = l[k] := ⟨_, rfl⟩
        rw [← hf] at c0 c1
        have Hf := Lib.hid (And.intro hf hlk)
        clear hf hlk
        go_wp2_with fail
        refine (may_any f _).mono ?_
        rintro e w1 ⟨rfl, hb1⟩
        have k0 : w1.cell? ⟨wr.heap.size, 0, none⟩ = some (.string f.1) := ((bcell hb1).1 wr.heap.size _ (by simp)).trans (by go_simp)
        have k1 : w1.cell? ⟨wr.heap.size, 1, none⟩ = some (.string f.2) := ((bcell hb1).1 wr.heap.size _ (by simp)).trans (by go_simp)
        have hz1 : wr.heap.size < w1.heap.size := by have := hb1.size; simp at this; omega
        have HB1 : Hid (Below wr.heap.size wr w1) := ((Below.refl _ _).alloc (Nat.le_refl _) _).trans (hb1.mono (by simp))
        clear hb1
        cases hmf : mayF f
        · have HMF := Lib.hid hmf
          clear hmf
          have HE : Hid (textE l = 1) := by
            show textE l = 1
            unfold textE
            rw [if_neg (by omega), if_neg]
            intro h
            rw [List.all_eq_true] at h
            have := h f (by rw [Hf.out.1]; exact List.getElem_mem hlt)
            rw [HMF.out] at this
            cases this
          have HT : Hid (textS l = ⟨#[]⟩) := by show textS l = ⟨#[]⟩; unfold textS; rw [HE.out]; rfl
          go_wp2
          go_ret2
          exact ⟨by rw [HE.out, HT.out]; rfl, H.out.2.trans (HB1.out.mono (by omega))⟩
        · have HMF := Lib.hid hmf
          clear hmf
          have HS : Hid (SmallF f) := Hs.out f (by rw [Hf.out.1]; exact List.getElem_mem hlt)
          go_wp2_with fail
          refine (line_any f _ HS.out.2 HS.out.1).mono ?_
          rintro e w2 ⟨rfl, hb2⟩
          have HB2 : Hid (Below wr.heap.size wr w2) := HB1.out.trans (hb2.mono (by omega))
          have hz2 := hb2.size
          clear hb2
          have HI : Hid (IsBld w.heap.size w.heap.size (textL (l.take k)) w2) := H.out.1.below HB2.out
          have hle : (textL (l.take k)).length + (lineS f).size ≤ 1000000000 := by
            have h1 := textL_le (l.take k) (fun g hg => Hs.out g (List.mem_of_mem_take hg))
            have h2 := lineL_le HS.out
            have h3 : (lineS f).size = (lineL f).length := rfl
            have h4 : (l.take k).length ≤ 64 := by rw [List.length_take]; omega
            omega
          go_wp2_with fail
          refine (wstr_any _ _ _ _ _ HI.out hle (by omega)).mono ?_
          rintro e w3 ⟨rfl, hI3, hb3⟩
          have HI3 := Lib.hid (And.intro hI3 hb3)
          clear hI3 hb3 hle
          go_wp2
          go_roundw
          case rel =>
            refine ⟨k + 1, hlt, by go_num, ?_, ?_, ?_⟩
            · intro g hg
              rw [List.take_succ_eq_append_getElem hlt] at hg
              rcases List.mem_append.1 hg with hg | hg
              · exact Hm.out g hg
              · simp at hg; rw [hg, ← Hf.out.1]; exact HMF.out
            · rw [List.take_succ_eq_append_getElem hlt, textL_snoc, ← Hf.out.1]
              exact .inr HI3.out.1
            · exact (H.out.2.trans (HB2.out.mono (by omega))).trans HI3.out.2
          case measure => simp [intOf]; omega
      · obtain rfl : k = l.length := by omega
        have HE : Hid (textE l = 0) := by
          show textE l = 0
          unfold textE
          rw [if_neg (by omega), if_pos]
          rw [List.all_eq_true]
          have := Hm.out
          rw [List.take_length] at this
          exact this
        have HT : Hid (textS l = ⟨(textL l).toArray⟩) := by show textS l = ⟨(textL l).toArray⟩; unfold textS; rw [if_pos HE.out]
        have HI : Hid (IsBld w.heap.size w.heap.size (textL l) wr) := by have := H.out.1; rw [List.take_length] at this; exact this
        clear hlt hk
        go_wp2_with fail
        refine (Tryz.Builder_String_any _ _ _ _ HI.out (by omega)).mono ?_
        rintro e w1 ⟨rfl, hb1⟩
        have HB1 := Lib.hid hb1
        clear hb1
        go_wp2
        go_ret2
        exact ⟨by rw [HE.out, HT.out]; rfl, H.out.2.trans HB1.out⟩
end Go.Proofs.YtlffpelkmdcckaaGreatDoor
