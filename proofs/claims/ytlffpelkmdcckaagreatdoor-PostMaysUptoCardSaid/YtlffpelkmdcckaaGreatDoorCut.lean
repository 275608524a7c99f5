/- strings.Cut at one byte. -/
import Derived.Test.YtlffpelkmdcckaaGreatDoorFieldP
import Derived.Test.YtlffpelkmdcckaaGreatDoorShelf
import Derived.Lib.IndexBytes
namespace Go.Sup
open Go Go.RowKit
theorem indexByte_app (c : UInt8) : ∀ (l r : List UInt8), c ∉ l → Lib.indexByte (l ++ c :: r) c = (l.length : Int)
  | [], r, _ => by simp [Lib.indexByte]
  | b :: l, r, h => by
    simp at h
    have ih := indexByte_app c l r h.2
    have hb : (b == c) = false := by simp [Ne.symm h.1]
    simp only [List.cons_append, Lib.indexByte, hb, ih]
    have : ((l.length : Int) == -1) = false := by simp
    simp [this]
theorem indexByte_no (c : UInt8) : ∀ (l : List UInt8), c ∉ l → Lib.indexByte l c = -1
  | [], _ => rfl
  | b :: l, h => by
    simp at h
    have ih := indexByte_no c l h.2
    have hb : (b == c) = false := by simp [Ne.symm h.1]
    simp only [Lib.indexByte, hb, ih]
    rfl
theorem extract_l {s : ByteArray} {l m : List UInt8} (h : s.data.toList = l ++ m) : s.extract 0 l.length = ⟨l.toArray⟩ := by
  apply ByteArray.ext
  apply Array.toList_inj.1
  simp [h]
theorem extract_r {s : ByteArray} {l m : List UInt8} {c : UInt8} (h : s.data.toList = l ++ c :: m) : s.extract (l.length + 1) s.size = ⟨m.toArray⟩ := by
  apply ByteArray.ext
  apply Array.toList_inj.1
  have hs : s.size = l.length + 1 + m.length := by
    have : s.size = s.data.toList.length := by rw [Array.length_toList]; rfl
    rw [this, h]; simp; omega
  simp [h, hs]
end Go.Sup
namespace Go.Proofs.YtlffpelkmdcckaaGreatDoor
open Go Go.RowKit Go.Sup
set_option maxRecDepth 100000
set_option maxHeartbeats 800000 in
theorem lcut_yes (s : ByteArray) (c : UInt8) (l r : List UInt8) (w : World) (hs : s.size ≤ 1000000000) (h : cutAt c s.data.toList = some (l, r)) :
    Calls Tryz.prog 112 #[.string s, .string ⟨#[c]⟩] w fun e w' => e = .returned (.tuple #[.string ⟨l.toArray⟩, .string ⟨r.toArray⟩, .bool true]) ∧ ∃ n, w' = w.drewN n := by
  obtain ⟨e, hn⟩ := cutAt_some h
  have hi := indexByte_app c l r hn
  rw [← e] at hi
  have hl : l.length < s.size := by
    have : s.size = s.data.toList.length := by rw [Array.length_toList]; rfl
    rw [this, e]; simp
  have H := Lib.hid (And.intro hi (And.intro (extract_l e) (extract_r e)))
  clear e hn hi h
  go_enter Tryz.func112, Tryz.ntmps112
  go_wp2_with fail
  refine (Tryz.stringslite_Index_one s c _).mono ?_
  rintro e w1 ⟨rfl, rfl⟩
  rw [H.out.1]
  have hl' : (l.length : Int) < (s.size : Int) := by omega
  go_wp2
  go_quiet (fail)
  go_wp2
  go_ret3
  exact ⟨by rw [← H.out.2.1, ← H.out.2.2]; rfl, _, rfl⟩
set_option maxHeartbeats 800000 in
theorem lcut_no (s : ByteArray) (c : UInt8) (w : World) (h : cutAt c s.data.toList = none) :
    Calls Tryz.prog 112 #[.string s, .string ⟨#[c]⟩] w fun e w' => e = .returned (.tuple #[.string s, .string ⟨#[]⟩, .bool false]) ∧ ∃ n, w' = w.drewN n := by
  have H := Lib.hid (indexByte_no c _ (cutAt_none_iff h))
  clear h
  go_enter Tryz.func112, Tryz.ntmps112
  go_wp2_with fail
  refine (Tryz.stringslite_Index_one s c _).mono ?_
  rintro e w1 ⟨rfl, rfl⟩
  rw [H.out]
  go_wp2
  go_ret3
  exact ⟨rfl, 0, rfl⟩
set_option maxHeartbeats 800000 in
theorem cut_yes (s : ByteArray) (c : UInt8) (l r : List UInt8) (w : World) (hs : s.size ≤ 1000000000) (h : cutAt c s.data.toList = some (l, r)) :
    Calls Tryz.prog 94 #[.string s, .string ⟨#[c]⟩] w fun e w' => e = .returned (.tuple #[.string ⟨l.toArray⟩, .string ⟨r.toArray⟩, .bool true]) ∧ ∃ n, w' = w.drewN n := by
  have H := Lib.hid h
  clear h
  go_enter Tryz.func94, Tryz.ntmps94
  go_wp2_with fail
  refine (lcut_yes s c l r _ hs H.out).mono ?_
  rintro e w1 ⟨rfl, n, rfl⟩
  go_wp2
  go_ret3
  exact ⟨rfl, n, rfl⟩
set_option maxHeartbeats 800000 in
theorem cut_no (s : ByteArray) (c : UInt8) (w : World) (h : cutAt c s.data.toList = none) :
    Calls Tryz.prog 94 #[.string s, .string ⟨#[c]⟩] w fun e w' => e = .returned (.tuple #[.string s, .string ⟨#[]⟩, .bool false]) ∧ ∃ n, w' = w.drewN n := by
  have H := Lib.hid h
  clear h
  go_enter Tryz.func94, Tryz.ntmps94
  go_wp2_with fail
  refine (lcut_no s c _ H.out).mono ?_
  rintro e w1 ⟨rfl, n, rfl⟩
  go_wp2
  go_ret3
  exact ⟨rfl, n, rfl⟩
end Go.Proofs.YtlffpelkmdcckaaGreatDoor
