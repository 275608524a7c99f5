/- 09: the names of the kinds of letters. Printed by wip/tools/gen_names9.py. -/
import Derived.Test.YtlffpelkmdcckaaGreatDoorKinds
import Derived.Test.YtlffpelkmdcckaaGreatDoorShelf
import Derived.Lib.LaidTab
import Derived.Lib.AppendIntMem
import Derived.KernelRfl
namespace Go.Sup
open Go Go.RowKit
/-- The names of the kinds of letters. -/
def postL : List ByteArray := [⟨#[111, 114, 100, 101, 114]⟩, ⟨#[97, 112, 112, 108, 121]⟩, ⟨#[105, 115, 115, 117, 101, 100]⟩, ⟨#[100, 101, 99, 108, 105, 110, 101, 100]⟩, ⟨#[115, 104, 105, 112]⟩, ⟨#[108, 97, 100, 105, 110, 103]⟩, ⟨#[99, 111, 118, 101, 114]⟩, ⟨#[99, 111, 118, 101, 114, 101, 100]⟩, ⟨#[101, 110, 100, 111, 114, 115, 101]⟩, ⟨#[101, 110, 100, 111, 114, 115, 101, 100]⟩, ⟨#[112, 114, 101, 115, 101, 110, 116]⟩, ⟨#[114, 101, 102, 117, 115, 101, 100]⟩, ⟨#[97, 99, 99, 101, 112, 116, 101, 100]⟩, ⟨#[112, 97, 105, 100]⟩, ⟨#[112, 97, 112, 101, 114, 115]⟩, ⟨#[100, 101, 99, 108, 97, 114, 101]⟩, ⟨#[100, 117, 116, 121]⟩, ⟨#[116, 114, 97, 110, 115, 102, 101, 114]⟩, ⟨#[99, 114, 101, 100, 105, 116, 101, 100]⟩, ⟨#[114, 101, 108, 101, 97, 115, 101]⟩, ⟨#[115, 117, 114, 114, 101, 110, 100, 101, 114]⟩, ⟨#[100, 101, 108, 105, 118, 101, 114, 101, 100]⟩, ⟨#[111, 98, 106, 101, 99, 116, 101, 100]⟩, ⟨#[108, 111, 115, 116]⟩, ⟨#[114, 101, 112, 108, 97, 99, 101]⟩, ⟨#[114, 101, 112, 108, 97, 99, 101, 100]⟩, ⟨#[108, 97, 110, 100, 101, 100]⟩, ⟨#[114, 101, 109, 105, 116]⟩, ⟨#[97, 99, 107]⟩]
def postS : ByteArray := ⟨#[111, 114, 100, 101, 114, 32, 97, 112, 112, 108, 121, 32, 105, 115, 115, 117, 101, 100, 32, 100, 101, 99, 108, 105, 110, 101, 100, 32, 115, 104, 105, 112, 32, 108, 97, 100, 105, 110, 103, 32, 99, 111, 118, 101, 114, 32, 99, 111, 118, 101, 114, 101, 100, 32, 101, 110, 100, 111, 114, 115, 101, 32, 101, 110, 100, 111, 114, 115, 101, 100, 32, 112, 114, 101, 115, 101, 110, 116, 32, 114, 101, 102, 117, 115, 101, 100, 32, 97, 99, 99, 101, 112, 116, 101, 100, 32, 112, 97, 105, 100, 32, 112, 97, 112, 101, 114, 115, 32, 100, 101, 99, 108, 97, 114, 101, 32, 100, 117, 116, 121, 32, 116, 114, 97, 110, 115, 102, 101, 114, 32, 99, 114, 101, 100, 105, 116, 101, 100, 32, 114, 101, 108, 101, 97, 115, 101, 32, 115, 117, 114, 114, 101, 110, 100, 101, 114, 32, 100, 101, 108, 105, 118, 101, 114, 101, 100, 32, 111, 98, 106, 101, 99, 116, 101, 100, 32, 108, 111, 115, 116, 32, 114, 101, 112, 108, 97, 99, 101, 32, 114, 101, 112, 108, 97, 99, 101, 100, 32, 108, 97, 110, 100, 101, 100, 32, 114, 101, 109, 105, 116, 32, 97, 99, 107]⟩
theorem postL_len : postL.length = 29 := rfl
theorem postF : Lib.fields postS.data.toList = postL.map fun s => s.data.toList := by kernel_rfl
theorem postS_ascii (j : Nat) (b : UInt8) (h : postS.data.toList[j]? = some b) : b.toNat < 128 := by
  have hm : b ∈ postS.data.toList := List.mem_of_getElem? h
  have : ∀ b ∈ postS.data.toList, b.toNat < 128 := by decide +kernel
  exact this b hm
/-- A kind's name. -/
def postN (k : Int) : ByteArray := if 0 ≤ k then (postL[k.toNat]?).getD ⟨#[]⟩ else ⟨#[]⟩
theorem postN_in {k : Int} (h0 : 0 ≤ k) (h1 : k ≤ 28) : postL[k.toNat]? = some (postN k) := by
  unfold postN
  rw [if_pos h0, List.getElem?_eq_getElem (by rw [postL_len]; omega)]; rfl
theorem postN_out {k : Int} (h : k < 0 ∨ 28 < k) : postN k = ⟨#[]⟩ := by
  unfold postN
  rcases h with h | h
  · rw [if_neg (by omega)]
  · rw [if_pos (by omega), List.getElem?_eq_none (by rw [postL_len]; omega)]; rfl
end Go.Sup
namespace Go.Proofs.YtlffpelkmdcckaaGreatDoor
open Go Go.RowKit Go.Sup
set_option maxRecDepth 100000
/-- The library's table of blanks. -/
def TabW (w : World) : Prop := Lib.TabIs Tryz.prog w "strings.asciiSpace" .u8 Lib.asciiSpaceTab
theorem TabW.below {w w' : World} (h : TabW w) (hb : Below w.heap.size w w') : TabW w' := (Lib.tabBelow_of_tabIs h) w' hb
theorem flat_srow (l : List ByteArray) : (l.map srow).flatten = l.map fun s => Value.string s := by
  induction l with
  | nil => rfl
  | cons a l ih => simp [srow] at ih ⊢; exact ih
theorem fields_post (w : World) (hT : TabW w) : Calls Tryz.prog 63 #[.string postS] w fun e w' => ∃ v, e = .returned v ∧ SlC w' w'.heap.size 1 (postL.map srow) v ∧ Below w.heap.size w w' := by
  refine (Tryz.strings_Fields postS w (by decide) postS_ascii hT).mono ?_
  rw [postF]
  rintro e w' ⟨rfl, rfl⟩
  refine ⟨_, rfl, ?_, (Below.refl _ _).alloc (Nat.le_refl _) _⟩
  rw [List.length_map, List.map_map]
  exact SlC.litN (postL.map srow) (srow_len _) (by rw [flat_srow]; rfl) 9 w.heap.size 29 _ rfl rfl (by simp) (by decide)
set_option maxHeartbeats 800000 in
theorem names_any (w : World) (hT : TabW w) : Calls Tryz.prog 28 #[] w fun e w' => ∃ v, e = .returned v ∧ SlC w' w'.heap.size 1 (postL.map srow) v ∧ Below w.heap.size w w' := by
  have HF := Lib.hid (fields_post w hT)
  clear hT
  go_enter Tryz.func28, Tryz.ntmps28
  go_wp2_with fail
  refine HF.out.mono ?_
  rintro e w1 ⟨v, rfl, hv, hb⟩
  have HV := Lib.hid hv
  have HB := Lib.hid hb
  clear hv hb
  go_wp2_with fail
  go_ret
  exact ⟨_, rfl, HV.out, HB.out⟩
end Go.Proofs.YtlffpelkmdcckaaGreatDoor
