/- 09: the chapter's examples. -/
import Derived.Test.YtlffpelkmdcckaaGreatDoorTxt9
import Derived.Test.YtlffpelkmdcckaaGreatDoorCut
namespace Go.Proofs.YtlffpelkmdcckaaGreatDoor
open Go Go.RowKit Go.Sup
set_option maxRecDepth 100000
/-- What the rows' listed variables give. -/
structure W9 (w : World) : Prop where
  tab : TabW w
  pow : Lib.TabIs Tryz.prog w "internal/strconv.uint64pow10" .u64 Lib.pow10Tab
theorem W9.below {w w' : World} (h : W9 w) (hb : Below w.heap.size w w') : W9 w' := ⟨h.tab.below hb, var_below h.pow hb⟩
def ackL : LetD := ⟨⟨#[97]⟩, ⟨#[98]⟩, 0, 28, 3, ⟨#[]⟩, ⟨#[]⟩, ⟨#[]⟩, 0, 0, ⟨#[]⟩, 0, [], []⟩
theorem ackL_may : letMay ackL = true := by kernel_rfl
theorem ackL_small : SmallL ackL := fun d hd => by cases hd
def ackP : List UInt8 := [102, 114, 111, 109, 61, 97, 10, 116, 111, 61, 98, 10]
theorem ackL_text : ∃ m, 0 < m.length ∧ (txt9 ackL ⟨#[]⟩).data.toList = ackP ++ m := by
  have h : txt9 ackL ⟨#[]⟩ = ⟨(textL (rec9 ackL ⟨#[]⟩)).toArray⟩ := by
    obtain ⟨hf, h51, -, -⟩ := rec9_may (ms := ⟨#[]⟩) ackL_may (by decide)
    unfold txt9
    rw [ackL_may, if_pos rfl]
    unfold textS
    rw [if_pos (textE_zero.2 ⟨by omega, hf⟩)]
  rw [h]
  refine ⟨textL ((rec9 ackL ⟨#[]⟩).drop 2), ?_, ?_⟩
  · show 0 < (textL ((n9number, digS 0) :: _)).length
    show 0 < (lineL (n9number, digS 0) ++ _).length
    rw [List.length_append]
    have := line_pos (n9number, digS 0)
    omega
  · show (textL (rec9 ackL ⟨#[]⟩)).toArray.toList = _
    rfl
set_option maxHeartbeats 400000 in
theorem sum0_any (w : World) : Calls Tryz.prog 74 #[.agg #[.string ⟨#[]⟩, .int .i64 0]] w fun e w' => e = .returned (.string ⟨#[]⟩) ∧ Below w.heap.size w w' := by
  have e30 : Tryz.prog.eqGuardType Tryz.prog.depth 30 = false := by kernel_rfl
  have hq : ∀ W, (binOp .eql 30 (.agg #[.string ⟨#[]⟩, .int .i64 0]) (.agg #[.string ⟨#[]⟩, .int .i64 0])).run Tryz.prog W = .ok (.bool true) W := fun W => run_eqM _ _ _ _ W
  go_enter Tryz.func74, Tryz.ntmps74
  go_wp2
  go_ret
  exact ⟨rfl, (Below.refl _ _).alloc (Nat.le_refl _) _⟩
set_option maxHeartbeats 1000000 in
theorem awake9_any (w : World) (hW : W9 w) : Calls Tryz.prog 9 #[] w fun e w' => e = .returned (.bool true) ∧ Below w.heap.size w w' := by
  obtain ⟨S, hS⟩ : ∃ S, S = txt9 ackL ⟨#[]⟩ := ⟨_, rfl⟩
  have HT : Hid (∀ W, W9 W → Calls Tryz.prog 23 #[ackL.val (.slice none 0 0) (.slice none 0 0)] W fun e w' => e = .returned (.tuple #[.string S, .int .i64 0]) ∧ Below W.heap.size W w') := fun W h => by
    have := text9_any ackL ⟨#[]⟩ ackL_small (by decide) W W.heap.size _ ⟨_, _, rfl, DocsC.nil_ _ _, SlC.nil_ _ _ _⟩ (Nat.le_refl _) h.tab h.pow (fun _ W' _ => sum0_any W')
    rw [← hS, show txtE ackL = 0 by unfold txtE; rw [ackL_may]; rfl] at this
    exact this
  have HK : Hid (∀ W, W9 W → Calls Tryz.prog 11 #[.string ⟨#[97, 99, 107]⟩] W fun e w' => e = .returned (.tuple #[.int .i64 28, .bool true]) ∧ Below W.heap.size W w') := fun W h => by
    have := postKind_any ⟨#[97, 99, 107]⟩ W h.tab
    rw [show idxS postL ⟨#[97, 99, 107]⟩ = 28 by decide +kernel] at this
    exact this
  have HN : Hid (∀ W, W9 W → Calls Tryz.prog 12 #[.int .i64 0] W fun e w' => e = .returned (.string ⟨#[111, 114, 100, 101, 114]⟩) ∧ Below W.heap.size W w') := fun W h => postName_any 0 W h.tab
  obtain ⟨m, hm0, hm⟩ := ackL_text
  rw [← hS] at hm
  have hsz : S.size = 12 + m.length := by
    have : S.data.toList.length = S.size := Array.length_toList
    rw [← this, hm, List.length_append]; rfl
  have hx : S.extract 0 12 = ⟨#[102, 114, 111, 109, 61, 97, 10, 116, 111, 61, 98, 10]⟩ := extract_l hm
  have h12 : (12 : Int) < (S.size : Int) := by omega
  have h12' : 12 ≤ S.size := by omega
  have HW := Lib.hid hW
  clear hS hm hm0 hsz hW
  simp only [LetD.val, ackL] at HT
  go_enter Tryz.func9, Tryz.ntmps9
  go_wp2_with fail
  refine (HT.out _ HW.out).mono ?_
  rintro e w1 ⟨rfl, hb1⟩
  have HB := Lib.hid hb1
  have HW1 := Lib.hid (HW.out.below hb1)
  clear hb1
  go_wp2_with fail
  refine (HK.out _ HW1.out).mono ?_
  rintro e w2 ⟨rfl, hb2⟩
  have HB2 := Lib.hid (HB.out.trans (hb2.mono HB.out.size))
  have HW2 := Lib.hid (HW1.out.below hb2)
  clear hb2
  go_wp2_with fail
  refine (HN.out _ HW2.out).mono ?_
  rintro e w3 ⟨rfl, hb3⟩
  have HB3 := Lib.hid (HB2.out.trans (hb3.mono HB2.out.size))
  clear hb3
  go_wp2
  go_ret
  exact ⟨rfl, HB3.out⟩
end Go.Proofs.YtlffpelkmdcckaaGreatDoor
