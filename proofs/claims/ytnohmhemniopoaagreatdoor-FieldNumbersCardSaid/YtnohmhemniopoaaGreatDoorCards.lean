/-
  DERIVED. GIVEN WITH THE SEED: THE CARDS: each row of YtnohmhemniopoaaGreatDoorRows.lean that lists a variable, with what it lists TIED to the program's text (the seventh form; the later family's looks); each row that meets fmt, with fmt's text TOLD by the authors' own Lean function (tested against real Go, not proved from fmt's source: count such statements apart). THE CARD IS WHAT COUNTS. Prove the row's statement (the work); the ties are given (YtnohmhemniopoaaGreatDoorTie.lean); close each card by the builder's one call (the guide's Derived/Test/ToyasCard.lean, 'card_holds'). Laid BY PROGRAM, IN A SANDBOX (cutbox-door.mjs). By AI agents, Wed Nov 11 2026. No macro, syntax, notation, axiom, sorry.
-/
import Derived.Test.YtnohmhemniopoaaGreatDoorRows
import GoSem.ClaimSeven
namespace Go.Proofs.YtnohmhemniopoaaGreatDoor
namespace Rows

/-- THE TIED CARD OF 'supercargolaw05.FieldNumbers'. -/
def fieldNumbersCard : Claim7 := { stood := { row := fieldNumbersRow, standIns := [], harness := (true, "3e1e67b46966add321b5a039432a80d9735ee7250fa538d32e4ea53ae86e9f61"), looks := true }, kinds := [], alts := [], laidByText := true, laidKinds := [.data, .data, .data, .sentinel, .sentinel], laidTests := true, laidLooks := .later }
def FieldNumbersCardSaid : Prop := Claim7.holds Tryz.pinned (.plain (OpenSpec.ofChange fieldNumbersSpec)) fieldNumbersCard

/-- THE SECOND FORM's CARD OF 'supercargolaw05.FieldNumbers'. -/
def fieldNumbersUptoCard : Claim7 := { stood := { row := fieldNumbersUptoRow, standIns := [], harness := (true, "3e1e67b46966add321b5a039432a80d9735ee7250fa538d32e4ea53ae86e9f61"), looks := true }, kinds := [], alts := [], laidByText := true, laidKinds := [.data, .data, .data, .sentinel, .sentinel], laidTests := true, laidLooks := .later }
def FieldNumbersUptoCardSaid : Prop := Claim7.holds Tryz.pinned (.plain (OpenSpec.upto fieldNumbersSpec)) fieldNumbersUptoCard
end Rows
end Go.Proofs.YtnohmhemniopoaaGreatDoor
