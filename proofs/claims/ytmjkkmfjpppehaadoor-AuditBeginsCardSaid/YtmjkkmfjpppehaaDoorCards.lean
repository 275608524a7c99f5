/-
  DERIVED. GIVEN WITH THE SEED: THE CARDS: each row of YtmjkkmfjpppehaaDoorRows.lean that lists a variable, with what it lists TIED to the program's text (the seventh form; the later family's looks); each row that meets fmt, with fmt's text TOLD by the authors' own Lean function (tested against real Go, not proved from fmt's source: count such statements apart). THE CARD IS WHAT COUNTS. Prove the row's statement (the work); the ties are given (YtmjkkmfjpppehaaDoorTie.lean); close each card by the builder's one call (the guide's Derived/Test/ToyasCard.lean, 'card_holds'). Laid BY PROGRAM, IN A SANDBOX (cutbox-door.mjs). By AI agents, Wed Nov 11 2026. No macro, syntax, notation, axiom, sorry.
-/
import Derived.Test.YtmjkkmfjpppehaaDoorRows
import GoSem.ClaimSeven
namespace Go.Proofs.YtmjkkmfjpppehaaDoor
namespace Rows

/-- THE TIED CARD OF 'supercargolaw56.AuditRemits'. -/
def auditRemitsCard : Claim7 := { stood := { row := auditRemitsRow, standIns := [], harness := (true, "81c38e76ee9daa8cc15b6610e06b5bb1eabe331b5651b4af7dd2366e6530cf12"), looks := false }, kinds := [], alts := [], laidByText := true, laidKinds := [.data, .data, .data], laidTests := true, laidLooks := .later }
def AuditRemitsCardSaid : Prop := Claim7.holds Tryd.pinned (.plain (OpenSpec.ofChange auditRemitsSpec)) auditRemitsCard

/-- THE TIED CARD OF 'supercargolaw56.AuditBegins'. -/
def auditBeginsCard : Claim7 := { stood := { row := auditBeginsRow, standIns := [], harness := (true, "81c38e76ee9daa8cc15b6610e06b5bb1eabe331b5651b4af7dd2366e6530cf12"), looks := false }, kinds := [], alts := [], laidByText := true, laidKinds := [.data, .data, .data], laidTests := true, laidLooks := .later }
def AuditBeginsCardSaid : Prop := Claim7.holds Tryd.pinned (.plain (OpenSpec.ofChange auditBeginsSpec)) auditBeginsCard

/-- THE TIED CARD OF 'supercargolaw56.AuditCredits'. -/
def auditCreditsCard : Claim7 := { stood := { row := auditCreditsRow, standIns := [], harness := (true, "81c38e76ee9daa8cc15b6610e06b5bb1eabe331b5651b4af7dd2366e6530cf12"), looks := false }, kinds := [], alts := [], laidByText := true, laidKinds := [.data, .data, .data], laidTests := true, laidLooks := .later }
def AuditCreditsCardSaid : Prop := Claim7.holds Tryd.pinned (.plain (OpenSpec.ofChange auditCreditsSpec)) auditCreditsCard

/-- THE SECOND FORM's CARD OF 'supercargolaw56.AuditRemits'. -/
def auditRemitsUptoCard : Claim7 := { stood := { row := auditRemitsUptoRow, standIns := [], harness := (true, "81c38e76ee9daa8cc15b6610e06b5bb1eabe331b5651b4af7dd2366e6530cf12"), looks := false }, kinds := [], alts := [], laidByText := true, laidKinds := [.data, .data, .data], laidTests := true, laidLooks := .later }
def AuditRemitsUptoCardSaid : Prop := Claim7.holds Tryd.pinned (.plain (OpenSpec.upto auditRemitsSpec)) auditRemitsUptoCard

/-- THE SECOND FORM's CARD OF 'supercargolaw56.AuditBegins'. -/
def auditBeginsUptoCard : Claim7 := { stood := { row := auditBeginsUptoRow, standIns := [], harness := (true, "81c38e76ee9daa8cc15b6610e06b5bb1eabe331b5651b4af7dd2366e6530cf12"), looks := false }, kinds := [], alts := [], laidByText := true, laidKinds := [.data, .data, .data], laidTests := true, laidLooks := .later }
def AuditBeginsUptoCardSaid : Prop := Claim7.holds Tryd.pinned (.plain (OpenSpec.upto auditBeginsSpec)) auditBeginsUptoCard

/-- THE SECOND FORM's CARD OF 'supercargolaw56.AuditCredits'. -/
def auditCreditsUptoCard : Claim7 := { stood := { row := auditCreditsUptoRow, standIns := [], harness := (true, "81c38e76ee9daa8cc15b6610e06b5bb1eabe331b5651b4af7dd2366e6530cf12"), looks := false }, kinds := [], alts := [], laidByText := true, laidKinds := [.data, .data, .data], laidTests := true, laidLooks := .later }
def AuditCreditsUptoCardSaid : Prop := Claim7.holds Tryd.pinned (.plain (OpenSpec.upto auditCreditsSpec)) auditCreditsUptoCard
end Rows
end Go.Proofs.YtmjkkmfjpppehaaDoor
