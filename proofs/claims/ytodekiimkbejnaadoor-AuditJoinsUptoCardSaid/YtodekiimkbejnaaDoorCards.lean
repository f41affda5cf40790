/-
  DERIVED. GIVEN WITH THE SEED: THE CARDS: each row of YtodekiimkbejnaaDoorRows.lean that lists a variable, with what it lists TIED to the program's text (the seventh form; the later family's looks); each row that meets fmt, with fmt's text TOLD by the authors' own Lean function (tested against real Go, not proved from fmt's source: count such statements apart). THE CARD IS WHAT COUNTS. Prove the row's statement (the work); the ties are given (YtodekiimkbejnaaDoorTie.lean); close each card by the builder's one call (the guide's Derived/Test/ToyasCard.lean, 'card_holds'). Laid BY PROGRAM, IN A SANDBOX (cutbox-door.mjs). By AI agents, Wed Nov 11 2026. No macro, syntax, notation, axiom, sorry.
-/
import Derived.Test.YtodekiimkbejnaaDoorRows
import GoSem.ClaimSeven
namespace Go.Proofs.YtodekiimkbejnaaDoor
namespace Rows

/-- THE TIED CARD OF 'remitlaw28.AuditJoins'. -/
def auditJoinsCard : Claim7 := { stood := { row := auditJoinsRow, standIns := [], harness := (true, "4f5944f3f2f0e4e039a39b098d1d2889b51a562e7fac24c38f5bd53ee0a9f78a"), looks := true }, kinds := [], alts := [], laidByText := true, laidKinds := [.sentinel, .sentinel, .sentinel, .sentinel, .sentinel, .sentinel, .sentinel, .sentinel, .sentinel, .sentinel, .sentinel, .sentinel, .sentinel, .sentinel, .sentinel, .sentinel, .sentinel, .sentinel, .sentinel, .sentinel, .sentinel, .sentinel, .sentinel, .sentinel, .sentinel, .sentinel, .sentinel, .sentinel, .sentinel, .sentinel, .sentinel, .sentinel, .sentinel, .sentinel, .sentinel, .sentinel, .sentinel], laidTests := true, laidLooks := .later }
def AuditJoinsCardSaid : Prop := Claim7.holds Tryd.pinned (.plain (OpenSpec.ofChange auditJoinsSpec)) auditJoinsCard

/-- THE SECOND FORM's CARD OF 'remitlaw28.AuditJoins'. -/
def auditJoinsUptoCard : Claim7 := { stood := { row := auditJoinsUptoRow, standIns := [], harness := (true, "4f5944f3f2f0e4e039a39b098d1d2889b51a562e7fac24c38f5bd53ee0a9f78a"), looks := true }, kinds := [], alts := [], laidByText := true, laidKinds := [.sentinel, .sentinel, .sentinel, .sentinel, .sentinel, .sentinel, .sentinel, .sentinel, .sentinel, .sentinel, .sentinel, .sentinel, .sentinel, .sentinel, .sentinel, .sentinel, .sentinel, .sentinel, .sentinel, .sentinel, .sentinel, .sentinel, .sentinel, .sentinel, .sentinel, .sentinel, .sentinel, .sentinel, .sentinel, .sentinel, .sentinel, .sentinel, .sentinel, .sentinel, .sentinel, .sentinel, .sentinel], laidTests := true, laidLooks := .later }
def AuditJoinsUptoCardSaid : Prop := Claim7.holds Tryd.pinned (.plain (OpenSpec.upto auditJoinsSpec)) auditJoinsUptoCard
end Rows
end Go.Proofs.YtodekiimkbejnaaDoor
