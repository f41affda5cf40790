/-
  DERIVED. GIVEN WITH THE SEED: THE CARDS: each row of YtodekiimkbejnaaGreatDoorRows.lean that lists a variable, with what it lists TIED to the program's text (the seventh form; the later family's looks); each row that meets fmt, with fmt's text TOLD by the authors' own Lean function (tested against real Go, not proved from fmt's source: count such statements apart). THE CARD IS WHAT COUNTS. Prove the row's statement (the work); the ties are given (YtodekiimkbejnaaGreatDoorTie.lean); close each card by the builder's one call (the guide's Derived/Test/ToyasCard.lean, 'card_holds'). Laid BY PROGRAM, IN A SANDBOX (cutbox-door.mjs). By AI agents, Wed Nov 11 2026. No macro, syntax, notation, axiom, sorry.
-/
import Derived.Test.YtodekiimkbejnaaGreatDoorRows
import GoSem.ClaimSeven
namespace Go.Proofs.YtodekiimkbejnaaGreatDoor
namespace Rows

/-- THE TIED CARD OF 'remitlaw28.AuditReplays'. -/
def auditReplaysCard : Claim7 := { stood := { row := auditReplaysRow, standIns := [], harness := (true, "0f7c74005ab7ad5c14422eb1d1be87d4b67373b1f6884fd9e0fd7a4c227d51a3"), looks := true }, kinds := [], alts := [], laidByText := true, laidKinds := [.sentinel, .sentinel, .sentinel, .sentinel, .sentinel, .sentinel, .sentinel, .sentinel, .sentinel, .sentinel, .sentinel, .sentinel, .sentinel, .sentinel, .sentinel, .sentinel, .sentinel, .sentinel, .sentinel, .sentinel, .sentinel, .sentinel, .sentinel, .sentinel, .sentinel, .sentinel, .sentinel, .sentinel, .sentinel, .sentinel, .sentinel, .sentinel, .sentinel, .sentinel, .sentinel, .sentinel, .sentinel], laidTests := true, laidLooks := .later }
def AuditReplaysCardSaid : Prop := Claim7.holds Tryz.pinned (.plain (OpenSpec.ofChange auditReplaysSpec)) auditReplaysCard

/-- THE SECOND FORM's CARD OF 'remitlaw28.AuditReplays'. -/
def auditReplaysUptoCard : Claim7 := { stood := { row := auditReplaysUptoRow, standIns := [], harness := (true, "0f7c74005ab7ad5c14422eb1d1be87d4b67373b1f6884fd9e0fd7a4c227d51a3"), looks := true }, kinds := [], alts := [], laidByText := true, laidKinds := [.sentinel, .sentinel, .sentinel, .sentinel, .sentinel, .sentinel, .sentinel, .sentinel, .sentinel, .sentinel, .sentinel, .sentinel, .sentinel, .sentinel, .sentinel, .sentinel, .sentinel, .sentinel, .sentinel, .sentinel, .sentinel, .sentinel, .sentinel, .sentinel, .sentinel, .sentinel, .sentinel, .sentinel, .sentinel, .sentinel, .sentinel, .sentinel, .sentinel, .sentinel, .sentinel, .sentinel, .sentinel], laidTests := true, laidLooks := .later }
def AuditReplaysUptoCardSaid : Prop := Claim7.holds Tryz.pinned (.plain (OpenSpec.upto auditReplaysSpec)) auditReplaysUptoCard
end Rows
end Go.Proofs.YtodekiimkbejnaaGreatDoor
