/-
  DERIVED. GIVEN WITH THE SEED: THE CARDS: each row of YtikkocdbaekjmaaGreatDoorRows.lean that lists a variable, with what it lists TIED to the program's text (the seventh form; the later family's looks); each row that meets fmt, with fmt's text TOLD by the authors' own Lean function (tested against real Go, not proved from fmt's source: count such statements apart). THE CARD IS WHAT COUNTS. Prove the row's statement (the work); the ties are given (YtikkocdbaekjmaaGreatDoorTie.lean); close each card by the builder's one call (the guide's Derived/Test/ToyasCard.lean, 'card_holds'). Laid BY PROGRAM, IN A SANDBOX (cutbox-door.mjs). By AI agents, Wed Nov 11 2026. No macro, syntax, notation, axiom, sorry.
-/
import Derived.Test.YtikkocdbaekjmaaGreatDoorRows
import GoSem.ClaimSeven
namespace Go.Proofs.YtikkocdbaekjmaaGreatDoor
namespace Rows

/-- THE TIED CARD OF 'remitlaw18.FeesParses'. -/
def feesParsesCard : Claim7 := { stood := { row := feesParsesRow, standIns := [], harness := (true, "d46d82dc773014ffa0e130d63839e4cdf265e14bc5995ba8740173768d82a39c"), looks := true }, kinds := [], alts := [], laidByText := true, laidKinds := [.data, .data, .data, .data, .sentinel, .sentinel, .sentinel, .sentinel, .sentinel, .sentinel, .sentinel, .sentinel, .sentinel, .sentinel, .sentinel, .sentinel, .sentinel, .sentinel, .sentinel, .sentinel, .sentinel, .sentinel, .sentinel, .sentinel, .sentinel, .sentinel, .sentinel, .sentinel, .sentinel, .sentinel, .sentinel, .sentinel, .sentinel, .sentinel, .sentinel, .sentinel, .sentinel, .sentinel, .sentinel, .sentinel, .sentinel, .data, .data, .data, .data, .data, .pinned], laidTests := true, laidLooks := .later }
def FeesParsesCardSaid : Prop := Claim7.holds Tryz.pinned (.plain (OpenSpec.ofChange feesParsesSpec)) feesParsesCard

/-- THE TIED CARD OF 'remitlaw18.FeesFees'. -/
def feesFeesCard : Claim7 := { stood := { row := feesFeesRow, standIns := [], harness := (true, "d46d82dc773014ffa0e130d63839e4cdf265e14bc5995ba8740173768d82a39c"), looks := true }, kinds := [], alts := [], laidByText := true, laidKinds := [.data, .data, .data, .data, .sentinel, .sentinel, .sentinel, .sentinel, .sentinel, .sentinel, .sentinel, .sentinel, .sentinel, .sentinel, .sentinel, .sentinel, .sentinel, .sentinel, .sentinel, .sentinel, .sentinel, .sentinel, .sentinel, .sentinel, .sentinel, .sentinel, .sentinel, .sentinel, .sentinel, .sentinel, .sentinel, .sentinel, .sentinel, .sentinel, .sentinel, .sentinel, .sentinel, .sentinel, .sentinel, .sentinel, .sentinel, .data, .data, .data, .data, .data, .pinned], laidTests := true, laidLooks := .later }
def FeesFeesCardSaid : Prop := Claim7.holds Tryz.pinned (.plain (OpenSpec.ofChange feesFeesSpec)) feesFeesCard

/-- THE TIED CARD OF 'remitlaw18.FeesBack'. -/
def feesBackCard : Claim7 := { stood := { row := feesBackRow, standIns := [], harness := (true, "d46d82dc773014ffa0e130d63839e4cdf265e14bc5995ba8740173768d82a39c"), looks := true }, kinds := [], alts := [], laidByText := true, laidKinds := [.data, .data, .data, .data, .sentinel, .sentinel, .sentinel, .sentinel, .sentinel, .sentinel, .sentinel, .sentinel, .sentinel, .sentinel, .sentinel, .sentinel, .sentinel, .sentinel, .sentinel, .sentinel, .sentinel, .sentinel, .sentinel, .sentinel, .sentinel, .sentinel, .sentinel, .sentinel, .sentinel, .sentinel, .sentinel, .sentinel, .sentinel, .sentinel, .sentinel, .sentinel, .sentinel, .sentinel, .sentinel, .sentinel, .sentinel, .data, .data, .data, .data, .data, .pinned], laidTests := true, laidLooks := .later }
def FeesBackCardSaid : Prop := Claim7.holds Tryz.pinned (.plain (OpenSpec.ofChange feesBackSpec)) feesBackCard

/-- THE SECOND FORM's CARD OF 'remitlaw18.FeesParses'. -/
def feesParsesUptoCard : Claim7 := { stood := { row := feesParsesUptoRow, standIns := [], harness := (true, "d46d82dc773014ffa0e130d63839e4cdf265e14bc5995ba8740173768d82a39c"), looks := true }, kinds := [], alts := [], laidByText := true, laidKinds := [.data, .data, .data, .data, .sentinel, .sentinel, .sentinel, .sentinel, .sentinel, .sentinel, .sentinel, .sentinel, .sentinel, .sentinel, .sentinel, .sentinel, .sentinel, .sentinel, .sentinel, .sentinel, .sentinel, .sentinel, .sentinel, .sentinel, .sentinel, .sentinel, .sentinel, .sentinel, .sentinel, .sentinel, .sentinel, .sentinel, .sentinel, .sentinel, .sentinel, .sentinel, .sentinel, .sentinel, .sentinel, .sentinel, .sentinel, .data, .data, .data, .data, .data, .pinned], laidTests := true, laidLooks := .later }
def FeesParsesUptoCardSaid : Prop := Claim7.holds Tryz.pinned (.plain (OpenSpec.upto feesParsesSpec)) feesParsesUptoCard

/-- THE SECOND FORM's CARD OF 'remitlaw18.FeesFees'. -/
def feesFeesUptoCard : Claim7 := { stood := { row := feesFeesUptoRow, standIns := [], harness := (true, "d46d82dc773014ffa0e130d63839e4cdf265e14bc5995ba8740173768d82a39c"), looks := true }, kinds := [], alts := [], laidByText := true, laidKinds := [.data, .data, .data, .data, .sentinel, .sentinel, .sentinel, .sentinel, .sentinel, .sentinel, .sentinel, .sentinel, .sentinel, .sentinel, .sentinel, .sentinel, .sentinel, .sentinel, .sentinel, .sentinel, .sentinel, .sentinel, .sentinel, .sentinel, .sentinel, .sentinel, .sentinel, .sentinel, .sentinel, .sentinel, .sentinel, .sentinel, .sentinel, .sentinel, .sentinel, .sentinel, .sentinel, .sentinel, .sentinel, .sentinel, .sentinel, .data, .data, .data, .data, .data, .pinned], laidTests := true, laidLooks := .later }
def FeesFeesUptoCardSaid : Prop := Claim7.holds Tryz.pinned (.plain (OpenSpec.upto feesFeesSpec)) feesFeesUptoCard

/-- THE SECOND FORM's CARD OF 'remitlaw18.FeesBack'. -/
def feesBackUptoCard : Claim7 := { stood := { row := feesBackUptoRow, standIns := [], harness := (true, "d46d82dc773014ffa0e130d63839e4cdf265e14bc5995ba8740173768d82a39c"), looks := true }, kinds := [], alts := [], laidByText := true, laidKinds := [.data, .data, .data, .data, .sentinel, .sentinel, .sentinel, .sentinel, .sentinel, .sentinel, .sentinel, .sentinel, .sentinel, .sentinel, .sentinel, .sentinel, .sentinel, .sentinel, .sentinel, .sentinel, .sentinel, .sentinel, .sentinel, .sentinel, .sentinel, .sentinel, .sentinel, .sentinel, .sentinel, .sentinel, .sentinel, .sentinel, .sentinel, .sentinel, .sentinel, .sentinel, .sentinel, .sentinel, .sentinel, .sentinel, .sentinel, .data, .data, .data, .data, .data, .pinned], laidTests := true, laidLooks := .later }
def FeesBackUptoCardSaid : Prop := Claim7.holds Tryz.pinned (.plain (OpenSpec.upto feesBackSpec)) feesBackUptoCard
end Rows
end Go.Proofs.YtikkocdbaekjmaaGreatDoor
