/-
  DERIVED. GIVEN WITH THE SEED: THE CARDS: each row of YtikkocdbaekjmaaGreatDoorRows.lean that lists a variable, with what it lists TIED to the program's text (the seventh form; the later family's looks); each row that meets fmt, with fmt's text TOLD by the authors' own Lean function (tested against real Go, not proved from fmt's source: count such statements apart). THE CARD IS WHAT COUNTS. Prove the row's statement (the work); the ties are given (YtikkocdbaekjmaaGreatDoorTie.lean); close each card by the builder's one call (the guide's Derived/Test/ToyasCard.lean, 'card_holds'). Laid BY PROGRAM, IN A SANDBOX (cutbox-door.mjs). By AI agents, Wed Nov 11 2026. No macro, syntax, notation, axiom, sorry.
-/
import Derived.Test.YtikkocdbaekjmaaGreatDoorRows
import GoSem.ClaimSeven
namespace Go.Proofs.YtikkocdbaekjmaaGreatDoor
namespace Rows

/-- THE TIED CARD OF 'remitlaw18.FeesParses'. -/
def feesParsesCard : Claim7 := { stood := { row := feesParsesRow, standIns := [], harness := (true, "cfb1ba507031d701dbcd698d917c47700976b5763e15c7d72fdf1bbe65f74168"), looks := true }, kinds := [], alts := [], laidByText := true, laidKinds := [.data, .data, .data, .data, .sentinel, .sentinel, .sentinel, .sentinel, .sentinel, .sentinel, .sentinel, .sentinel, .sentinel, .sentinel, .sentinel, .sentinel, .sentinel, .sentinel, .sentinel, .sentinel, .sentinel, .sentinel, .sentinel, .sentinel, .sentinel, .sentinel, .sentinel, .sentinel, .sentinel, .sentinel, .sentinel, .sentinel, .sentinel, .sentinel, .sentinel, .sentinel, .sentinel, .sentinel, .sentinel, .sentinel, .sentinel, .data, .data, .data, .data, .data, .pinned], laidTests := true, laidLooks := .later }
def FeesParsesCardSaid : Prop := Claim7.holds Tryz.pinned (.plain (OpenSpec.ofChange feesParsesSpec)) feesParsesCard

/-- THE TIED CARD OF 'remitlaw18.FeesRise'. -/
def feesRiseCard : Claim7 := { stood := { row := feesRiseRow, standIns := [], harness := (true, "cfb1ba507031d701dbcd698d917c47700976b5763e15c7d72fdf1bbe65f74168"), looks := true }, kinds := [], alts := [], laidByText := true, laidKinds := [.data, .data, .data, .data, .sentinel, .sentinel, .sentinel, .sentinel, .sentinel, .sentinel, .sentinel, .sentinel, .sentinel, .sentinel, .sentinel, .sentinel, .sentinel, .sentinel, .sentinel, .sentinel, .sentinel, .sentinel, .sentinel, .sentinel, .sentinel, .sentinel, .sentinel, .sentinel, .sentinel, .sentinel, .sentinel, .sentinel, .sentinel, .sentinel, .sentinel, .sentinel, .sentinel, .sentinel, .sentinel, .sentinel, .sentinel, .data, .data, .data, .data, .data, .pinned], laidTests := true, laidLooks := .later }
def FeesRiseCardSaid : Prop := Claim7.holds Tryz.pinned (.plain (OpenSpec.ofChange feesRiseSpec)) feesRiseCard

/-- THE TIED CARD OF 'remitlaw18.FeesFees'. -/
def feesFeesCard : Claim7 := { stood := { row := feesFeesRow, standIns := [], harness := (true, "cfb1ba507031d701dbcd698d917c47700976b5763e15c7d72fdf1bbe65f74168"), looks := true }, kinds := [], alts := [], laidByText := true, laidKinds := [.data, .data, .data, .data, .sentinel, .sentinel, .sentinel, .sentinel, .sentinel, .sentinel, .sentinel, .sentinel, .sentinel, .sentinel, .sentinel, .sentinel, .sentinel, .sentinel, .sentinel, .sentinel, .sentinel, .sentinel, .sentinel, .sentinel, .sentinel, .sentinel, .sentinel, .sentinel, .sentinel, .sentinel, .sentinel, .sentinel, .sentinel, .sentinel, .sentinel, .sentinel, .sentinel, .sentinel, .sentinel, .sentinel, .sentinel, .data, .data, .data, .data, .data, .pinned], laidTests := true, laidLooks := .later }
def FeesFeesCardSaid : Prop := Claim7.holds Tryz.pinned (.plain (OpenSpec.ofChange feesFeesSpec)) feesFeesCard

/-- THE SECOND FORM's CARD OF 'remitlaw18.FeesParses'. -/
def feesParsesUptoCard : Claim7 := { stood := { row := feesParsesUptoRow, standIns := [], harness := (true, "cfb1ba507031d701dbcd698d917c47700976b5763e15c7d72fdf1bbe65f74168"), looks := true }, kinds := [], alts := [], laidByText := true, laidKinds := [.data, .data, .data, .data, .sentinel, .sentinel, .sentinel, .sentinel, .sentinel, .sentinel, .sentinel, .sentinel, .sentinel, .sentinel, .sentinel, .sentinel, .sentinel, .sentinel, .sentinel, .sentinel, .sentinel, .sentinel, .sentinel, .sentinel, .sentinel, .sentinel, .sentinel, .sentinel, .sentinel, .sentinel, .sentinel, .sentinel, .sentinel, .sentinel, .sentinel, .sentinel, .sentinel, .sentinel, .sentinel, .sentinel, .sentinel, .data, .data, .data, .data, .data, .pinned], laidTests := true, laidLooks := .later }
def FeesParsesUptoCardSaid : Prop := Claim7.holds Tryz.pinned (.plain (OpenSpec.upto feesParsesSpec)) feesParsesUptoCard

/-- THE SECOND FORM's CARD OF 'remitlaw18.FeesRise'. -/
def feesRiseUptoCard : Claim7 := { stood := { row := feesRiseUptoRow, standIns := [], harness := (true, "cfb1ba507031d701dbcd698d917c47700976b5763e15c7d72fdf1bbe65f74168"), looks := true }, kinds := [], alts := [], laidByText := true, laidKinds := [.data, .data, .data, .data, .sentinel, .sentinel, .sentinel, .sentinel, .sentinel, .sentinel, .sentinel, .sentinel, .sentinel, .sentinel, .sentinel, .sentinel, .sentinel, .sentinel, .sentinel, .sentinel, .sentinel, .sentinel, .sentinel, .sentinel, .sentinel, .sentinel, .sentinel, .sentinel, .sentinel, .sentinel, .sentinel, .sentinel, .sentinel, .sentinel, .sentinel, .sentinel, .sentinel, .sentinel, .sentinel, .sentinel, .sentinel, .data, .data, .data, .data, .data, .pinned], laidTests := true, laidLooks := .later }
def FeesRiseUptoCardSaid : Prop := Claim7.holds Tryz.pinned (.plain (OpenSpec.upto feesRiseSpec)) feesRiseUptoCard

/-- THE SECOND FORM's CARD OF 'remitlaw18.FeesFees'. -/
def feesFeesUptoCard : Claim7 := { stood := { row := feesFeesUptoRow, standIns := [], harness := (true, "cfb1ba507031d701dbcd698d917c47700976b5763e15c7d72fdf1bbe65f74168"), looks := true }, kinds := [], alts := [], laidByText := true, laidKinds := [.data, .data, .data, .data, .sentinel, .sentinel, .sentinel, .sentinel, .sentinel, .sentinel, .sentinel, .sentinel, .sentinel, .sentinel, .sentinel, .sentinel, .sentinel, .sentinel, .sentinel, .sentinel, .sentinel, .sentinel, .sentinel, .sentinel, .sentinel, .sentinel, .sentinel, .sentinel, .sentinel, .sentinel, .sentinel, .sentinel, .sentinel, .sentinel, .sentinel, .sentinel, .sentinel, .sentinel, .sentinel, .sentinel, .sentinel, .data, .data, .data, .data, .data, .pinned], laidTests := true, laidLooks := .later }
def FeesFeesUptoCardSaid : Prop := Claim7.holds Tryz.pinned (.plain (OpenSpec.upto feesFeesSpec)) feesFeesUptoCard
end Rows
end Go.Proofs.YtikkocdbaekjmaaGreatDoor
