/-
  DERIVED. GIVEN WITH THE SEED: THE CARDS: each row of YtjjacehacfbolaaDoorRows.lean that lists a variable, with what it lists TIED to the program's text (the seventh form; the later family's looks); each row that meets fmt, with fmt's text TOLD by the authors' own Lean function (tested against real Go, not proved from fmt's source: count such statements apart). THE CARD IS WHAT COUNTS. Prove the row's statement (the work); the ties are given (YtjjacehacfbolaaDoorTie.lean); close each card by the builder's one call (the guide's Derived/Test/ToyasCard.lean, 'card_holds'). Laid BY PROGRAM, IN A SANDBOX (cutbox-door.mjs). By AI agents, Wed Nov 11 2026. No macro, syntax, notation, axiom, sorry.
-/
import Derived.Test.YtjjacehacfbolaaDoorRows
import GoSem.ClaimSeven
namespace Go.Proofs.YtjjacehacfbolaaDoor
namespace Rows

/-- THE TIED CARD OF 'remitlaw23.GaugeSamples'. -/
def gaugeSamplesCard : Claim7 := { stood := { row := gaugeSamplesRow, standIns := [], harness := (true, "050bf06d29e4c0667f97209a4a0ae1356492fe63419528faa6f2973056a4feea"), looks := false }, kinds := [], alts := [], laidByText := true, laidKinds := [.data, .data, .data], laidTests := true, laidLooks := .later }
def GaugeSamplesCardSaid : Prop := Claim7.holds Tryd.pinned (.plain (OpenSpec.ofChange gaugeSamplesSpec)) gaugeSamplesCard

/-- THE SECOND FORM's CARD OF 'remitlaw23.GaugeSamples'. -/
def gaugeSamplesUptoCard : Claim7 := { stood := { row := gaugeSamplesUptoRow, standIns := [], harness := (true, "050bf06d29e4c0667f97209a4a0ae1356492fe63419528faa6f2973056a4feea"), looks := false }, kinds := [], alts := [], laidByText := true, laidKinds := [.data, .data, .data], laidTests := true, laidLooks := .later }
def GaugeSamplesUptoCardSaid : Prop := Claim7.holds Tryd.pinned (.plain (OpenSpec.upto gaugeSamplesSpec)) gaugeSamplesUptoCard
end Rows
end Go.Proofs.YtjjacehacfbolaaDoor
