/-
  DERIVED. GIVEN WITH THE SEED: THE CARDS: each row of YthkobjbemmllfaaGreatDoorRows.lean that lists a variable, with what it lists TIED to the program's text (the seventh form; the later family's looks); each row that meets fmt, with fmt's text TOLD by the authors' own Lean function (tested against real Go, not proved from fmt's source: count such statements apart). THE CARD IS WHAT COUNTS. Prove the row's statement (the work); the ties are given (YthkobjbemmllfaaGreatDoorTie.lean); close each card by the builder's one call (the guide's Derived/Test/ToyasCard.lean, 'card_holds'). Laid BY PROGRAM, IN A SANDBOX (cutbox-door.mjs). By AI agents, Wed Nov 11 2026. No macro, syntax, notation, axiom, sorry.
-/
import Derived.Test.YthkobjbemmllfaaGreatDoorRows
import GoSem.ClaimSeven
namespace Go.Proofs.YthkobjbemmllfaaGreatDoor
namespace Rows

/-- THE TIED CARD OF 'remitlaw04.MoneyMemory'. -/
def moneyMemoryCard : Claim7 := { stood := { row := moneyMemoryRow, standIns := [], harness := (true, "124e6334706de73c4160a00cd963071595f76de9d900bbde3abc219720755ec3"), looks := true }, kinds := [], alts := [], laidByText := true, laidKinds := [.data, .data, .data, .sentinel, .sentinel, .sentinel, .sentinel, .sentinel, .sentinel, .sentinel, .sentinel, .sentinel, .sentinel, .sentinel, .sentinel, .sentinel, .sentinel, .sentinel, .sentinel, .sentinel, .sentinel, .sentinel, .sentinel, .sentinel, .sentinel, .sentinel, .sentinel, .sentinel, .sentinel, .sentinel, .sentinel, .sentinel, .sentinel, .sentinel, .sentinel, .sentinel, .sentinel, .sentinel, .sentinel, .sentinel, .data, .data, .data, .data, .data], laidTests := true, laidLooks := .later }
def MoneyMemoryCardSaid : Prop := Claim7.holds Tryz.pinned (.plain (OpenSpec.ofChange moneyMemorySpec)) moneyMemoryCard

/-- THE TIED CARD OF 'remitlaw04.MoneyTexts'. -/
def moneyTextsCard : Claim7 := { stood := { row := moneyTextsRow, standIns := [], harness := (true, "124e6334706de73c4160a00cd963071595f76de9d900bbde3abc219720755ec3"), looks := true }, kinds := [], alts := [], laidByText := true, laidKinds := [.data, .data, .data, .data, .sentinel, .sentinel, .sentinel, .sentinel, .sentinel, .sentinel, .sentinel, .sentinel, .sentinel, .sentinel, .sentinel, .sentinel, .sentinel, .sentinel, .sentinel, .sentinel, .sentinel, .sentinel, .sentinel, .sentinel, .sentinel, .sentinel, .sentinel, .sentinel, .sentinel, .sentinel, .sentinel, .sentinel, .sentinel, .sentinel, .sentinel, .sentinel, .sentinel, .sentinel, .sentinel, .sentinel, .sentinel, .sentinel, .sentinel, .data, .data, .data, .data, .data, .pinned], laidTests := true, laidLooks := .later }
def MoneyTextsCardSaid : Prop := Claim7.holds Tryz.pinned (.plain (OpenSpec.ofChange moneyTextsSpec)) moneyTextsCard

/-- THE SECOND FORM's CARD OF 'remitlaw04.MoneyMemory'. -/
def moneyMemoryUptoCard : Claim7 := { stood := { row := moneyMemoryUptoRow, standIns := [], harness := (true, "124e6334706de73c4160a00cd963071595f76de9d900bbde3abc219720755ec3"), looks := true }, kinds := [], alts := [], laidByText := true, laidKinds := [.data, .data, .data, .sentinel, .sentinel, .sentinel, .sentinel, .sentinel, .sentinel, .sentinel, .sentinel, .sentinel, .sentinel, .sentinel, .sentinel, .sentinel, .sentinel, .sentinel, .sentinel, .sentinel, .sentinel, .sentinel, .sentinel, .sentinel, .sentinel, .sentinel, .sentinel, .sentinel, .sentinel, .sentinel, .sentinel, .sentinel, .sentinel, .sentinel, .sentinel, .sentinel, .sentinel, .sentinel, .sentinel, .sentinel, .data, .data, .data, .data, .data], laidTests := true, laidLooks := .later }
def MoneyMemoryUptoCardSaid : Prop := Claim7.holds Tryz.pinned (.plain (OpenSpec.upto moneyMemorySpec)) moneyMemoryUptoCard

/-- THE SECOND FORM's CARD OF 'remitlaw04.MoneyTexts'. -/
def moneyTextsUptoCard : Claim7 := { stood := { row := moneyTextsUptoRow, standIns := [], harness := (true, "124e6334706de73c4160a00cd963071595f76de9d900bbde3abc219720755ec3"), looks := true }, kinds := [], alts := [], laidByText := true, laidKinds := [.data, .data, .data, .data, .sentinel, .sentinel, .sentinel, .sentinel, .sentinel, .sentinel, .sentinel, .sentinel, .sentinel, .sentinel, .sentinel, .sentinel, .sentinel, .sentinel, .sentinel, .sentinel, .sentinel, .sentinel, .sentinel, .sentinel, .sentinel, .sentinel, .sentinel, .sentinel, .sentinel, .sentinel, .sentinel, .sentinel, .sentinel, .sentinel, .sentinel, .sentinel, .sentinel, .sentinel, .sentinel, .sentinel, .sentinel, .sentinel, .sentinel, .data, .data, .data, .data, .data, .pinned], laidTests := true, laidLooks := .later }
def MoneyTextsUptoCardSaid : Prop := Claim7.holds Tryz.pinned (.plain (OpenSpec.upto moneyTextsSpec)) moneyTextsUptoCard
end Rows
end Go.Proofs.YthkobjbemmllfaaGreatDoor
