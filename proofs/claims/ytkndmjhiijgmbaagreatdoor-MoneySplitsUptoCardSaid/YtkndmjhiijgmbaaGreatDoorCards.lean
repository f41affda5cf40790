/-
  DERIVED. GIVEN WITH THE SEED: THE CARDS: each row of YtkndmjhiijgmbaaGreatDoorRows.lean that lists a variable, with what it lists TIED to the program's text (the seventh form; the later family's looks); each row that meets fmt, with fmt's text TOLD by the authors' own Lean function (tested against real Go, not proved from fmt's source: count such statements apart). THE CARD IS WHAT COUNTS. Prove the row's statement (the work); the ties are given (YtkndmjhiijgmbaaGreatDoorTie.lean); close each card by the builder's one call (the guide's Derived/Test/ToyasCard.lean, 'card_holds'). Laid BY PROGRAM, IN A SANDBOX (cutbox-door.mjs). By AI agents, Wed Nov 11 2026. No macro, syntax, notation, axiom, sorry.
-/
import Derived.Test.YtkndmjhiijgmbaaGreatDoorRows
import GoSem.ClaimSeven
namespace Go.Proofs.YtkndmjhiijgmbaaGreatDoor
namespace Rows

/-- THE TIED CARD OF 'remitlaw04.MoneySplits'. -/
def moneySplitsCard : Claim7 := { stood := { row := moneySplitsRow, standIns := [], harness := (true, "603bd577d2cb4976ade087ac6c3f1e341dde5ed5c881b757e621bd71b72d8740"), looks := true }, kinds := [], alts := [], laidByText := true, laidKinds := [.data, .data, .data, .sentinel, .sentinel, .sentinel, .sentinel, .sentinel, .sentinel, .sentinel, .sentinel, .sentinel, .sentinel, .sentinel, .sentinel, .sentinel, .sentinel, .sentinel, .sentinel, .sentinel, .sentinel, .sentinel, .sentinel, .sentinel, .sentinel, .sentinel, .sentinel, .sentinel, .sentinel, .sentinel, .sentinel, .sentinel, .sentinel, .sentinel, .sentinel, .sentinel, .sentinel, .sentinel, .sentinel, .sentinel, .data, .data, .data, .data, .data], laidTests := true, laidLooks := .later }
def MoneySplitsCardSaid : Prop := Claim7.holds Tryz.pinned (.plain (OpenSpec.ofChange moneySplitsSpec)) moneySplitsCard

/-- THE TIED CARD OF 'remitlaw04.MoneySums'. -/
def moneySumsCard : Claim7 := { stood := { row := moneySumsRow, standIns := [], harness := (true, "603bd577d2cb4976ade087ac6c3f1e341dde5ed5c881b757e621bd71b72d8740"), looks := true }, kinds := [], alts := [], laidByText := true, laidKinds := [.data, .data, .data, .sentinel, .sentinel, .sentinel, .sentinel, .sentinel, .sentinel, .sentinel, .sentinel, .sentinel, .sentinel, .sentinel, .sentinel, .sentinel, .sentinel, .sentinel, .sentinel, .sentinel, .sentinel, .sentinel, .sentinel, .sentinel, .sentinel, .sentinel, .sentinel, .sentinel, .sentinel, .sentinel, .sentinel, .sentinel, .sentinel, .sentinel, .sentinel, .sentinel, .sentinel, .sentinel, .sentinel, .sentinel, .data, .data, .data, .data, .data], laidTests := true, laidLooks := .later }
def MoneySumsCardSaid : Prop := Claim7.holds Tryz.pinned (.plain (OpenSpec.ofChange moneySumsSpec)) moneySumsCard

/-- THE TIED CARD OF 'remitlaw04.MoneyFinds'. -/
def moneyFindsCard : Claim7 := { stood := { row := moneyFindsRow, standIns := [], harness := (true, "603bd577d2cb4976ade087ac6c3f1e341dde5ed5c881b757e621bd71b72d8740"), looks := true }, kinds := [], alts := [], laidByText := true, laidKinds := [.data, .data, .data, .sentinel, .sentinel, .sentinel, .sentinel, .sentinel, .sentinel, .sentinel, .sentinel, .sentinel, .sentinel, .sentinel, .sentinel, .sentinel, .sentinel, .sentinel, .sentinel, .sentinel, .sentinel, .sentinel, .sentinel, .sentinel, .sentinel, .sentinel, .sentinel, .sentinel, .sentinel, .sentinel, .sentinel, .sentinel, .sentinel, .sentinel, .sentinel, .sentinel, .sentinel, .sentinel, .sentinel, .sentinel, .data, .data, .data, .data, .data], laidTests := true, laidLooks := .later }
def MoneyFindsCardSaid : Prop := Claim7.holds Tryz.pinned (.plain (OpenSpec.ofChange moneyFindsSpec)) moneyFindsCard

/-- THE SECOND FORM's CARD OF 'remitlaw04.MoneySplits'. -/
def moneySplitsUptoCard : Claim7 := { stood := { row := moneySplitsUptoRow, standIns := [], harness := (true, "603bd577d2cb4976ade087ac6c3f1e341dde5ed5c881b757e621bd71b72d8740"), looks := true }, kinds := [], alts := [], laidByText := true, laidKinds := [.data, .data, .data, .sentinel, .sentinel, .sentinel, .sentinel, .sentinel, .sentinel, .sentinel, .sentinel, .sentinel, .sentinel, .sentinel, .sentinel, .sentinel, .sentinel, .sentinel, .sentinel, .sentinel, .sentinel, .sentinel, .sentinel, .sentinel, .sentinel, .sentinel, .sentinel, .sentinel, .sentinel, .sentinel, .sentinel, .sentinel, .sentinel, .sentinel, .sentinel, .sentinel, .sentinel, .sentinel, .sentinel, .sentinel, .data, .data, .data, .data, .data], laidTests := true, laidLooks := .later }
def MoneySplitsUptoCardSaid : Prop := Claim7.holds Tryz.pinned (.plain (OpenSpec.upto moneySplitsSpec)) moneySplitsUptoCard

/-- THE SECOND FORM's CARD OF 'remitlaw04.MoneySums'. -/
def moneySumsUptoCard : Claim7 := { stood := { row := moneySumsUptoRow, standIns := [], harness := (true, "603bd577d2cb4976ade087ac6c3f1e341dde5ed5c881b757e621bd71b72d8740"), looks := true }, kinds := [], alts := [], laidByText := true, laidKinds := [.data, .data, .data, .sentinel, .sentinel, .sentinel, .sentinel, .sentinel, .sentinel, .sentinel, .sentinel, .sentinel, .sentinel, .sentinel, .sentinel, .sentinel, .sentinel, .sentinel, .sentinel, .sentinel, .sentinel, .sentinel, .sentinel, .sentinel, .sentinel, .sentinel, .sentinel, .sentinel, .sentinel, .sentinel, .sentinel, .sentinel, .sentinel, .sentinel, .sentinel, .sentinel, .sentinel, .sentinel, .sentinel, .sentinel, .data, .data, .data, .data, .data], laidTests := true, laidLooks := .later }
def MoneySumsUptoCardSaid : Prop := Claim7.holds Tryz.pinned (.plain (OpenSpec.upto moneySumsSpec)) moneySumsUptoCard

/-- THE SECOND FORM's CARD OF 'remitlaw04.MoneyFinds'. -/
def moneyFindsUptoCard : Claim7 := { stood := { row := moneyFindsUptoRow, standIns := [], harness := (true, "603bd577d2cb4976ade087ac6c3f1e341dde5ed5c881b757e621bd71b72d8740"), looks := true }, kinds := [], alts := [], laidByText := true, laidKinds := [.data, .data, .data, .sentinel, .sentinel, .sentinel, .sentinel, .sentinel, .sentinel, .sentinel, .sentinel, .sentinel, .sentinel, .sentinel, .sentinel, .sentinel, .sentinel, .sentinel, .sentinel, .sentinel, .sentinel, .sentinel, .sentinel, .sentinel, .sentinel, .sentinel, .sentinel, .sentinel, .sentinel, .sentinel, .sentinel, .sentinel, .sentinel, .sentinel, .sentinel, .sentinel, .sentinel, .sentinel, .sentinel, .sentinel, .data, .data, .data, .data, .data], laidTests := true, laidLooks := .later }
def MoneyFindsUptoCardSaid : Prop := Claim7.holds Tryz.pinned (.plain (OpenSpec.upto moneyFindsSpec)) moneyFindsUptoCard
end Rows
end Go.Proofs.YtkndmjhiijgmbaaGreatDoor
