/-
  DERIVED. GIVEN WITH THE SEED: THE PROGRAM's TIES (one call each: nine closed facts by the kernel) AND EACH ROW's TIE, after the 31st guide's Derived/Test/Toyas{Tie, Card}.lean. No idea stands in it: it is a product of the set-up. Laid BY PROGRAM, IN A SANDBOX (cutbox-door.mjs). By AI agents, Wed Nov 11 2026. No macro, syntax, notation, axiom, sorry.
-/
import Derived.Test.YthkobjbemmllfaaGreatDoorRows
import Derived.LaidByTextLater
import Derived.SevenTiedAt
import Derived.LaidSub
import Derived.LaidOnce
namespace Go.Proofs.YthkobjbemmllfaaGreatDoor
open Go
set_option maxRecDepth 100000
theorem seatTie1 : Tryz.prog.laidByTextLater [("math/bits.deBruijn32tab", Rows.laid_math_bits_deBruijn32tab), ("math/bits.deBruijn64tab", Rows.laid_math_bits_deBruijn64tab), ("internal/strconv.uint64pow10", Rows.laid_internal_strconv_uint64pow10), ("remit/api.ErrShort", Rows.laid_remit_api_ErrShort), ("remit/api.ErrVarint", Rows.laid_remit_api_ErrVarint), ("remit/api.ErrLimit", Rows.laid_remit_api_ErrLimit), ("remit/api.ErrOrder", Rows.laid_remit_api_ErrOrder), ("remit/api.ErrTail", Rows.laid_remit_api_ErrTail), ("remit/api.ErrRange", Rows.laid_remit_api_ErrRange), ("remit/api.ErrForm", Rows.laid_remit_api_ErrForm), ("remit/api.ErrDigits", Rows.laid_remit_api_ErrDigits), ("remit/api.ErrAmount", Rows.laid_remit_api_ErrAmount), ("remit/api.ErrOverflow", Rows.laid_remit_api_ErrOverflow), ("remit/api.ErrCurrency", Rows.laid_remit_api_ErrCurrency), ("remit/api.ErrDown", Rows.laid_remit_api_ErrDown), ("remit/api.ErrSmall", Rows.laid_remit_api_ErrSmall), ("remit/api.ErrBlank", Rows.laid_remit_api_ErrBlank), ("remit/api.ErrCorrupt", Rows.laid_remit_api_ErrCorrupt), ("remit/api.ErrWorn", Rows.laid_remit_api_ErrWorn), ("remit/api.ErrFull", Rows.laid_remit_api_ErrFull), ("remit/api.ErrLarge", Rows.laid_remit_api_ErrLarge), ("remit/api.ErrClosed", Rows.laid_remit_api_ErrClosed), ("remit/api.ErrAccount", Rows.laid_remit_api_ErrAccount), ("remit/api.ErrExists", Rows.laid_remit_api_ErrExists), ("remit/api.ErrFrozen", Rows.laid_remit_api_ErrFrozen), ("remit/api.ErrFunds", Rows.laid_remit_api_ErrFunds), ("remit/api.ErrLegs", Rows.laid_remit_api_ErrLegs), ("remit/api.ErrConflict", Rows.laid_remit_api_ErrConflict), ("remit/api.ErrId", Rows.laid_remit_api_ErrId), ("remit/api.ErrPayee", Rows.laid_remit_api_ErrPayee), ("remit/api.ErrRail", Rows.laid_remit_api_ErrRail), ("remit/api.ErrBusy", Rows.laid_remit_api_ErrBusy), ("remit/api.ErrWindow", Rows.laid_remit_api_ErrWindow), ("remit/api.ErrPhase", Rows.laid_remit_api_ErrPhase), ("remit/api.ErrToken", Rows.laid_remit_api_ErrToken), ("remit/api.ErrTime", Rows.laid_remit_api_ErrTime), ("remit/api.ErrUnknown", Rows.laid_remit_api_ErrUnknown), ("remit/api.ErrConfig", Rows.laid_remit_api_ErrConfig), ("remit/api.ErrCommand", Rows.laid_remit_api_ErrCommand), ("remit/api.ErrUse", Rows.laid_remit_api_ErrUse), ("math/big.leafSize", Rows.laid_math_big_leafSize), ("math/big.divRecursiveThreshold", Rows.laid_math_big_divRecursiveThreshold), ("math/big.karatsubaThreshold", Rows.laid_math_big_karatsubaThreshold), ("math/big.basicSqrThreshold", Rows.laid_math_big_basicSqrThreshold), ("math/big.karatsubaSqrThreshold", Rows.laid_math_big_karatsubaSqrThreshold)] [.data, .data, .data, .sentinel, .sentinel, .sentinel, .sentinel, .sentinel, .sentinel, .sentinel, .sentinel, .sentinel, .sentinel, .sentinel, .sentinel, .sentinel, .sentinel, .sentinel, .sentinel, .sentinel, .sentinel, .sentinel, .sentinel, .sentinel, .sentinel, .sentinel, .sentinel, .sentinel, .sentinel, .sentinel, .sentinel, .sentinel, .sentinel, .sentinel, .sentinel, .sentinel, .sentinel, .sentinel, .sentinel, .sentinel, .data, .data, .data, .data, .data] true :=
  Program.laidByTextLater_by_one 795 8 65 (by kernel_rfl) (by kernel_rfl) (by kernel_rfl) (by kernel_rfl) (by kernel_rfl) (by kernel_rfl) (fun _ _ => by kernel_rfl)
theorem seatTie2 : Tryz.prog.laidByTextLater [("math/bits.deBruijn32tab", Rows.laid_math_bits_deBruijn32tab), ("math/bits.deBruijn64tab", Rows.laid_math_bits_deBruijn64tab), ("internal/strconv.uint64pow10", Rows.laid_internal_strconv_uint64pow10), ("unicode/utf8.acceptRanges", Rows.laid_unicode_utf8_acceptRanges), ("remit/api.ErrShort", Rows.laid_remit_api_ErrShort), ("remit/api.ErrVarint", Rows.laid_remit_api_ErrVarint), ("remit/api.ErrLimit", Rows.laid_remit_api_ErrLimit), ("remit/api.ErrOrder", Rows.laid_remit_api_ErrOrder), ("remit/api.ErrTail", Rows.laid_remit_api_ErrTail), ("remit/api.ErrRange", Rows.laid_remit_api_ErrRange), ("remit/api.ErrForm", Rows.laid_remit_api_ErrForm), ("remit/api.ErrDigits", Rows.laid_remit_api_ErrDigits), ("remit/api.ErrAmount", Rows.laid_remit_api_ErrAmount), ("remit/api.ErrOverflow", Rows.laid_remit_api_ErrOverflow), ("remit/api.ErrCurrency", Rows.laid_remit_api_ErrCurrency), ("remit/api.ErrDown", Rows.laid_remit_api_ErrDown), ("remit/api.ErrSmall", Rows.laid_remit_api_ErrSmall), ("remit/api.ErrBlank", Rows.laid_remit_api_ErrBlank), ("remit/api.ErrCorrupt", Rows.laid_remit_api_ErrCorrupt), ("remit/api.ErrWorn", Rows.laid_remit_api_ErrWorn), ("remit/api.ErrFull", Rows.laid_remit_api_ErrFull), ("remit/api.ErrLarge", Rows.laid_remit_api_ErrLarge), ("remit/api.ErrClosed", Rows.laid_remit_api_ErrClosed), ("remit/api.ErrAccount", Rows.laid_remit_api_ErrAccount), ("remit/api.ErrExists", Rows.laid_remit_api_ErrExists), ("remit/api.ErrFrozen", Rows.laid_remit_api_ErrFrozen), ("remit/api.ErrFunds", Rows.laid_remit_api_ErrFunds), ("remit/api.ErrLegs", Rows.laid_remit_api_ErrLegs), ("remit/api.ErrConflict", Rows.laid_remit_api_ErrConflict), ("remit/api.ErrId", Rows.laid_remit_api_ErrId), ("remit/api.ErrPayee", Rows.laid_remit_api_ErrPayee), ("remit/api.ErrRail", Rows.laid_remit_api_ErrRail), ("remit/api.ErrBusy", Rows.laid_remit_api_ErrBusy), ("remit/api.ErrWindow", Rows.laid_remit_api_ErrWindow), ("remit/api.ErrPhase", Rows.laid_remit_api_ErrPhase), ("remit/api.ErrToken", Rows.laid_remit_api_ErrToken), ("remit/api.ErrTime", Rows.laid_remit_api_ErrTime), ("remit/api.ErrUnknown", Rows.laid_remit_api_ErrUnknown), ("remit/api.ErrConfig", Rows.laid_remit_api_ErrConfig), ("remit/api.ErrCommand", Rows.laid_remit_api_ErrCommand), ("remit/api.ErrUse", Rows.laid_remit_api_ErrUse), ("strconv.ErrRange", Rows.laid_strconv_ErrRange), ("strconv.ErrSyntax", Rows.laid_strconv_ErrSyntax), ("math/big.leafSize", Rows.laid_math_big_leafSize), ("math/big.divRecursiveThreshold", Rows.laid_math_big_divRecursiveThreshold), ("math/big.karatsubaThreshold", Rows.laid_math_big_karatsubaThreshold), ("math/big.basicSqrThreshold", Rows.laid_math_big_basicSqrThreshold), ("math/big.karatsubaSqrThreshold", Rows.laid_math_big_karatsubaSqrThreshold)] [.data, .data, .data, .data, .sentinel, .sentinel, .sentinel, .sentinel, .sentinel, .sentinel, .sentinel, .sentinel, .sentinel, .sentinel, .sentinel, .sentinel, .sentinel, .sentinel, .sentinel, .sentinel, .sentinel, .sentinel, .sentinel, .sentinel, .sentinel, .sentinel, .sentinel, .sentinel, .sentinel, .sentinel, .sentinel, .sentinel, .sentinel, .sentinel, .sentinel, .sentinel, .sentinel, .sentinel, .sentinel, .sentinel, .sentinel, .sentinel, .sentinel, .data, .data, .data, .data, .data] true :=
  Program.laidByTextLater_by_one 795 8 65 (by kernel_rfl) (by kernel_rfl) (by kernel_rfl) (by kernel_rfl) (by kernel_rfl) (by kernel_rfl) (fun _ _ => by kernel_rfl)
theorem pin_laid_unicode_utf8_first : Tryz.pinned.checked.prog.pinnedFits "unicode/utf8.first" = true := by kernel_rfl
theorem noOwnUnsafe : Tryz.pinned.checked.prog.headLifts.contains "ownunsafe" = false := by kernel_rfl
theorem tie : Tryz.prog.laidByTextLater [("math/bits.deBruijn32tab", Rows.laid_math_bits_deBruijn32tab), ("math/bits.deBruijn64tab", Rows.laid_math_bits_deBruijn64tab), ("internal/strconv.uint64pow10", Rows.laid_internal_strconv_uint64pow10), ("remit/api.ErrShort", Rows.laid_remit_api_ErrShort), ("remit/api.ErrVarint", Rows.laid_remit_api_ErrVarint), ("remit/api.ErrLimit", Rows.laid_remit_api_ErrLimit), ("remit/api.ErrOrder", Rows.laid_remit_api_ErrOrder), ("remit/api.ErrTail", Rows.laid_remit_api_ErrTail), ("remit/api.ErrRange", Rows.laid_remit_api_ErrRange), ("remit/api.ErrForm", Rows.laid_remit_api_ErrForm), ("remit/api.ErrDigits", Rows.laid_remit_api_ErrDigits), ("remit/api.ErrAmount", Rows.laid_remit_api_ErrAmount), ("remit/api.ErrOverflow", Rows.laid_remit_api_ErrOverflow), ("remit/api.ErrCurrency", Rows.laid_remit_api_ErrCurrency), ("remit/api.ErrDown", Rows.laid_remit_api_ErrDown), ("remit/api.ErrSmall", Rows.laid_remit_api_ErrSmall), ("remit/api.ErrBlank", Rows.laid_remit_api_ErrBlank), ("remit/api.ErrCorrupt", Rows.laid_remit_api_ErrCorrupt), ("remit/api.ErrWorn", Rows.laid_remit_api_ErrWorn), ("remit/api.ErrFull", Rows.laid_remit_api_ErrFull), ("remit/api.ErrLarge", Rows.laid_remit_api_ErrLarge), ("remit/api.ErrClosed", Rows.laid_remit_api_ErrClosed), ("remit/api.ErrAccount", Rows.laid_remit_api_ErrAccount), ("remit/api.ErrExists", Rows.laid_remit_api_ErrExists), ("remit/api.ErrFrozen", Rows.laid_remit_api_ErrFrozen), ("remit/api.ErrFunds", Rows.laid_remit_api_ErrFunds), ("remit/api.ErrLegs", Rows.laid_remit_api_ErrLegs), ("remit/api.ErrConflict", Rows.laid_remit_api_ErrConflict), ("remit/api.ErrId", Rows.laid_remit_api_ErrId), ("remit/api.ErrPayee", Rows.laid_remit_api_ErrPayee), ("remit/api.ErrRail", Rows.laid_remit_api_ErrRail), ("remit/api.ErrBusy", Rows.laid_remit_api_ErrBusy), ("remit/api.ErrWindow", Rows.laid_remit_api_ErrWindow), ("remit/api.ErrPhase", Rows.laid_remit_api_ErrPhase), ("remit/api.ErrToken", Rows.laid_remit_api_ErrToken), ("remit/api.ErrTime", Rows.laid_remit_api_ErrTime), ("remit/api.ErrUnknown", Rows.laid_remit_api_ErrUnknown), ("remit/api.ErrConfig", Rows.laid_remit_api_ErrConfig), ("remit/api.ErrCommand", Rows.laid_remit_api_ErrCommand), ("remit/api.ErrUse", Rows.laid_remit_api_ErrUse), ("math/big.leafSize", Rows.laid_math_big_leafSize), ("math/big.divRecursiveThreshold", Rows.laid_math_big_divRecursiveThreshold), ("math/big.karatsubaThreshold", Rows.laid_math_big_karatsubaThreshold), ("math/big.basicSqrThreshold", Rows.laid_math_big_basicSqrThreshold), ("math/big.karatsubaSqrThreshold", Rows.laid_math_big_karatsubaSqrThreshold)] [.data, .data, .data, .sentinel, .sentinel, .sentinel, .sentinel, .sentinel, .sentinel, .sentinel, .sentinel, .sentinel, .sentinel, .sentinel, .sentinel, .sentinel, .sentinel, .sentinel, .sentinel, .sentinel, .sentinel, .sentinel, .sentinel, .sentinel, .sentinel, .sentinel, .sentinel, .sentinel, .sentinel, .sentinel, .sentinel, .sentinel, .sentinel, .sentinel, .sentinel, .sentinel, .sentinel, .sentinel, .sentinel, .sentinel, .data, .data, .data, .data, .data] true :=
  Program.laidByTextLater.sub seatTie1 ["math/bits.deBruijn32tab", "math/bits.deBruijn64tab", "internal/strconv.uint64pow10", "remit/api.ErrShort", "remit/api.ErrVarint", "remit/api.ErrLimit", "remit/api.ErrOrder", "remit/api.ErrTail", "remit/api.ErrRange", "remit/api.ErrForm", "remit/api.ErrDigits", "remit/api.ErrAmount", "remit/api.ErrOverflow", "remit/api.ErrCurrency", "remit/api.ErrDown", "remit/api.ErrSmall", "remit/api.ErrBlank", "remit/api.ErrCorrupt", "remit/api.ErrWorn", "remit/api.ErrFull", "remit/api.ErrLarge", "remit/api.ErrClosed", "remit/api.ErrAccount", "remit/api.ErrExists", "remit/api.ErrFrozen", "remit/api.ErrFunds", "remit/api.ErrLegs", "remit/api.ErrConflict", "remit/api.ErrId", "remit/api.ErrPayee", "remit/api.ErrRail", "remit/api.ErrBusy", "remit/api.ErrWindow", "remit/api.ErrPhase", "remit/api.ErrToken", "remit/api.ErrTime", "remit/api.ErrUnknown", "remit/api.ErrConfig", "remit/api.ErrCommand", "remit/api.ErrUse", "math/big.leafSize", "math/big.divRecursiveThreshold", "math/big.karatsubaThreshold", "math/big.basicSqrThreshold", "math/big.karatsubaSqrThreshold"] (by kernel_rfl) (by kernel_rfl)
theorem moneyMemory_row_tie : Rows.moneyMemoryRow.laidByTextAt .later Tryz.pinned [.data, .data, .data, .sentinel, .sentinel, .sentinel, .sentinel, .sentinel, .sentinel, .sentinel, .sentinel, .sentinel, .sentinel, .sentinel, .sentinel, .sentinel, .sentinel, .sentinel, .sentinel, .sentinel, .sentinel, .sentinel, .sentinel, .sentinel, .sentinel, .sentinel, .sentinel, .sentinel, .sentinel, .sentinel, .sentinel, .sentinel, .sentinel, .sentinel, .sentinel, .sentinel, .sentinel, .sentinel, .sentinel, .sentinel, .data, .data, .data, .data, .data] true :=
  OpenClaim.laidByTextAt_later rfl rfl tie noOwnUnsafe
theorem fits2 : Tryz.pinned.checked.prog.listedFits [("math/bits.deBruijn32tab", Rows.laid_math_bits_deBruijn32tab), ("math/bits.deBruijn64tab", Rows.laid_math_bits_deBruijn64tab), ("internal/strconv.uint64pow10", Rows.laid_internal_strconv_uint64pow10), ("unicode/utf8.acceptRanges", Rows.laid_unicode_utf8_acceptRanges), ("remit/api.ErrShort", Rows.laid_remit_api_ErrShort), ("remit/api.ErrVarint", Rows.laid_remit_api_ErrVarint), ("remit/api.ErrLimit", Rows.laid_remit_api_ErrLimit), ("remit/api.ErrOrder", Rows.laid_remit_api_ErrOrder), ("remit/api.ErrTail", Rows.laid_remit_api_ErrTail), ("remit/api.ErrRange", Rows.laid_remit_api_ErrRange), ("remit/api.ErrForm", Rows.laid_remit_api_ErrForm), ("remit/api.ErrDigits", Rows.laid_remit_api_ErrDigits), ("remit/api.ErrAmount", Rows.laid_remit_api_ErrAmount), ("remit/api.ErrOverflow", Rows.laid_remit_api_ErrOverflow), ("remit/api.ErrCurrency", Rows.laid_remit_api_ErrCurrency), ("remit/api.ErrDown", Rows.laid_remit_api_ErrDown), ("remit/api.ErrSmall", Rows.laid_remit_api_ErrSmall), ("remit/api.ErrBlank", Rows.laid_remit_api_ErrBlank), ("remit/api.ErrCorrupt", Rows.laid_remit_api_ErrCorrupt), ("remit/api.ErrWorn", Rows.laid_remit_api_ErrWorn), ("remit/api.ErrFull", Rows.laid_remit_api_ErrFull), ("remit/api.ErrLarge", Rows.laid_remit_api_ErrLarge), ("remit/api.ErrClosed", Rows.laid_remit_api_ErrClosed), ("remit/api.ErrAccount", Rows.laid_remit_api_ErrAccount), ("remit/api.ErrExists", Rows.laid_remit_api_ErrExists), ("remit/api.ErrFrozen", Rows.laid_remit_api_ErrFrozen), ("remit/api.ErrFunds", Rows.laid_remit_api_ErrFunds), ("remit/api.ErrLegs", Rows.laid_remit_api_ErrLegs), ("remit/api.ErrConflict", Rows.laid_remit_api_ErrConflict), ("remit/api.ErrId", Rows.laid_remit_api_ErrId), ("remit/api.ErrPayee", Rows.laid_remit_api_ErrPayee), ("remit/api.ErrRail", Rows.laid_remit_api_ErrRail), ("remit/api.ErrBusy", Rows.laid_remit_api_ErrBusy), ("remit/api.ErrWindow", Rows.laid_remit_api_ErrWindow), ("remit/api.ErrPhase", Rows.laid_remit_api_ErrPhase), ("remit/api.ErrToken", Rows.laid_remit_api_ErrToken), ("remit/api.ErrTime", Rows.laid_remit_api_ErrTime), ("remit/api.ErrUnknown", Rows.laid_remit_api_ErrUnknown), ("remit/api.ErrConfig", Rows.laid_remit_api_ErrConfig), ("remit/api.ErrCommand", Rows.laid_remit_api_ErrCommand), ("remit/api.ErrUse", Rows.laid_remit_api_ErrUse), ("strconv.ErrRange", Rows.laid_strconv_ErrRange), ("strconv.ErrSyntax", Rows.laid_strconv_ErrSyntax), ("math/big.leafSize", Rows.laid_math_big_leafSize), ("math/big.divRecursiveThreshold", Rows.laid_math_big_divRecursiveThreshold), ("math/big.karatsubaThreshold", Rows.laid_math_big_karatsubaThreshold), ("math/big.basicSqrThreshold", Rows.laid_math_big_basicSqrThreshold), ("math/big.karatsubaSqrThreshold", Rows.laid_math_big_karatsubaSqrThreshold), ("unicode/utf8.first", Rows.laid_unicode_utf8_first)] = true := by
  unfold Program.listedFits
  rw [noOwnUnsafe]
  kernel_rfl
theorem tie2 : Tryz.prog.laidByTextLater [("math/bits.deBruijn32tab", Rows.laid_math_bits_deBruijn32tab), ("math/bits.deBruijn64tab", Rows.laid_math_bits_deBruijn64tab), ("internal/strconv.uint64pow10", Rows.laid_internal_strconv_uint64pow10), ("unicode/utf8.acceptRanges", Rows.laid_unicode_utf8_acceptRanges), ("remit/api.ErrShort", Rows.laid_remit_api_ErrShort), ("remit/api.ErrVarint", Rows.laid_remit_api_ErrVarint), ("remit/api.ErrLimit", Rows.laid_remit_api_ErrLimit), ("remit/api.ErrOrder", Rows.laid_remit_api_ErrOrder), ("remit/api.ErrTail", Rows.laid_remit_api_ErrTail), ("remit/api.ErrRange", Rows.laid_remit_api_ErrRange), ("remit/api.ErrForm", Rows.laid_remit_api_ErrForm), ("remit/api.ErrDigits", Rows.laid_remit_api_ErrDigits), ("remit/api.ErrAmount", Rows.laid_remit_api_ErrAmount), ("remit/api.ErrOverflow", Rows.laid_remit_api_ErrOverflow), ("remit/api.ErrCurrency", Rows.laid_remit_api_ErrCurrency), ("remit/api.ErrDown", Rows.laid_remit_api_ErrDown), ("remit/api.ErrSmall", Rows.laid_remit_api_ErrSmall), ("remit/api.ErrBlank", Rows.laid_remit_api_ErrBlank), ("remit/api.ErrCorrupt", Rows.laid_remit_api_ErrCorrupt), ("remit/api.ErrWorn", Rows.laid_remit_api_ErrWorn), ("remit/api.ErrFull", Rows.laid_remit_api_ErrFull), ("remit/api.ErrLarge", Rows.laid_remit_api_ErrLarge), ("remit/api.ErrClosed", Rows.laid_remit_api_ErrClosed), ("remit/api.ErrAccount", Rows.laid_remit_api_ErrAccount), ("remit/api.ErrExists", Rows.laid_remit_api_ErrExists), ("remit/api.ErrFrozen", Rows.laid_remit_api_ErrFrozen), ("remit/api.ErrFunds", Rows.laid_remit_api_ErrFunds), ("remit/api.ErrLegs", Rows.laid_remit_api_ErrLegs), ("remit/api.ErrConflict", Rows.laid_remit_api_ErrConflict), ("remit/api.ErrId", Rows.laid_remit_api_ErrId), ("remit/api.ErrPayee", Rows.laid_remit_api_ErrPayee), ("remit/api.ErrRail", Rows.laid_remit_api_ErrRail), ("remit/api.ErrBusy", Rows.laid_remit_api_ErrBusy), ("remit/api.ErrWindow", Rows.laid_remit_api_ErrWindow), ("remit/api.ErrPhase", Rows.laid_remit_api_ErrPhase), ("remit/api.ErrToken", Rows.laid_remit_api_ErrToken), ("remit/api.ErrTime", Rows.laid_remit_api_ErrTime), ("remit/api.ErrUnknown", Rows.laid_remit_api_ErrUnknown), ("remit/api.ErrConfig", Rows.laid_remit_api_ErrConfig), ("remit/api.ErrCommand", Rows.laid_remit_api_ErrCommand), ("remit/api.ErrUse", Rows.laid_remit_api_ErrUse), ("strconv.ErrRange", Rows.laid_strconv_ErrRange), ("strconv.ErrSyntax", Rows.laid_strconv_ErrSyntax), ("math/big.leafSize", Rows.laid_math_big_leafSize), ("math/big.divRecursiveThreshold", Rows.laid_math_big_divRecursiveThreshold), ("math/big.karatsubaThreshold", Rows.laid_math_big_karatsubaThreshold), ("math/big.basicSqrThreshold", Rows.laid_math_big_basicSqrThreshold), ("math/big.karatsubaSqrThreshold", Rows.laid_math_big_karatsubaSqrThreshold)] [.data, .data, .data, .data, .sentinel, .sentinel, .sentinel, .sentinel, .sentinel, .sentinel, .sentinel, .sentinel, .sentinel, .sentinel, .sentinel, .sentinel, .sentinel, .sentinel, .sentinel, .sentinel, .sentinel, .sentinel, .sentinel, .sentinel, .sentinel, .sentinel, .sentinel, .sentinel, .sentinel, .sentinel, .sentinel, .sentinel, .sentinel, .sentinel, .sentinel, .sentinel, .sentinel, .sentinel, .sentinel, .sentinel, .sentinel, .sentinel, .sentinel, .data, .data, .data, .data, .data] true :=
  Program.laidByTextLater.sub seatTie2 ["math/bits.deBruijn32tab", "math/bits.deBruijn64tab", "internal/strconv.uint64pow10", "unicode/utf8.acceptRanges", "remit/api.ErrShort", "remit/api.ErrVarint", "remit/api.ErrLimit", "remit/api.ErrOrder", "remit/api.ErrTail", "remit/api.ErrRange", "remit/api.ErrForm", "remit/api.ErrDigits", "remit/api.ErrAmount", "remit/api.ErrOverflow", "remit/api.ErrCurrency", "remit/api.ErrDown", "remit/api.ErrSmall", "remit/api.ErrBlank", "remit/api.ErrCorrupt", "remit/api.ErrWorn", "remit/api.ErrFull", "remit/api.ErrLarge", "remit/api.ErrClosed", "remit/api.ErrAccount", "remit/api.ErrExists", "remit/api.ErrFrozen", "remit/api.ErrFunds", "remit/api.ErrLegs", "remit/api.ErrConflict", "remit/api.ErrId", "remit/api.ErrPayee", "remit/api.ErrRail", "remit/api.ErrBusy", "remit/api.ErrWindow", "remit/api.ErrPhase", "remit/api.ErrToken", "remit/api.ErrTime", "remit/api.ErrUnknown", "remit/api.ErrConfig", "remit/api.ErrCommand", "remit/api.ErrUse", "strconv.ErrRange", "strconv.ErrSyntax", "math/big.leafSize", "math/big.divRecursiveThreshold", "math/big.karatsubaThreshold", "math/big.basicSqrThreshold", "math/big.karatsubaSqrThreshold"] (by kernel_rfl) (by kernel_rfl)
theorem moneyTexts_row_tie : Rows.moneyTextsRow.laidByTextAt .later Tryz.pinned [.data, .data, .data, .data, .sentinel, .sentinel, .sentinel, .sentinel, .sentinel, .sentinel, .sentinel, .sentinel, .sentinel, .sentinel, .sentinel, .sentinel, .sentinel, .sentinel, .sentinel, .sentinel, .sentinel, .sentinel, .sentinel, .sentinel, .sentinel, .sentinel, .sentinel, .sentinel, .sentinel, .sentinel, .sentinel, .sentinel, .sentinel, .sentinel, .sentinel, .sentinel, .sentinel, .sentinel, .sentinel, .sentinel, .sentinel, .sentinel, .sentinel, .data, .data, .data, .data, .data, .pinned] true :=
  OpenClaim.laidByTextAt_pinned rfl rfl tie2 rfl rfl rfl rfl (fun y hy _e => by
    simp only [Rows.moneyTextsRow, List.zip_cons_cons, List.zip_nil_right, List.mem_cons, List.mem_nil_iff, or_false] at hy
    rcases hy with rfl | rfl | rfl | rfl | rfl | rfl | rfl | rfl | rfl | rfl | rfl | rfl | rfl | rfl | rfl | rfl | rfl | rfl | rfl | rfl | rfl | rfl | rfl | rfl | rfl | rfl | rfl | rfl | rfl | rfl | rfl | rfl | rfl | rfl | rfl | rfl | rfl | rfl | rfl | rfl | rfl | rfl | rfl | rfl | rfl | rfl | rfl | rfl | rfl
    · cases _e
    · cases _e
    · cases _e
    · cases _e
    · cases _e
    · cases _e
    · cases _e
    · cases _e
    · cases _e
    · cases _e
    · cases _e
    · cases _e
    · cases _e
    · cases _e
    · cases _e
    · cases _e
    · cases _e
    · cases _e
    · cases _e
    · cases _e
    · cases _e
    · cases _e
    · cases _e
    · cases _e
    · cases _e
    · cases _e
    · cases _e
    · cases _e
    · cases _e
    · cases _e
    · cases _e
    · cases _e
    · cases _e
    · cases _e
    · cases _e
    · cases _e
    · cases _e
    · cases _e
    · cases _e
    · cases _e
    · cases _e
    · cases _e
    · cases _e
    · cases _e
    · cases _e
    · cases _e
    · cases _e
    · cases _e
    · exact ⟨pin_laid_unicode_utf8_first, by kernel_rfl⟩) fits2
theorem moneyMemoryUpto_row_tie : Rows.moneyMemoryUptoRow.laidByTextAt .later Tryz.pinned [.data, .data, .data, .sentinel, .sentinel, .sentinel, .sentinel, .sentinel, .sentinel, .sentinel, .sentinel, .sentinel, .sentinel, .sentinel, .sentinel, .sentinel, .sentinel, .sentinel, .sentinel, .sentinel, .sentinel, .sentinel, .sentinel, .sentinel, .sentinel, .sentinel, .sentinel, .sentinel, .sentinel, .sentinel, .sentinel, .sentinel, .sentinel, .sentinel, .sentinel, .sentinel, .sentinel, .sentinel, .sentinel, .sentinel, .data, .data, .data, .data, .data] true :=
  OpenClaim.laidByTextAt_later rfl rfl tie noOwnUnsafe
theorem moneyTextsUpto_row_tie : Rows.moneyTextsUptoRow.laidByTextAt .later Tryz.pinned [.data, .data, .data, .data, .sentinel, .sentinel, .sentinel, .sentinel, .sentinel, .sentinel, .sentinel, .sentinel, .sentinel, .sentinel, .sentinel, .sentinel, .sentinel, .sentinel, .sentinel, .sentinel, .sentinel, .sentinel, .sentinel, .sentinel, .sentinel, .sentinel, .sentinel, .sentinel, .sentinel, .sentinel, .sentinel, .sentinel, .sentinel, .sentinel, .sentinel, .sentinel, .sentinel, .sentinel, .sentinel, .sentinel, .sentinel, .sentinel, .sentinel, .data, .data, .data, .data, .data, .pinned] true :=
  OpenClaim.laidByTextAt_pinned rfl rfl tie2 rfl rfl rfl rfl (fun y hy _e => by
    simp only [Rows.moneyTextsUptoRow, List.zip_cons_cons, List.zip_nil_right, List.mem_cons, List.mem_nil_iff, or_false] at hy
    rcases hy with rfl | rfl | rfl | rfl | rfl | rfl | rfl | rfl | rfl | rfl | rfl | rfl | rfl | rfl | rfl | rfl | rfl | rfl | rfl | rfl | rfl | rfl | rfl | rfl | rfl | rfl | rfl | rfl | rfl | rfl | rfl | rfl | rfl | rfl | rfl | rfl | rfl | rfl | rfl | rfl | rfl | rfl | rfl | rfl | rfl | rfl | rfl | rfl | rfl
    · cases _e
    · cases _e
    · cases _e
    · cases _e
    · cases _e
    · cases _e
    · cases _e
    · cases _e
    · cases _e
    · cases _e
    · cases _e
    · cases _e
    · cases _e
    · cases _e
    · cases _e
    · cases _e
    · cases _e
    · cases _e
    · cases _e
    · cases _e
    · cases _e
    · cases _e
    · cases _e
    · cases _e
    · cases _e
    · cases _e
    · cases _e
    · cases _e
    · cases _e
    · cases _e
    · cases _e
    · cases _e
    · cases _e
    · cases _e
    · cases _e
    · cases _e
    · cases _e
    · cases _e
    · cases _e
    · cases _e
    · cases _e
    · cases _e
    · cases _e
    · cases _e
    · cases _e
    · cases _e
    · cases _e
    · cases _e
    · exact ⟨pin_laid_unicode_utf8_first, by kernel_rfl⟩) fits2
end Go.Proofs.YthkobjbemmllfaaGreatDoor
