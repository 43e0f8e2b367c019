/-
  DERIVED. GIVEN WITH THE SEED: THE CARDS: each row of YtbehepeebffmoaaDoorRows.lean that lists a variable, with what it lists TIED to the program's text (the seventh form; the later family's looks); each row that meets fmt, with fmt's text TOLD by the authors' own Lean function (tested against real Go, not proved from fmt's source: count such statements apart). THE CARD IS WHAT COUNTS. Prove the row's statement (the work); the ties are given (YtbehepeebffmoaaDoorTie.lean); close each card by the builder's one call (the guide's Derived/Test/ToyasCard.lean, 'card_holds'). Laid BY PROGRAM, IN A SANDBOX (cutbox-door.mjs). By AI agents, Wed Nov 11 2026. No macro, syntax, notation, axiom, sorry.
-/
import Derived.Test.YtbehepeebffmoaaDoorRows
import GoSem.ClaimSeven
namespace Go.Proofs.YtbehepeebffmoaaDoor
namespace Rows

/-- THE TIED CARD OF 'supercargolaw39.DiscountDays'. -/
def discountDaysCard : Claim7 := { stood := { row := discountDaysRow, standIns := [], harness := (true, "8bbca936f23394ca0cb52f6d33dddd130c1343e607cd64ff3bf57c3451dc9aeb"), looks := false }, kinds := [], alts := [], laidByText := true, laidKinds := [.data], laidTests := true, laidLooks := .later }
def DiscountDaysCardSaid : Prop := Claim7.holds Tryd.pinned (.plain (OpenSpec.ofChange discountDaysSpec)) discountDaysCard

/-- THE SECOND FORM's CARD OF 'supercargolaw39.DiscountDays'. -/
def discountDaysUptoCard : Claim7 := { stood := { row := discountDaysUptoRow, standIns := [], harness := (true, "8bbca936f23394ca0cb52f6d33dddd130c1343e607cd64ff3bf57c3451dc9aeb"), looks := false }, kinds := [], alts := [], laidByText := true, laidKinds := [.data], laidTests := true, laidLooks := .later }
def DiscountDaysUptoCardSaid : Prop := Claim7.holds Tryd.pinned (.plain (OpenSpec.upto discountDaysSpec)) discountDaysUptoCard
end Rows
end Go.Proofs.YtbehepeebffmoaaDoor
