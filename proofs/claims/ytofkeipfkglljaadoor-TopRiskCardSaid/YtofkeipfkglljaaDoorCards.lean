/-
  DERIVED. GIVEN WITH THE SEED: THE CARDS: each row of YtofkeipfkglljaaDoorRows.lean that lists a variable, with what it lists TIED to the program's text (the seventh form; the later family's looks); each row that meets fmt, with fmt's text TOLD by the authors' own Lean function (tested against real Go, not proved from fmt's source: count such statements apart). THE CARD IS WHAT COUNTS. Prove the row's statement (the work); the ties are given (YtofkeipfkglljaaDoorTie.lean); close each card by the builder's one call (the guide's Derived/Test/ToyasCard.lean, 'card_holds'). Laid BY PROGRAM, IN A SANDBOX (cutbox-door.mjs). By AI agents, Wed Nov 11 2026. No macro, syntax, notation, axiom, sorry.
-/
import Derived.Test.YtofkeipfkglljaaDoorRows
import GoSem.ClaimSeven
namespace Go.Proofs.YtofkeipfkglljaaDoor
namespace Rows

/-- THE TIED CARD OF 'supercargotop.TopRisk'. -/
def topRiskCard : Claim7 := { stood := { row := topRiskRow, standIns := [], harness := (true, "e7060fa92a0408305fab358c2f80cb6419de4e7fef643c31615b9b4a2082ab3e"), looks := false }, kinds := [], alts := [], laidByText := true, laidKinds := [.widerDeep], laidTests := true, laidLooks := .later }
def TopRiskCardSaid : Prop := Claim7.holds Tryd.pinned (.plain (OpenSpec.ofChange topRiskSpec)) topRiskCard

/-- THE SECOND FORM's CARD OF 'supercargotop.TopRisk'. -/
def topRiskUptoCard : Claim7 := { stood := { row := topRiskUptoRow, standIns := [], harness := (true, "e7060fa92a0408305fab358c2f80cb6419de4e7fef643c31615b9b4a2082ab3e"), looks := false }, kinds := [], alts := [], laidByText := true, laidKinds := [.widerDeep], laidTests := true, laidLooks := .later }
def TopRiskUptoCardSaid : Prop := Claim7.holds Tryd.pinned (.plain (OpenSpec.upto topRiskSpec)) topRiskUptoCard
end Rows
end Go.Proofs.YtofkeipfkglljaaDoor
