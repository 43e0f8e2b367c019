/-
  DERIVED. GIVEN WITH THE SEED: THE CARDS: each row of YtfkkkebegkhdfaaDoorRows.lean that lists a variable, with what it lists TIED to the program's text (the seventh form; the later family's looks); each row that meets fmt, with fmt's text TOLD by the authors' own Lean function (tested against real Go, not proved from fmt's source: count such statements apart). THE CARD IS WHAT COUNTS. Prove the row's statement (the work); the ties are given (YtfkkkebegkhdfaaDoorTie.lean); close each card by the builder's one call (the guide's Derived/Test/ToyasCard.lean, 'card_holds'). Laid BY PROGRAM, IN A SANDBOX (cutbox-door.mjs). By AI agents, Wed Nov 11 2026. No macro, syntax, notation, axiom, sorry.
-/
import Derived.Test.YtfkkkebegkhdfaaDoorRows
import GoSem.ClaimSeven
namespace Go.Proofs.YtfkkkebegkhdfaaDoor
namespace Rows

/-- THE TIED CARD OF 'supercargolaw20.CostSplits'. -/
def costSplitsCard : Claim7 := { stood := { row := costSplitsRow, standIns := [], harness := (true, "829dcbaa572fd63fcd27e006f7b168b3923c597746fc7ec09741d1323ac22e9a"), looks := false }, kinds := [], alts := [], laidByText := true, laidKinds := [.widerDeep], laidTests := true, laidLooks := .later }
def CostSplitsCardSaid : Prop := Claim7.holds Tryd.pinned (.plain (OpenSpec.ofChange costSplitsSpec)) costSplitsCard

/-- THE TIED CARD OF 'supercargolaw20.CostLands'. -/
def costLandsCard : Claim7 := { stood := { row := costLandsRow, standIns := [], harness := (true, "829dcbaa572fd63fcd27e006f7b168b3923c597746fc7ec09741d1323ac22e9a"), looks := false }, kinds := [], alts := [], laidByText := true, laidKinds := [.widerDeep], laidTests := true, laidLooks := .later }
def CostLandsCardSaid : Prop := Claim7.holds Tryd.pinned (.plain (OpenSpec.ofChange costLandsSpec)) costLandsCard

/-- THE TIED CARD OF 'supercargolaw20.CostEach'. -/
def costEachCard : Claim7 := { stood := { row := costEachRow, standIns := [], harness := (true, "829dcbaa572fd63fcd27e006f7b168b3923c597746fc7ec09741d1323ac22e9a"), looks := false }, kinds := [], alts := [], laidByText := true, laidKinds := [.widerDeep], laidTests := true, laidLooks := .later }
def CostEachCardSaid : Prop := Claim7.holds Tryd.pinned (.plain (OpenSpec.ofChange costEachSpec)) costEachCard

/-- THE TIED CARD OF 'supercargolaw20.CostAdds'. -/
def costAddsCard : Claim7 := { stood := { row := costAddsRow, standIns := [], harness := (true, "829dcbaa572fd63fcd27e006f7b168b3923c597746fc7ec09741d1323ac22e9a"), looks := false }, kinds := [], alts := [], laidByText := true, laidKinds := [.widerDeep], laidTests := true, laidLooks := .later }
def CostAddsCardSaid : Prop := Claim7.holds Tryd.pinned (.plain (OpenSpec.ofChange costAddsSpec)) costAddsCard

/-- THE TIED CARD OF 'supercargolaw20.CostSums'. -/
def costSumsCard : Claim7 := { stood := { row := costSumsRow, standIns := [], harness := (true, "829dcbaa572fd63fcd27e006f7b168b3923c597746fc7ec09741d1323ac22e9a"), looks := false }, kinds := [], alts := [], laidByText := true, laidKinds := [.widerDeep], laidTests := true, laidLooks := .later }
def CostSumsCardSaid : Prop := Claim7.holds Tryd.pinned (.plain (OpenSpec.ofChange costSumsSpec)) costSumsCard

/-- THE TIED CARD OF 'supercargolaw20.CostChanges'. -/
def costChangesCard : Claim7 := { stood := { row := costChangesRow, standIns := [], harness := (true, "829dcbaa572fd63fcd27e006f7b168b3923c597746fc7ec09741d1323ac22e9a"), looks := false }, kinds := [], alts := [], laidByText := true, laidKinds := [.widerDeep], laidTests := true, laidLooks := .later }
def CostChangesCardSaid : Prop := Claim7.holds Tryd.pinned (.plain (OpenSpec.ofChange costChangesSpec)) costChangesCard

/-- THE TIED CARD OF 'supercargolaw20.CostLater'. -/
def costLaterCard : Claim7 := { stood := { row := costLaterRow, standIns := [], harness := (true, "829dcbaa572fd63fcd27e006f7b168b3923c597746fc7ec09741d1323ac22e9a"), looks := false }, kinds := [], alts := [], laidByText := true, laidKinds := [.widerDeep], laidTests := true, laidLooks := .later }
def CostLaterCardSaid : Prop := Claim7.holds Tryd.pinned (.plain (OpenSpec.ofChange costLaterSpec)) costLaterCard

/-- THE SECOND FORM's CARD OF 'supercargolaw20.CostSplits'. -/
def costSplitsUptoCard : Claim7 := { stood := { row := costSplitsUptoRow, standIns := [], harness := (true, "829dcbaa572fd63fcd27e006f7b168b3923c597746fc7ec09741d1323ac22e9a"), looks := false }, kinds := [], alts := [], laidByText := true, laidKinds := [.widerDeep], laidTests := true, laidLooks := .later }
def CostSplitsUptoCardSaid : Prop := Claim7.holds Tryd.pinned (.plain (OpenSpec.upto costSplitsSpec)) costSplitsUptoCard

/-- THE SECOND FORM's CARD OF 'supercargolaw20.CostLands'. -/
def costLandsUptoCard : Claim7 := { stood := { row := costLandsUptoRow, standIns := [], harness := (true, "829dcbaa572fd63fcd27e006f7b168b3923c597746fc7ec09741d1323ac22e9a"), looks := false }, kinds := [], alts := [], laidByText := true, laidKinds := [.widerDeep], laidTests := true, laidLooks := .later }
def CostLandsUptoCardSaid : Prop := Claim7.holds Tryd.pinned (.plain (OpenSpec.upto costLandsSpec)) costLandsUptoCard

/-- THE SECOND FORM's CARD OF 'supercargolaw20.CostEach'. -/
def costEachUptoCard : Claim7 := { stood := { row := costEachUptoRow, standIns := [], harness := (true, "829dcbaa572fd63fcd27e006f7b168b3923c597746fc7ec09741d1323ac22e9a"), looks := false }, kinds := [], alts := [], laidByText := true, laidKinds := [.widerDeep], laidTests := true, laidLooks := .later }
def CostEachUptoCardSaid : Prop := Claim7.holds Tryd.pinned (.plain (OpenSpec.upto costEachSpec)) costEachUptoCard

/-- THE SECOND FORM's CARD OF 'supercargolaw20.CostAdds'. -/
def costAddsUptoCard : Claim7 := { stood := { row := costAddsUptoRow, standIns := [], harness := (true, "829dcbaa572fd63fcd27e006f7b168b3923c597746fc7ec09741d1323ac22e9a"), looks := false }, kinds := [], alts := [], laidByText := true, laidKinds := [.widerDeep], laidTests := true, laidLooks := .later }
def CostAddsUptoCardSaid : Prop := Claim7.holds Tryd.pinned (.plain (OpenSpec.upto costAddsSpec)) costAddsUptoCard

/-- THE SECOND FORM's CARD OF 'supercargolaw20.CostSums'. -/
def costSumsUptoCard : Claim7 := { stood := { row := costSumsUptoRow, standIns := [], harness := (true, "829dcbaa572fd63fcd27e006f7b168b3923c597746fc7ec09741d1323ac22e9a"), looks := false }, kinds := [], alts := [], laidByText := true, laidKinds := [.widerDeep], laidTests := true, laidLooks := .later }
def CostSumsUptoCardSaid : Prop := Claim7.holds Tryd.pinned (.plain (OpenSpec.upto costSumsSpec)) costSumsUptoCard

/-- THE SECOND FORM's CARD OF 'supercargolaw20.CostChanges'. -/
def costChangesUptoCard : Claim7 := { stood := { row := costChangesUptoRow, standIns := [], harness := (true, "829dcbaa572fd63fcd27e006f7b168b3923c597746fc7ec09741d1323ac22e9a"), looks := false }, kinds := [], alts := [], laidByText := true, laidKinds := [.widerDeep], laidTests := true, laidLooks := .later }
def CostChangesUptoCardSaid : Prop := Claim7.holds Tryd.pinned (.plain (OpenSpec.upto costChangesSpec)) costChangesUptoCard

/-- THE SECOND FORM's CARD OF 'supercargolaw20.CostLater'. -/
def costLaterUptoCard : Claim7 := { stood := { row := costLaterUptoRow, standIns := [], harness := (true, "829dcbaa572fd63fcd27e006f7b168b3923c597746fc7ec09741d1323ac22e9a"), looks := false }, kinds := [], alts := [], laidByText := true, laidKinds := [.widerDeep], laidTests := true, laidLooks := .later }
def CostLaterUptoCardSaid : Prop := Claim7.holds Tryd.pinned (.plain (OpenSpec.upto costLaterSpec)) costLaterUptoCard
end Rows
end Go.Proofs.YtfkkkebegkhdfaaDoor
