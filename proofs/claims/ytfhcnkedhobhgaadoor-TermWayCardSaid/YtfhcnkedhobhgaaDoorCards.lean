/-
  DERIVED. GIVEN WITH THE SEED: THE CARDS: each row of YtfhcnkedhobhgaaDoorRows.lean that lists a variable, with what it lists TIED to the program's text (the seventh form; the later family's looks); each row that meets fmt, with fmt's text TOLD by the authors' own Lean function (tested against real Go, not proved from fmt's source: count such statements apart). THE CARD IS WHAT COUNTS. Prove the row's statement (the work); the ties are given (YtfhcnkedhobhgaaDoorTie.lean); close each card by the builder's one call (the guide's Derived/Test/ToyasCard.lean, 'card_holds'). Laid BY PROGRAM, IN A SANDBOX (cutbox-door.mjs). By AI agents, Wed Nov 11 2026. No macro, syntax, notation, axiom, sorry.
-/
import Derived.Test.YtfhcnkedhobhgaaDoorRows
import GoSem.ClaimSeven
namespace Go.Proofs.YtfhcnkedhobhgaaDoor
namespace Rows

/-- THE TIED CARD OF 'supercargolaw18.TermOnce'. -/
def termOnceCard : Claim7 := { stood := { row := termOnceRow, standIns := [], harness := (true, "0d7a02aa558ed108d7be71a05ff70785fdd5815bc5e1f70940ef650e7b5c8d18"), looks := false }, kinds := [], alts := [], laidByText := true, laidKinds := [.widerDeep], laidTests := true, laidLooks := .later }
def TermOnceCardSaid : Prop := Claim7.holds Tryd.pinned (.plain (OpenSpec.ofChange termOnceSpec)) termOnceCard

/-- THE TIED CARD OF 'supercargolaw18.TermCounts'. -/
def termCountsCard : Claim7 := { stood := { row := termCountsRow, standIns := [], harness := (true, "0d7a02aa558ed108d7be71a05ff70785fdd5815bc5e1f70940ef650e7b5c8d18"), looks := false }, kinds := [], alts := [], laidByText := true, laidKinds := [.widerDeep], laidTests := true, laidLooks := .later }
def TermCountsCardSaid : Prop := Claim7.holds Tryd.pinned (.plain (OpenSpec.ofChange termCountsSpec)) termCountsCard

/-- THE TIED CARD OF 'supercargolaw18.TermPays'. -/
def termPaysCard : Claim7 := { stood := { row := termPaysRow, standIns := [], harness := (true, "0d7a02aa558ed108d7be71a05ff70785fdd5815bc5e1f70940ef650e7b5c8d18"), looks := false }, kinds := [], alts := [], laidByText := true, laidKinds := [.widerDeep], laidTests := true, laidLooks := .later }
def TermPaysCardSaid : Prop := Claim7.holds Tryd.pinned (.plain (OpenSpec.ofChange termPaysSpec)) termPaysCard

/-- THE TIED CARD OF 'supercargolaw18.TermPapers'. -/
def termPapersCard : Claim7 := { stood := { row := termPapersRow, standIns := [], harness := (true, "0d7a02aa558ed108d7be71a05ff70785fdd5815bc5e1f70940ef650e7b5c8d18"), looks := false }, kinds := [], alts := [], laidByText := true, laidKinds := [.widerDeep], laidTests := true, laidLooks := .later }
def TermPapersCardSaid : Prop := Claim7.holds Tryd.pinned (.plain (OpenSpec.ofChange termPapersSpec)) termPapersCard

/-- THE TIED CARD OF 'supercargolaw18.TermNames'. -/
def termNamesCard : Claim7 := { stood := { row := termNamesRow, standIns := [], harness := (true, "0d7a02aa558ed108d7be71a05ff70785fdd5815bc5e1f70940ef650e7b5c8d18"), looks := false }, kinds := [], alts := [], laidByText := true, laidKinds := [.data, .widerDeep], laidTests := true, laidLooks := .later }
def TermNamesCardSaid : Prop := Claim7.holds Tryd.pinned (.plain (OpenSpec.ofChange termNamesSpec)) termNamesCard

/-- THE TIED CARD OF 'supercargolaw18.TermBearer'. -/
def termBearerCard : Claim7 := { stood := { row := termBearerRow, standIns := [], harness := (true, "0d7a02aa558ed108d7be71a05ff70785fdd5815bc5e1f70940ef650e7b5c8d18"), looks := false }, kinds := [], alts := [], laidByText := true, laidKinds := [.widerDeep], laidTests := true, laidLooks := .later }
def TermBearerCardSaid : Prop := Claim7.holds Tryd.pinned (.plain (OpenSpec.ofChange termBearerSpec)) termBearerCard

/-- THE TIED CARD OF 'supercargolaw18.TermWay'. -/
def termWayCard : Claim7 := { stood := { row := termWayRow, standIns := [], harness := (true, "0d7a02aa558ed108d7be71a05ff70785fdd5815bc5e1f70940ef650e7b5c8d18"), looks := false }, kinds := [], alts := [], laidByText := true, laidKinds := [.widerDeep], laidTests := true, laidLooks := .later }
def TermWayCardSaid : Prop := Claim7.holds Tryd.pinned (.plain (OpenSpec.ofChange termWaySpec)) termWayCard

/-- THE SECOND FORM's CARD OF 'supercargolaw18.TermOnce'. -/
def termOnceUptoCard : Claim7 := { stood := { row := termOnceUptoRow, standIns := [], harness := (true, "0d7a02aa558ed108d7be71a05ff70785fdd5815bc5e1f70940ef650e7b5c8d18"), looks := false }, kinds := [], alts := [], laidByText := true, laidKinds := [.widerDeep], laidTests := true, laidLooks := .later }
def TermOnceUptoCardSaid : Prop := Claim7.holds Tryd.pinned (.plain (OpenSpec.upto termOnceSpec)) termOnceUptoCard

/-- THE SECOND FORM's CARD OF 'supercargolaw18.TermCounts'. -/
def termCountsUptoCard : Claim7 := { stood := { row := termCountsUptoRow, standIns := [], harness := (true, "0d7a02aa558ed108d7be71a05ff70785fdd5815bc5e1f70940ef650e7b5c8d18"), looks := false }, kinds := [], alts := [], laidByText := true, laidKinds := [.widerDeep], laidTests := true, laidLooks := .later }
def TermCountsUptoCardSaid : Prop := Claim7.holds Tryd.pinned (.plain (OpenSpec.upto termCountsSpec)) termCountsUptoCard

/-- THE SECOND FORM's CARD OF 'supercargolaw18.TermPays'. -/
def termPaysUptoCard : Claim7 := { stood := { row := termPaysUptoRow, standIns := [], harness := (true, "0d7a02aa558ed108d7be71a05ff70785fdd5815bc5e1f70940ef650e7b5c8d18"), looks := false }, kinds := [], alts := [], laidByText := true, laidKinds := [.widerDeep], laidTests := true, laidLooks := .later }
def TermPaysUptoCardSaid : Prop := Claim7.holds Tryd.pinned (.plain (OpenSpec.upto termPaysSpec)) termPaysUptoCard

/-- THE SECOND FORM's CARD OF 'supercargolaw18.TermPapers'. -/
def termPapersUptoCard : Claim7 := { stood := { row := termPapersUptoRow, standIns := [], harness := (true, "0d7a02aa558ed108d7be71a05ff70785fdd5815bc5e1f70940ef650e7b5c8d18"), looks := false }, kinds := [], alts := [], laidByText := true, laidKinds := [.widerDeep], laidTests := true, laidLooks := .later }
def TermPapersUptoCardSaid : Prop := Claim7.holds Tryd.pinned (.plain (OpenSpec.upto termPapersSpec)) termPapersUptoCard

/-- THE SECOND FORM's CARD OF 'supercargolaw18.TermNames'. -/
def termNamesUptoCard : Claim7 := { stood := { row := termNamesUptoRow, standIns := [], harness := (true, "0d7a02aa558ed108d7be71a05ff70785fdd5815bc5e1f70940ef650e7b5c8d18"), looks := false }, kinds := [], alts := [], laidByText := true, laidKinds := [.data, .widerDeep], laidTests := true, laidLooks := .later }
def TermNamesUptoCardSaid : Prop := Claim7.holds Tryd.pinned (.plain (OpenSpec.upto termNamesSpec)) termNamesUptoCard

/-- THE SECOND FORM's CARD OF 'supercargolaw18.TermBearer'. -/
def termBearerUptoCard : Claim7 := { stood := { row := termBearerUptoRow, standIns := [], harness := (true, "0d7a02aa558ed108d7be71a05ff70785fdd5815bc5e1f70940ef650e7b5c8d18"), looks := false }, kinds := [], alts := [], laidByText := true, laidKinds := [.widerDeep], laidTests := true, laidLooks := .later }
def TermBearerUptoCardSaid : Prop := Claim7.holds Tryd.pinned (.plain (OpenSpec.upto termBearerSpec)) termBearerUptoCard

/-- THE SECOND FORM's CARD OF 'supercargolaw18.TermWay'. -/
def termWayUptoCard : Claim7 := { stood := { row := termWayUptoRow, standIns := [], harness := (true, "0d7a02aa558ed108d7be71a05ff70785fdd5815bc5e1f70940ef650e7b5c8d18"), looks := false }, kinds := [], alts := [], laidByText := true, laidKinds := [.widerDeep], laidTests := true, laidLooks := .later }
def TermWayUptoCardSaid : Prop := Claim7.holds Tryd.pinned (.plain (OpenSpec.upto termWaySpec)) termWayUptoCard
end Rows
end Go.Proofs.YtfhcnkedhobhgaaDoor
