/-
  DERIVED. GIVEN WITH THE SEED: THE CARDS: each row of YtllaahdbngjigaaDoorRows.lean that lists a variable, with what it lists TIED to the program's text (the seventh form; the later family's looks); each row that meets fmt, with fmt's text TOLD by the authors' own Lean function (tested against real Go, not proved from fmt's source: count such statements apart). THE CARD IS WHAT COUNTS. Prove the row's statement (the work); the ties are given (YtllaahdbngjigaaDoorTie.lean); close each card by the builder's one call (the guide's Derived/Test/ToyasCard.lean, 'card_holds'). Laid BY PROGRAM, IN A SANDBOX (cutbox-door.mjs). By AI agents, Wed Nov 11 2026. No macro, syntax, notation, axiom, sorry.
-/
import Derived.Test.YtllaahdbngjigaaDoorRows
import GoSem.ClaimSeven
namespace Go.Proofs.YtllaahdbngjigaaDoor
namespace Rows

/-- THE TIED CARD OF 'supercargotop.TopSafe'. -/
def topSafeCard : Claim7 := { stood := { row := topSafeRow, standIns := [], harness := (true, "cb14a69cba83465bbea9c02e70016eaf936c26bd37e70308715f5d9e410ff4e7"), looks := false }, kinds := [], alts := [], laidByText := true, laidKinds := [.data], laidTests := true, laidLooks := .later }
def TopSafeCardSaid : Prop := Claim7.holds Tryd.pinned (.plain (OpenSpec.ofChange topSafeSpec)) topSafeCard

/-- THE TIED CARD OF 'supercargotop.TopBooks'. -/
def topBooksCard : Claim7 := { stood := { row := topBooksRow, standIns := [], harness := (true, "cb14a69cba83465bbea9c02e70016eaf936c26bd37e70308715f5d9e410ff4e7"), looks := false }, kinds := [], alts := [], laidByText := true, laidKinds := [.data, .data, .data], laidTests := true, laidLooks := .later }
def TopBooksCardSaid : Prop := Claim7.holds Tryd.pinned (.plain (OpenSpec.ofChange topBooksSpec)) topBooksCard

/-- THE SECOND FORM's CARD OF 'supercargotop.TopSafe'. -/
def topSafeUptoCard : Claim7 := { stood := { row := topSafeUptoRow, standIns := [], harness := (true, "cb14a69cba83465bbea9c02e70016eaf936c26bd37e70308715f5d9e410ff4e7"), looks := false }, kinds := [], alts := [], laidByText := true, laidKinds := [.data], laidTests := true, laidLooks := .later }
def TopSafeUptoCardSaid : Prop := Claim7.holds Tryd.pinned (.plain (OpenSpec.upto topSafeSpec)) topSafeUptoCard

/-- THE SECOND FORM's CARD OF 'supercargotop.TopBooks'. -/
def topBooksUptoCard : Claim7 := { stood := { row := topBooksUptoRow, standIns := [], harness := (true, "cb14a69cba83465bbea9c02e70016eaf936c26bd37e70308715f5d9e410ff4e7"), looks := false }, kinds := [], alts := [], laidByText := true, laidKinds := [.data, .data, .data], laidTests := true, laidLooks := .later }
def TopBooksUptoCardSaid : Prop := Claim7.holds Tryd.pinned (.plain (OpenSpec.upto topBooksSpec)) topBooksUptoCard
end Rows
end Go.Proofs.YtllaahdbngjigaaDoor
