/-
  NARROWER THAN 'FOR EVERY INPUT', by the rows' own cells (each row's printed sentence says how): TermOnce: laid · TermCounts: laid · TermPays: laid · TermPapers: laid · TermNames: laid · TermBearer: laid · TermWay: laid.
  DERIVED. THE GIVEN ROWS OF THIS SEAT. 7 by the template 'for every input the law returns true; each argument reads behind the call as it read before'; 0 by the template 'total and deterministic' (their statements: YtfhcnkedhobhgaaDoorTotals.lean).
  GIVEN WITH THE SEED: the statements are not yours to turn. If you find one false, say at which input.
  Laid BY PROGRAM, IN A SANDBOX (cutbox-rows.mjs): the forced cells as the released guide's own fill.sh prints them over the translation 59abd14509ee7459… (all of the seat's roots in one cut). By AI agents, Wed Nov 11 2026. No macro, syntax, notation, axiom, sorry.
-/
import Derived.Test.YtfhcnkedhobhgaaDoorChecked
import GoSem.Claim
import GoSem.ClaimJoined
import GoSem.ClaimMapViews
import Derived.JoinedTies
import Derived.KernelRfl
namespace Go.Proofs.YtfhcnkedhobhgaaDoor
/- THE CELL 'sum', in the pinned program and in every row, IS THE sha256 OF THE DUMP (.gsa) THAT YtfhcnkedhobhgaaDoorProg.lean LOADS. Nothing in Lean hashes anything: it is a label: what it is worth is what the hold of that sum in a sandbox is worth. -/
noncomputable def Tryd.pinned : Pinned := { name := "ytfhcnkedhobhgaadoor", sum := "59abd14509ee745900cce19ddce6bf2370b420965f9b5680978104b6ff7d55e4", checked := Tryd.checked }
namespace Rows
def none {H : Type} : Left H := { results := [], args := [] }

/- WHAT THE LISTED PACKAGE-LEVEL VARIABLES READ AS WHEN THE CALL BEGINS. Each datum BY PROGRAM (the guide's laid-datum.mjs) off the statement by which the dump's own 'gosem.cut.vars' lays the variable. In a bare row this is a premise. The card (YtfhcnkedhobhgaaDoorCards.lean) ties it to the program's text. -/
def laid_supercargo_term_terms {H : Type} : DataW H := .agg [.agg [.lit (.string [97, 116, 45, 119, 111, 114, 107, 115]), .lit (.int .i64 1), .lit (.int .i64 1), .slice [.lit (.int .i64 0), .lit (.int .i64 1)] []], .agg [.lit (.string [116, 111, 45, 99, 97, 114, 114, 105, 101, 114]), .lit (.int .i64 2), .lit (.int .i64 2), .slice [.lit (.int .i64 0), .lit (.int .i64 1)] []], .agg [.lit (.string [111, 110, 45, 98, 111, 97, 114, 100]), .lit (.int .i64 3), .lit (.int .i64 3), .slice [.lit (.int .i64 0), .lit (.int .i64 1), .lit (.int .i64 2)] []], .agg [.lit (.string [102, 114, 101, 105, 103, 104, 116, 45, 112, 97, 105, 100]), .lit (.int .i64 5), .lit (.int .i64 2), .slice [.lit (.int .i64 0), .lit (.int .i64 1), .lit (.int .i64 2)] []], .agg [.lit (.string [105, 110, 115, 117, 114, 101, 100]), .lit (.int .i64 5), .lit (.int .i64 3), .slice [.lit (.int .i64 0), .lit (.int .i64 1), .lit (.int .i64 2), .lit (.int .i64 3)] []], .agg [.lit (.string [108, 97, 110, 100, 101, 100]), .lit (.int .i64 5), .lit (.int .i64 5), .slice [.lit (.int .i64 0), .lit (.int .i64 1), .lit (.int .i64 2)] []], .agg [.lit (.string [99, 108, 101, 97, 114, 101, 100]), .lit (.int .i64 6), .lit (.int .i64 6), .slice [.lit (.int .i64 0), .lit (.int .i64 1), .lit (.int .i64 2), .lit (.int .i64 4)] []], .agg [.lit (.string [97, 116, 45, 100, 111, 111, 114]), .lit (.int .i64 7), .lit (.int .i64 7), .slice [.lit (.int .i64 0), .lit (.int .i64 1), .lit (.int .i64 2), .lit (.int .i64 4)] []]]
def laid_supercargo_term_names {H : Type} : DataW H := .agg [.lit (.string [102, 97, 99, 116, 111, 114, 121]), .lit (.string [104, 97, 110, 100, 101, 100]), .lit (.string [98, 111, 97, 114, 100, 101, 100]), .lit (.string [115, 97, 105, 108, 105, 110, 103]), .lit (.string [113, 117, 97, 121]), .lit (.string [99, 117, 115, 116, 111, 109, 115]), .lit (.string [114, 111, 97, 100]), .lit (.string [100, 111, 111, 114])]

/-- 'supercargolaw18.TermOnce': WHATEVER THE INPUT: true; the input reads as it did. -/
def termOnceSpec : ChangeSpec := { name := "termOnce", fn := fun _ => fun
  | [d1, d2, d3, d4] => { results := [.lit (.bool true)], args := [d1, d2, d3, d4] }
  | _ => none }
def termOnceRow : OpenClaim := { program := "ytfhcnkedhobhgaadoor", sum := "59abd14509ee745900cce19ddce6bf2370b420965f9b5680978104b6ff7d55e4", func := "supercargo/supercargolaw18.TermOnce", spec := "termOnce", named := ["supercargo/term.terms"], apart := false, laid := [("supercargo/term.terms", laid_supercargo_term_terms)] }
def TermOnceSaid : Prop := termOnceRow.holds Tryd.pinned (OpenSpec.ofChange termOnceSpec)

/-- ITS FALSE NEIGHBOUR: 'it returns false'. Refute it at one input. -/
def termOnceWrong : ChangeSpec := { name := "termOnce", fn := fun _ => fun
  | [d1, d2, d3, d4] => { results := [.lit (.bool false)], args := [d1, d2, d3, d4] }
  | _ => none }
def TermOnceWrongFalsely : Prop := termOnceRow.holds Tryd.pinned (OpenSpec.ofChange termOnceWrong)

/-- 'supercargolaw18.TermCounts': WHATEVER THE INPUT: true; the input reads as it did. -/
def termCountsSpec : ChangeSpec := { name := "termCounts", fn := fun _ => fun
  | [d] => { results := [.lit (.bool true)], args := [d] }
  | _ => none }
def termCountsRow : OpenClaim := { program := "ytfhcnkedhobhgaadoor", sum := "59abd14509ee745900cce19ddce6bf2370b420965f9b5680978104b6ff7d55e4", func := "supercargo/supercargolaw18.TermCounts", spec := "termCounts", named := ["supercargo/term.terms"], apart := false, laid := [("supercargo/term.terms", laid_supercargo_term_terms)] }
def TermCountsSaid : Prop := termCountsRow.holds Tryd.pinned (OpenSpec.ofChange termCountsSpec)

/-- ITS FALSE NEIGHBOUR: 'it returns false'. Refute it at one input. -/
def termCountsWrong : ChangeSpec := { name := "termCounts", fn := fun _ => fun
  | [d] => { results := [.lit (.bool false)], args := [d] }
  | _ => none }
def TermCountsWrongFalsely : Prop := termCountsRow.holds Tryd.pinned (OpenSpec.ofChange termCountsWrong)

/-- 'supercargolaw18.TermPays': WHATEVER THE INPUT: true; the input reads as it did. -/
def termPaysSpec : ChangeSpec := { name := "termPays", fn := fun _ => fun
  | [d1, d2] => { results := [.lit (.bool true)], args := [d1, d2] }
  | _ => none }
def termPaysRow : OpenClaim := { program := "ytfhcnkedhobhgaadoor", sum := "59abd14509ee745900cce19ddce6bf2370b420965f9b5680978104b6ff7d55e4", func := "supercargo/supercargolaw18.TermPays", spec := "termPays", named := ["supercargo/term.terms"], apart := false, laid := [("supercargo/term.terms", laid_supercargo_term_terms)] }
def TermPaysSaid : Prop := termPaysRow.holds Tryd.pinned (OpenSpec.ofChange termPaysSpec)

/-- ITS FALSE NEIGHBOUR: 'it returns false'. Refute it at one input. -/
def termPaysWrong : ChangeSpec := { name := "termPays", fn := fun _ => fun
  | [d1, d2] => { results := [.lit (.bool false)], args := [d1, d2] }
  | _ => none }
def TermPaysWrongFalsely : Prop := termPaysRow.holds Tryd.pinned (OpenSpec.ofChange termPaysWrong)

/-- 'supercargolaw18.TermPapers': WHATEVER THE INPUT: true; the input reads as it did. -/
def termPapersSpec : ChangeSpec := { name := "termPapers", fn := fun _ => fun
  | [d] => { results := [.lit (.bool true)], args := [d] }
  | _ => none }
def termPapersRow : OpenClaim := { program := "ytfhcnkedhobhgaadoor", sum := "59abd14509ee745900cce19ddce6bf2370b420965f9b5680978104b6ff7d55e4", func := "supercargo/supercargolaw18.TermPapers", spec := "termPapers", named := ["supercargo/term.terms"], apart := false, laid := [("supercargo/term.terms", laid_supercargo_term_terms)] }
def TermPapersSaid : Prop := termPapersRow.holds Tryd.pinned (OpenSpec.ofChange termPapersSpec)

/-- ITS FALSE NEIGHBOUR: 'it returns false'. Refute it at one input. -/
def termPapersWrong : ChangeSpec := { name := "termPapers", fn := fun _ => fun
  | [d] => { results := [.lit (.bool false)], args := [d] }
  | _ => none }
def TermPapersWrongFalsely : Prop := termPapersRow.holds Tryd.pinned (OpenSpec.ofChange termPapersWrong)

/-- 'supercargolaw18.TermNames': WHATEVER THE INPUT: true; the input reads as it did. -/
def termNamesSpec : ChangeSpec := { name := "termNames", fn := fun _ => fun
  | [d1, d2] => { results := [.lit (.bool true)], args := [d1, d2] }
  | _ => none }
def termNamesRow : OpenClaim := { program := "ytfhcnkedhobhgaadoor", sum := "59abd14509ee745900cce19ddce6bf2370b420965f9b5680978104b6ff7d55e4", func := "supercargo/supercargolaw18.TermNames", spec := "termNames", named := ["supercargo/term.terms", "supercargo/term.names"], apart := false, laid := [("supercargo/term.names", laid_supercargo_term_names), ("supercargo/term.terms", laid_supercargo_term_terms)] }
def TermNamesSaid : Prop := termNamesRow.holds Tryd.pinned (OpenSpec.ofChange termNamesSpec)

/-- ITS FALSE NEIGHBOUR: 'it returns false'. Refute it at one input. -/
def termNamesWrong : ChangeSpec := { name := "termNames", fn := fun _ => fun
  | [d1, d2] => { results := [.lit (.bool false)], args := [d1, d2] }
  | _ => none }
def TermNamesWrongFalsely : Prop := termNamesRow.holds Tryd.pinned (OpenSpec.ofChange termNamesWrong)

/-- 'supercargolaw18.TermBearer': WHATEVER THE INPUT: true; the input reads as it did. -/
def termBearerSpec : ChangeSpec := { name := "termBearer", fn := fun _ => fun
  | [d1, d2, d3, d4, d5] => { results := [.lit (.bool true)], args := [d1, d2, d3, d4, d5] }
  | _ => none }
def termBearerRow : OpenClaim := { program := "ytfhcnkedhobhgaadoor", sum := "59abd14509ee745900cce19ddce6bf2370b420965f9b5680978104b6ff7d55e4", func := "supercargo/supercargolaw18.TermBearer", spec := "termBearer", named := ["supercargo/term.terms"], apart := false, laid := [("supercargo/term.terms", laid_supercargo_term_terms)] }
def TermBearerSaid : Prop := termBearerRow.holds Tryd.pinned (OpenSpec.ofChange termBearerSpec)

/-- ITS FALSE NEIGHBOUR: 'it returns false'. Refute it at one input. -/
def termBearerWrong : ChangeSpec := { name := "termBearer", fn := fun _ => fun
  | [d1, d2, d3, d4, d5] => { results := [.lit (.bool false)], args := [d1, d2, d3, d4, d5] }
  | _ => none }
def TermBearerWrongFalsely : Prop := termBearerRow.holds Tryd.pinned (OpenSpec.ofChange termBearerWrong)

/-- 'supercargolaw18.TermWay': WHATEVER THE INPUT: true; the input reads as it did. -/
def termWaySpec : ChangeSpec := { name := "termWay", fn := fun _ => fun
  | [d1, d2, d3, d4, d5, d6, d7] => { results := [.lit (.bool true)], args := [d1, d2, d3, d4, d5, d6, d7] }
  | _ => none }
def termWayRow : OpenClaim := { program := "ytfhcnkedhobhgaadoor", sum := "59abd14509ee745900cce19ddce6bf2370b420965f9b5680978104b6ff7d55e4", func := "supercargo/supercargolaw18.TermWay", spec := "termWay", named := ["supercargo/term.terms"], apart := false, laid := [("supercargo/term.terms", laid_supercargo_term_terms)] }
def TermWaySaid : Prop := termWayRow.holds Tryd.pinned (OpenSpec.ofChange termWaySpec)

/-- ITS FALSE NEIGHBOUR: 'it returns false'. Refute it at one input. -/
def termWayWrong : ChangeSpec := { name := "termWay", fn := fun _ => fun
  | [d1, d2, d3, d4, d5, d6, d7] => { results := [.lit (.bool false)], args := [d1, d2, d3, d4, d5, d6, d7] }
  | _ => none }
def TermWayWrongFalsely : Prop := termWayRow.holds Tryd.pinned (OpenSpec.ofChange termWayWrong)

/- THE SECOND FORM. 'bulk': how many values and letters a reading holds, each counted each time it is reached (what is shared counts as often as it is met; a slice's spare places count too). A statement '..UptoSaid' is the law's where the arguments, and the package variables that the reading takes, are together of bulk at most 1048576: NARROWER than '..Said'. Prove '..Said' where nothing that the law and all that it calls make is longer than what came in: it says more and counts as full. Else prove '..UptoSaid'. A law counts once. -/
mutual
def uptoBulk {H : Type} : DataW H → Nat
  | .lit (.string bytes) => bytes.length + 1
  | .lit _ => 1
  | .nil => 1
  | .ptr d => uptoBulk d + 1
  | .slice elems spare => uptoBulkAll elems + uptoBulkAll spare + 1
  | .agg parts => uptoBulkAll parts + 1
  | .iface _ d => uptoBulk d + 1
  | .map entries => uptoBulkEntries entries + 1
  | .held _ => 1
def uptoBulkAll {H : Type} : List (DataW H) → Nat
  | [] => 0
  | d :: r => uptoBulk d + uptoBulkAll r
def uptoBulkEntries {H : Type} : List (Lit × DataW H) → Nat
  | [] => 0
  | x :: r => uptoBulkEntry x + uptoBulkEntries r
def uptoBulkEntry {H : Type} : Lit × DataW H → Nat
  | (.string bytes, d) => bytes.length + uptoBulk d + 1
  | (_, d) => uptoBulk d + 1
 end
def uptoSmall : (H : Type) → List (DataW H) → Bool := fun _ ds => decide (uptoBulkAll ds ≤ 1048576)
def OpenSpec.upto (s : _root_.Go.ChangeSpec) : _root_.Go.OpenSpec := { _root_.Go.OpenSpec.ofChange s with cond := some uptoSmall }

/-- 'supercargolaw18.TermOnce', WHERE WHAT IT READS IS OF BULK AT MOST 1048576: true; the input reads as it did. -/
def termOnceUptoRow : OpenClaim := { program := "ytfhcnkedhobhgaadoor", sum := "59abd14509ee745900cce19ddce6bf2370b420965f9b5680978104b6ff7d55e4", func := "supercargo/supercargolaw18.TermOnce", spec := "termOnce", named := ["supercargo/term.terms"], apart := false, laid := [("supercargo/term.terms", laid_supercargo_term_terms)], narrowed := true }
def TermOnceUptoSaid : Prop := termOnceUptoRow.holds Tryd.pinned (OpenSpec.upto termOnceSpec)

/-- 'supercargolaw18.TermCounts', WHERE WHAT IT READS IS OF BULK AT MOST 1048576: true; the input reads as it did. -/
def termCountsUptoRow : OpenClaim := { program := "ytfhcnkedhobhgaadoor", sum := "59abd14509ee745900cce19ddce6bf2370b420965f9b5680978104b6ff7d55e4", func := "supercargo/supercargolaw18.TermCounts", spec := "termCounts", named := ["supercargo/term.terms"], apart := false, laid := [("supercargo/term.terms", laid_supercargo_term_terms)], narrowed := true }
def TermCountsUptoSaid : Prop := termCountsUptoRow.holds Tryd.pinned (OpenSpec.upto termCountsSpec)

/-- 'supercargolaw18.TermPays', WHERE WHAT IT READS IS OF BULK AT MOST 1048576: true; the input reads as it did. -/
def termPaysUptoRow : OpenClaim := { program := "ytfhcnkedhobhgaadoor", sum := "59abd14509ee745900cce19ddce6bf2370b420965f9b5680978104b6ff7d55e4", func := "supercargo/supercargolaw18.TermPays", spec := "termPays", named := ["supercargo/term.terms"], apart := false, laid := [("supercargo/term.terms", laid_supercargo_term_terms)], narrowed := true }
def TermPaysUptoSaid : Prop := termPaysUptoRow.holds Tryd.pinned (OpenSpec.upto termPaysSpec)

/-- 'supercargolaw18.TermPapers', WHERE WHAT IT READS IS OF BULK AT MOST 1048576: true; the input reads as it did. -/
def termPapersUptoRow : OpenClaim := { program := "ytfhcnkedhobhgaadoor", sum := "59abd14509ee745900cce19ddce6bf2370b420965f9b5680978104b6ff7d55e4", func := "supercargo/supercargolaw18.TermPapers", spec := "termPapers", named := ["supercargo/term.terms"], apart := false, laid := [("supercargo/term.terms", laid_supercargo_term_terms)], narrowed := true }
def TermPapersUptoSaid : Prop := termPapersUptoRow.holds Tryd.pinned (OpenSpec.upto termPapersSpec)

/-- 'supercargolaw18.TermNames', WHERE WHAT IT READS IS OF BULK AT MOST 1048576: true; the input reads as it did. -/
def termNamesUptoRow : OpenClaim := { program := "ytfhcnkedhobhgaadoor", sum := "59abd14509ee745900cce19ddce6bf2370b420965f9b5680978104b6ff7d55e4", func := "supercargo/supercargolaw18.TermNames", spec := "termNames", named := ["supercargo/term.terms", "supercargo/term.names"], apart := false, laid := [("supercargo/term.names", laid_supercargo_term_names), ("supercargo/term.terms", laid_supercargo_term_terms)], narrowed := true }
def TermNamesUptoSaid : Prop := termNamesUptoRow.holds Tryd.pinned (OpenSpec.upto termNamesSpec)

/-- 'supercargolaw18.TermBearer', WHERE WHAT IT READS IS OF BULK AT MOST 1048576: true; the input reads as it did. -/
def termBearerUptoRow : OpenClaim := { program := "ytfhcnkedhobhgaadoor", sum := "59abd14509ee745900cce19ddce6bf2370b420965f9b5680978104b6ff7d55e4", func := "supercargo/supercargolaw18.TermBearer", spec := "termBearer", named := ["supercargo/term.terms"], apart := false, laid := [("supercargo/term.terms", laid_supercargo_term_terms)], narrowed := true }
def TermBearerUptoSaid : Prop := termBearerUptoRow.holds Tryd.pinned (OpenSpec.upto termBearerSpec)

/-- 'supercargolaw18.TermWay', WHERE WHAT IT READS IS OF BULK AT MOST 1048576: true; the input reads as it did. -/
def termWayUptoRow : OpenClaim := { program := "ytfhcnkedhobhgaadoor", sum := "59abd14509ee745900cce19ddce6bf2370b420965f9b5680978104b6ff7d55e4", func := "supercargo/supercargolaw18.TermWay", spec := "termWay", named := ["supercargo/term.terms"], apart := false, laid := [("supercargo/term.terms", laid_supercargo_term_terms)], narrowed := true }
def TermWayUptoSaid : Prop := termWayUptoRow.holds Tryd.pinned (OpenSpec.upto termWaySpec)

end Rows
end Go.Proofs.YtfhcnkedhobhgaaDoor
