/-
  No cell of these rows narrows 'for every input' (looked for: loops, veiled, ifaces, maps, wideKeys, modest, calm, conditions, laid).
  DERIVED. THE GIVEN ROWS OF THIS SEAT. 8 by the template 'for every input the law returns true; each argument reads behind the call as it read before'; 0 by the template 'total and deterministic' (their statements: YtilfkpgdibhecaaTotals.lean).
  GIVEN WITH THE SEED: the statements are not yours to turn. If you find one false, say at which input.
  Laid BY PROGRAM, IN A SANDBOX (cutbox-rows.mjs): the forced cells as the released guide's own fill.sh prints them over the translation 6917e3552f8f63cf… (all of the seat's roots in one cut). By AI agents, Wed Nov 11 2026. No macro, syntax, notation, axiom, sorry.
-/
import Derived.Test.YtilfkpgdibhecaaChecked
import GoSem.Claim
import GoSem.ClaimJoined
import GoSem.ClaimMapViews
import Derived.JoinedTies
import Derived.KernelRfl
namespace Go.Proofs.Ytilfkpgdibhecaa
/- THE CELL 'sum', in the pinned program and in every row, IS THE sha256 OF THE DUMP (.gsa) THAT YtilfkpgdibhecaaProg.lean LOADS. Nothing in Lean hashes anything: it is a label: what it is worth is what the hold of that sum in a sandbox is worth. -/
noncomputable def Try.pinned : Pinned := { name := "ytilfkpgdibhecaa", sum := "6917e3552f8f63cf7af337be7f245809e57b056abaced8d9f2bab8007e40d6eb", checked := Try.checked }
namespace Rows
def none {H : Type} : Left H := { results := [], args := [] }

/-- 'supercargolaw04.ShareSplits': WHATEVER THE INPUT: true; the input reads as it did. -/
def shareSplitsSpec : ChangeSpec := { name := "shareSplits", fn := fun _ => fun
  | [d1, d2] => { results := [.lit (.bool true)], args := [d1, d2] }
  | _ => none }
def shareSplitsRow : OpenClaim := { program := "ytilfkpgdibhecaa", sum := "6917e3552f8f63cf7af337be7f245809e57b056abaced8d9f2bab8007e40d6eb", func := "supercargo/supercargolaw04.ShareSplits", spec := "shareSplits", unfollowed := true, recurses := true, named := ["math/bits.divideError", "math/bits.overflowError"], apart := false }
def ShareSplitsSaid : Prop := shareSplitsRow.holds Try.pinned (OpenSpec.ofChange shareSplitsSpec)

/-- ITS FALSE NEIGHBOUR: 'it returns false'. Refute it at one input. -/
def shareSplitsWrong : ChangeSpec := { name := "shareSplits", fn := fun _ => fun
  | [d1, d2] => { results := [.lit (.bool false)], args := [d1, d2] }
  | _ => none }
def ShareSplitsWrongFalsely : Prop := shareSplitsRow.holds Try.pinned (OpenSpec.ofChange shareSplitsWrong)

/-- 'supercargolaw04.ShareSums': WHATEVER THE INPUT: true; the input reads as it did. -/
def shareSumsSpec : ChangeSpec := { name := "shareSums", fn := fun _ => fun
  | [d1, d2] => { results := [.lit (.bool true)], args := [d1, d2] }
  | _ => none }
def shareSumsRow : OpenClaim := { program := "ytilfkpgdibhecaa", sum := "6917e3552f8f63cf7af337be7f245809e57b056abaced8d9f2bab8007e40d6eb", func := "supercargo/supercargolaw04.ShareSums", spec := "shareSums", unfollowed := true, recurses := true, named := ["math/bits.divideError", "math/bits.overflowError"], apart := false }
def ShareSumsSaid : Prop := shareSumsRow.holds Try.pinned (OpenSpec.ofChange shareSumsSpec)

/-- ITS FALSE NEIGHBOUR: 'it returns false'. Refute it at one input. -/
def shareSumsWrong : ChangeSpec := { name := "shareSums", fn := fun _ => fun
  | [d1, d2] => { results := [.lit (.bool false)], args := [d1, d2] }
  | _ => none }
def ShareSumsWrongFalsely : Prop := shareSumsRow.holds Try.pinned (OpenSpec.ofChange shareSumsWrong)

/-- 'supercargolaw04.ShareGrows': WHATEVER THE INPUT: true; the input reads as it did. -/
def shareGrowsSpec : ChangeSpec := { name := "shareGrows", fn := fun _ => fun
  | [d1, d2] => { results := [.lit (.bool true)], args := [d1, d2] }
  | _ => none }
def shareGrowsRow : OpenClaim := { program := "ytilfkpgdibhecaa", sum := "6917e3552f8f63cf7af337be7f245809e57b056abaced8d9f2bab8007e40d6eb", func := "supercargo/supercargolaw04.ShareGrows", spec := "shareGrows", unfollowed := true, recurses := true, named := ["math/bits.divideError", "math/bits.overflowError"], apart := false }
def ShareGrowsSaid : Prop := shareGrowsRow.holds Try.pinned (OpenSpec.ofChange shareGrowsSpec)

/-- ITS FALSE NEIGHBOUR: 'it returns false'. Refute it at one input. -/
def shareGrowsWrong : ChangeSpec := { name := "shareGrows", fn := fun _ => fun
  | [d1, d2] => { results := [.lit (.bool false)], args := [d1, d2] }
  | _ => none }
def ShareGrowsWrongFalsely : Prop := shareGrowsRow.holds Try.pinned (OpenSpec.ofChange shareGrowsWrong)

/-- 'supercargolaw04.ShareMost': WHATEVER THE INPUT: true; the input reads as it did. -/
def shareMostSpec : ChangeSpec := { name := "shareMost", fn := fun _ => fun
  | [d] => { results := [.lit (.bool true)], args := [d] }
  | _ => none }
def shareMostRow : OpenClaim := { program := "ytilfkpgdibhecaa", sum := "6917e3552f8f63cf7af337be7f245809e57b056abaced8d9f2bab8007e40d6eb", func := "supercargo/supercargolaw04.ShareMost", spec := "shareMost", unfollowed := true, recurses := true, named := ["math/bits.divideError", "math/bits.overflowError"], apart := false }
def ShareMostSaid : Prop := shareMostRow.holds Try.pinned (OpenSpec.ofChange shareMostSpec)

/-- ITS FALSE NEIGHBOUR: 'it returns false'. Refute it at one input. -/
def shareMostWrong : ChangeSpec := { name := "shareMost", fn := fun _ => fun
  | [d] => { results := [.lit (.bool false)], args := [d] }
  | _ => none }
def ShareMostWrongFalsely : Prop := shareMostRow.holds Try.pinned (OpenSpec.ofChange shareMostWrong)

/-- 'supercargolaw04.ShareEven': WHATEVER THE INPUT: true; the input reads as it did. -/
def shareEvenSpec : ChangeSpec := { name := "shareEven", fn := fun _ => fun
  | [d1, d2] => { results := [.lit (.bool true)], args := [d1, d2] }
  | _ => none }
def shareEvenRow : OpenClaim := { program := "ytilfkpgdibhecaa", sum := "6917e3552f8f63cf7af337be7f245809e57b056abaced8d9f2bab8007e40d6eb", func := "supercargo/supercargolaw04.ShareEven", spec := "shareEven", unfollowed := true, recurses := true, named := ["math/bits.divideError", "math/bits.overflowError"], apart := false }
def ShareEvenSaid : Prop := shareEvenRow.holds Try.pinned (OpenSpec.ofChange shareEvenSpec)

/-- ITS FALSE NEIGHBOUR: 'it returns false'. Refute it at one input. -/
def shareEvenWrong : ChangeSpec := { name := "shareEven", fn := fun _ => fun
  | [d1, d2] => { results := [.lit (.bool false)], args := [d1, d2] }
  | _ => none }
def ShareEvenWrongFalsely : Prop := shareEvenRow.holds Try.pinned (OpenSpec.ofChange shareEvenWrong)

/-- 'supercargolaw04.ShareOf': WHATEVER THE INPUT: true; the input reads as it did. -/
def shareOfSpec : ChangeSpec := { name := "shareOf", fn := fun _ => fun
  | [d1, d2] => { results := [.lit (.bool true)], args := [d1, d2] }
  | _ => none }
def shareOfRow : OpenClaim := { program := "ytilfkpgdibhecaa", sum := "6917e3552f8f63cf7af337be7f245809e57b056abaced8d9f2bab8007e40d6eb", func := "supercargo/supercargolaw04.ShareOf", spec := "shareOf", unfollowed := true, recurses := true, named := ["math/bits.divideError", "math/bits.overflowError"], apart := false }
def ShareOfSaid : Prop := shareOfRow.holds Try.pinned (OpenSpec.ofChange shareOfSpec)

/-- ITS FALSE NEIGHBOUR: 'it returns false'. Refute it at one input. -/
def shareOfWrong : ChangeSpec := { name := "shareOf", fn := fun _ => fun
  | [d1, d2] => { results := [.lit (.bool false)], args := [d1, d2] }
  | _ => none }
def ShareOfWrongFalsely : Prop := shareOfRow.holds Try.pinned (OpenSpec.ofChange shareOfWrong)

/-- 'supercargolaw04.ShareRight': WHATEVER THE INPUT: true; the input reads as it did. -/
def shareRightSpec : ChangeSpec := { name := "shareRight", fn := fun _ => fun
  | [d1, d2, d3, d4, d5] => { results := [.lit (.bool true)], args := [d1, d2, d3, d4, d5] }
  | _ => none }
def shareRightRow : OpenClaim := { program := "ytilfkpgdibhecaa", sum := "6917e3552f8f63cf7af337be7f245809e57b056abaced8d9f2bab8007e40d6eb", func := "supercargo/supercargolaw04.ShareRight", spec := "shareRight", unfollowed := true, recurses := true, named := ["math/bits.divideError", "math/bits.overflowError"], apart := false }
def ShareRightSaid : Prop := shareRightRow.holds Try.pinned (OpenSpec.ofChange shareRightSpec)

/-- ITS FALSE NEIGHBOUR: 'it returns false'. Refute it at one input. -/
def shareRightWrong : ChangeSpec := { name := "shareRight", fn := fun _ => fun
  | [d1, d2, d3, d4, d5] => { results := [.lit (.bool false)], args := [d1, d2, d3, d4, d5] }
  | _ => none }
def ShareRightWrongFalsely : Prop := shareRightRow.holds Try.pinned (OpenSpec.ofChange shareRightWrong)

/-- 'supercargolaw04.ShareAdds': WHATEVER THE INPUT: true; the input reads as it did. -/
def shareAddsSpec : ChangeSpec := { name := "shareAdds", fn := fun _ => fun
  | [d1, d2] => { results := [.lit (.bool true)], args := [d1, d2] }
  | _ => none }
def shareAddsRow : OpenClaim := { program := "ytilfkpgdibhecaa", sum := "6917e3552f8f63cf7af337be7f245809e57b056abaced8d9f2bab8007e40d6eb", func := "supercargo/supercargolaw04.ShareAdds", spec := "shareAdds", inPlace := ["math/bits.Add64"], unfollowed := true, recurses := true, named := ["math/bits.divideError", "math/bits.overflowError"], apart := false }
def ShareAddsSaid : Prop := shareAddsRow.holds Try.pinned (OpenSpec.ofChange shareAddsSpec)

/-- ITS FALSE NEIGHBOUR: 'it returns false'. Refute it at one input. -/
def shareAddsWrong : ChangeSpec := { name := "shareAdds", fn := fun _ => fun
  | [d1, d2] => { results := [.lit (.bool false)], args := [d1, d2] }
  | _ => none }
def ShareAddsWrongFalsely : Prop := shareAddsRow.holds Try.pinned (OpenSpec.ofChange shareAddsWrong)

/- THE SECOND FORM. 'bulk': how many values and letters a reading holds, each counted each time it is reached (what is shared counts as often as it is met; a slice's spare places count too). A statement '..UptoSaid' is the law's where the arguments, and the package variables that the reading takes, are together of bulk at most 1048576: NARROWER than '..Said'. Prove '..Said' where nothing that the law and all that it calls make is longer than what came in: it says more and counts as full. Else prove '..UptoSaid'. A law counts once. -/
mutual
def uptoBulk {H : Type} : DataW H → Nat
  | .lit (.string bytes) => bytes.length + 1
  | .lit _ => 1
  | .nil => 1
  | .ptr d => uptoBulk d + 1
  | .slice elems spare => uptoBulkAll elems + uptoBulkAll spare + 1
  | .agg parts => uptoBulkAll parts + 1
  | .iface _ d => uptoBulk d + 1
  | .map entries => uptoBulkEntries entries + 1
  | .held _ => 1
def uptoBulkAll {H : Type} : List (DataW H) → Nat
  | [] => 0
  | d :: r => uptoBulk d + uptoBulkAll r
def uptoBulkEntries {H : Type} : List (Lit × DataW H) → Nat
  | [] => 0
  | x :: r => uptoBulkEntry x + uptoBulkEntries r
def uptoBulkEntry {H : Type} : Lit × DataW H → Nat
  | (.string bytes, d) => bytes.length + uptoBulk d + 1
  | (_, d) => uptoBulk d + 1
 end
def uptoSmall : (H : Type) → List (DataW H) → Bool := fun _ ds => decide (uptoBulkAll ds ≤ 1048576)
def OpenSpec.upto (s : _root_.Go.ChangeSpec) : _root_.Go.OpenSpec := { _root_.Go.OpenSpec.ofChange s with cond := some uptoSmall }

/-- 'supercargolaw04.ShareSplits', WHERE WHAT IT READS IS OF BULK AT MOST 1048576: true; the input reads as it did. -/
def shareSplitsUptoRow : OpenClaim := { program := "ytilfkpgdibhecaa", sum := "6917e3552f8f63cf7af337be7f245809e57b056abaced8d9f2bab8007e40d6eb", func := "supercargo/supercargolaw04.ShareSplits", spec := "shareSplits", unfollowed := true, recurses := true, named := ["math/bits.divideError", "math/bits.overflowError"], apart := false, narrowed := true }
def ShareSplitsUptoSaid : Prop := shareSplitsUptoRow.holds Try.pinned (OpenSpec.upto shareSplitsSpec)

/-- 'supercargolaw04.ShareSums', WHERE WHAT IT READS IS OF BULK AT MOST 1048576: true; the input reads as it did. -/
def shareSumsUptoRow : OpenClaim := { program := "ytilfkpgdibhecaa", sum := "6917e3552f8f63cf7af337be7f245809e57b056abaced8d9f2bab8007e40d6eb", func := "supercargo/supercargolaw04.ShareSums", spec := "shareSums", unfollowed := true, recurses := true, named := ["math/bits.divideError", "math/bits.overflowError"], apart := false, narrowed := true }
def ShareSumsUptoSaid : Prop := shareSumsUptoRow.holds Try.pinned (OpenSpec.upto shareSumsSpec)

/-- 'supercargolaw04.ShareGrows', WHERE WHAT IT READS IS OF BULK AT MOST 1048576: true; the input reads as it did. -/
def shareGrowsUptoRow : OpenClaim := { program := "ytilfkpgdibhecaa", sum := "6917e3552f8f63cf7af337be7f245809e57b056abaced8d9f2bab8007e40d6eb", func := "supercargo/supercargolaw04.ShareGrows", spec := "shareGrows", unfollowed := true, recurses := true, named := ["math/bits.divideError", "math/bits.overflowError"], apart := false, narrowed := true }
def ShareGrowsUptoSaid : Prop := shareGrowsUptoRow.holds Try.pinned (OpenSpec.upto shareGrowsSpec)

/-- 'supercargolaw04.ShareMost', WHERE WHAT IT READS IS OF BULK AT MOST 1048576: true; the input reads as it did. -/
def shareMostUptoRow : OpenClaim := { program := "ytilfkpgdibhecaa", sum := "6917e3552f8f63cf7af337be7f245809e57b056abaced8d9f2bab8007e40d6eb", func := "supercargo/supercargolaw04.ShareMost", spec := "shareMost", unfollowed := true, recurses := true, named := ["math/bits.divideError", "math/bits.overflowError"], apart := false, narrowed := true }
def ShareMostUptoSaid : Prop := shareMostUptoRow.holds Try.pinned (OpenSpec.upto shareMostSpec)

/-- 'supercargolaw04.ShareEven', WHERE WHAT IT READS IS OF BULK AT MOST 1048576: true; the input reads as it did. -/
def shareEvenUptoRow : OpenClaim := { program := "ytilfkpgdibhecaa", sum := "6917e3552f8f63cf7af337be7f245809e57b056abaced8d9f2bab8007e40d6eb", func := "supercargo/supercargolaw04.ShareEven", spec := "shareEven", unfollowed := true, recurses := true, named := ["math/bits.divideError", "math/bits.overflowError"], apart := false, narrowed := true }
def ShareEvenUptoSaid : Prop := shareEvenUptoRow.holds Try.pinned (OpenSpec.upto shareEvenSpec)

/-- 'supercargolaw04.ShareOf', WHERE WHAT IT READS IS OF BULK AT MOST 1048576: true; the input reads as it did. -/
def shareOfUptoRow : OpenClaim := { program := "ytilfkpgdibhecaa", sum := "6917e3552f8f63cf7af337be7f245809e57b056abaced8d9f2bab8007e40d6eb", func := "supercargo/supercargolaw04.ShareOf", spec := "shareOf", unfollowed := true, recurses := true, named := ["math/bits.divideError", "math/bits.overflowError"], apart := false, narrowed := true }
def ShareOfUptoSaid : Prop := shareOfUptoRow.holds Try.pinned (OpenSpec.upto shareOfSpec)

/-- 'supercargolaw04.ShareRight', WHERE WHAT IT READS IS OF BULK AT MOST 1048576: true; the input reads as it did. -/
def shareRightUptoRow : OpenClaim := { program := "ytilfkpgdibhecaa", sum := "6917e3552f8f63cf7af337be7f245809e57b056abaced8d9f2bab8007e40d6eb", func := "supercargo/supercargolaw04.ShareRight", spec := "shareRight", unfollowed := true, recurses := true, named := ["math/bits.divideError", "math/bits.overflowError"], apart := false, narrowed := true }
def ShareRightUptoSaid : Prop := shareRightUptoRow.holds Try.pinned (OpenSpec.upto shareRightSpec)

/-- 'supercargolaw04.ShareAdds', WHERE WHAT IT READS IS OF BULK AT MOST 1048576: true; the input reads as it did. -/
def shareAddsUptoRow : OpenClaim := { program := "ytilfkpgdibhecaa", sum := "6917e3552f8f63cf7af337be7f245809e57b056abaced8d9f2bab8007e40d6eb", func := "supercargo/supercargolaw04.ShareAdds", spec := "shareAdds", inPlace := ["math/bits.Add64"], unfollowed := true, recurses := true, named := ["math/bits.divideError", "math/bits.overflowError"], apart := false, narrowed := true }
def ShareAddsUptoSaid : Prop := shareAddsUptoRow.holds Try.pinned (OpenSpec.upto shareAddsSpec)

end Rows
end Go.Proofs.Ytilfkpgdibhecaa
