/-
  No cell of these rows narrows 'for every input' (looked for: loops, veiled, ifaces, maps, wideKeys, modest, calm, conditions, laid).
  DERIVED. THE GIVEN ROWS OF THIS SEAT. 7 by the template 'for every input the law returns true; each argument reads behind the call as it read before'; 0 by the template 'total and deterministic' (their statements: YtoaopgamfndfgaaTotals.lean).
  GIVEN WITH THE SEED: the statements are not yours to turn. If you find one false, say at which input.
  Laid BY PROGRAM, IN A SANDBOX (cutbox-rows.mjs): the forced cells as the released guide's own fill.sh prints them over the translation c53181eb6f88fa9c… (all of the seat's roots in one cut). By AI agents, Wed Nov 11 2026. No macro, syntax, notation, axiom, sorry.
-/
import Derived.Test.YtoaopgamfndfgaaChecked
import GoSem.Claim
import GoSem.ClaimJoined
import GoSem.ClaimMapViews
import Derived.JoinedTies
import Derived.KernelRfl
namespace Go.Proofs.Ytoaopgamfndfgaa
/- THE CELL 'sum', in the pinned program and in every row, IS THE sha256 OF THE DUMP (.gsa) THAT YtoaopgamfndfgaaProg.lean LOADS. Nothing in Lean hashes anything: it is a label: what it is worth is what the hold of that sum in a sandbox is worth. -/
noncomputable def Try.pinned : Pinned := { name := "ytoaopgamfndfgaa", sum := "c53181eb6f88fa9c3b61917e6b58ea4c5a12852fadd2d9c3a6600e17e3cbe0ae", checked := Try.checked }
namespace Rows
def none {H : Type} : Left H := { results := [], args := [] }

/-- 'supercargolaw43.AveragePays': WHATEVER THE INPUT: true; the input reads as it did. -/
def averagePaysSpec : ChangeSpec := { name := "averagePays", fn := fun _ => fun
  | [d1, d2, d3] => { results := [.lit (.bool true)], args := [d1, d2, d3] }
  | _ => none }
def averagePaysRow : OpenClaim := { program := "ytoaopgamfndfgaa", sum := "c53181eb6f88fa9c3b61917e6b58ea4c5a12852fadd2d9c3a6600e17e3cbe0ae", func := "supercargo/supercargolaw43.AveragePays", spec := "averagePays", unfollowed := true, recurses := true, named := ["math/bits.divideError", "math/bits.overflowError"], apart := false }
def AveragePaysSaid : Prop := averagePaysRow.holds Try.pinned (OpenSpec.ofChange averagePaysSpec)

/-- ITS FALSE NEIGHBOUR: 'it returns false'. Refute it at one input. -/
def averagePaysWrong : ChangeSpec := { name := "averagePays", fn := fun _ => fun
  | [d1, d2, d3] => { results := [.lit (.bool false)], args := [d1, d2, d3] }
  | _ => none }
def AveragePaysWrongFalsely : Prop := averagePaysRow.holds Try.pinned (OpenSpec.ofChange averagePaysWrong)

/-- 'supercargolaw43.AverageSums': WHATEVER THE INPUT: true; the input reads as it did. -/
def averageSumsSpec : ChangeSpec := { name := "averageSums", fn := fun _ => fun
  | [d1, d2, d3] => { results := [.lit (.bool true)], args := [d1, d2, d3] }
  | _ => none }
def averageSumsRow : OpenClaim := { program := "ytoaopgamfndfgaa", sum := "c53181eb6f88fa9c3b61917e6b58ea4c5a12852fadd2d9c3a6600e17e3cbe0ae", func := "supercargo/supercargolaw43.AverageSums", spec := "averageSums", unfollowed := true, recurses := true, named := ["math/bits.divideError", "math/bits.overflowError"], apart := false }
def AverageSumsSaid : Prop := averageSumsRow.holds Try.pinned (OpenSpec.ofChange averageSumsSpec)

/-- ITS FALSE NEIGHBOUR: 'it returns false'. Refute it at one input. -/
def averageSumsWrong : ChangeSpec := { name := "averageSums", fn := fun _ => fun
  | [d1, d2, d3] => { results := [.lit (.bool false)], args := [d1, d2, d3] }
  | _ => none }
def AverageSumsWrongFalsely : Prop := averageSumsRow.holds Try.pinned (OpenSpec.ofChange averageSumsWrong)

/-- 'supercargolaw43.AverageSettles': WHATEVER THE INPUT: true; the input reads as it did. -/
def averageSettlesSpec : ChangeSpec := { name := "averageSettles", fn := fun _ => fun
  | [d1, d2, d3] => { results := [.lit (.bool true)], args := [d1, d2, d3] }
  | _ => none }
def averageSettlesRow : OpenClaim := { program := "ytoaopgamfndfgaa", sum := "c53181eb6f88fa9c3b61917e6b58ea4c5a12852fadd2d9c3a6600e17e3cbe0ae", func := "supercargo/supercargolaw43.AverageSettles", spec := "averageSettles", unfollowed := true, recurses := true, named := ["math/bits.divideError", "math/bits.overflowError"], apart := false }
def AverageSettlesSaid : Prop := averageSettlesRow.holds Try.pinned (OpenSpec.ofChange averageSettlesSpec)

/-- ITS FALSE NEIGHBOUR: 'it returns false'. Refute it at one input. -/
def averageSettlesWrong : ChangeSpec := { name := "averageSettles", fn := fun _ => fun
  | [d1, d2, d3] => { results := [.lit (.bool false)], args := [d1, d2, d3] }
  | _ => none }
def AverageSettlesWrongFalsely : Prop := averageSettlesRow.holds Try.pinned (OpenSpec.ofChange averageSettlesWrong)

/-- 'supercargolaw43.AverageOrder': WHATEVER THE INPUT: true; the input reads as it did. -/
def averageOrderSpec : ChangeSpec := { name := "averageOrder", fn := fun _ => fun
  | [d1, d2, d3, d4, d5] => { results := [.lit (.bool true)], args := [d1, d2, d3, d4, d5] }
  | _ => none }
def averageOrderRow : OpenClaim := { program := "ytoaopgamfndfgaa", sum := "c53181eb6f88fa9c3b61917e6b58ea4c5a12852fadd2d9c3a6600e17e3cbe0ae", func := "supercargo/supercargolaw43.AverageOrder", spec := "averageOrder", unfollowed := true, recurses := true, named := ["math/bits.divideError", "math/bits.overflowError"], apart := false }
def AverageOrderSaid : Prop := averageOrderRow.holds Try.pinned (OpenSpec.ofChange averageOrderSpec)

/-- ITS FALSE NEIGHBOUR: 'it returns false'. Refute it at one input. -/
def averageOrderWrong : ChangeSpec := { name := "averageOrder", fn := fun _ => fun
  | [d1, d2, d3, d4, d5] => { results := [.lit (.bool false)], args := [d1, d2, d3, d4, d5] }
  | _ => none }
def AverageOrderWrongFalsely : Prop := averageOrderRow.holds Try.pinned (OpenSpec.ofChange averageOrderWrong)

/-- 'supercargolaw43.AverageEnds': WHATEVER THE INPUT: true; the input reads as it did. -/
def averageEndsSpec : ChangeSpec := { name := "averageEnds", fn := fun _ => fun
  | [d] => { results := [.lit (.bool true)], args := [d] }
  | _ => none }
def averageEndsRow : OpenClaim := { program := "ytoaopgamfndfgaa", sum := "c53181eb6f88fa9c3b61917e6b58ea4c5a12852fadd2d9c3a6600e17e3cbe0ae", func := "supercargo/supercargolaw43.AverageEnds", spec := "averageEnds", unfollowed := true, recurses := true, named := ["math/bits.divideError", "math/bits.overflowError"], apart := false }
def AverageEndsSaid : Prop := averageEndsRow.holds Try.pinned (OpenSpec.ofChange averageEndsSpec)

/-- ITS FALSE NEIGHBOUR: 'it returns false'. Refute it at one input. -/
def averageEndsWrong : ChangeSpec := { name := "averageEnds", fn := fun _ => fun
  | [d] => { results := [.lit (.bool false)], args := [d] }
  | _ => none }
def AverageEndsWrongFalsely : Prop := averageEndsRow.holds Try.pinned (OpenSpec.ofChange averageEndsWrong)

/-- 'supercargolaw43.AverageFair': WHATEVER THE INPUT: true; the input reads as it did. -/
def averageFairSpec : ChangeSpec := { name := "averageFair", fn := fun _ => fun
  | [d1, d2, d3, d4, d5] => { results := [.lit (.bool true)], args := [d1, d2, d3, d4, d5] }
  | _ => none }
def averageFairRow : OpenClaim := { program := "ytoaopgamfndfgaa", sum := "c53181eb6f88fa9c3b61917e6b58ea4c5a12852fadd2d9c3a6600e17e3cbe0ae", func := "supercargo/supercargolaw43.AverageFair", spec := "averageFair", unfollowed := true, recurses := true, named := ["math/bits.divideError", "math/bits.overflowError"], apart := false }
def AverageFairSaid : Prop := averageFairRow.holds Try.pinned (OpenSpec.ofChange averageFairSpec)

/-- ITS FALSE NEIGHBOUR: 'it returns false'. Refute it at one input. -/
def averageFairWrong : ChangeSpec := { name := "averageFair", fn := fun _ => fun
  | [d1, d2, d3, d4, d5] => { results := [.lit (.bool false)], args := [d1, d2, d3, d4, d5] }
  | _ => none }
def AverageFairWrongFalsely : Prop := averageFairRow.holds Try.pinned (OpenSpec.ofChange averageFairWrong)

/-- 'supercargolaw43.AverageAdjusts': WHATEVER THE INPUT: true; the input reads as it did. -/
def averageAdjustsSpec : ChangeSpec := { name := "averageAdjusts", fn := fun _ => fun
  | [d1, d2, d3] => { results := [.lit (.bool true)], args := [d1, d2, d3] }
  | _ => none }
def averageAdjustsRow : OpenClaim := { program := "ytoaopgamfndfgaa", sum := "c53181eb6f88fa9c3b61917e6b58ea4c5a12852fadd2d9c3a6600e17e3cbe0ae", func := "supercargo/supercargolaw43.AverageAdjusts", spec := "averageAdjusts", unfollowed := true, recurses := true, named := ["math/bits.divideError", "math/bits.overflowError"], apart := false }
def AverageAdjustsSaid : Prop := averageAdjustsRow.holds Try.pinned (OpenSpec.ofChange averageAdjustsSpec)

/-- ITS FALSE NEIGHBOUR: 'it returns false'. Refute it at one input. -/
def averageAdjustsWrong : ChangeSpec := { name := "averageAdjusts", fn := fun _ => fun
  | [d1, d2, d3] => { results := [.lit (.bool false)], args := [d1, d2, d3] }
  | _ => none }
def AverageAdjustsWrongFalsely : Prop := averageAdjustsRow.holds Try.pinned (OpenSpec.ofChange averageAdjustsWrong)

/- THE SECOND FORM. 'bulk': how many values and letters a reading holds, each counted each time it is reached (what is shared counts as often as it is met; a slice's spare places count too). A statement '..UptoSaid' is the law's where the arguments, and the package variables that the reading takes, are together of bulk at most 1048576: NARROWER than '..Said'. Prove '..Said' where nothing that the law and all that it calls make is longer than what came in: it says more and counts as full. Else prove '..UptoSaid'. A law counts once. -/
mutual
def uptoBulk {H : Type} : DataW H → Nat
  | .lit (.string bytes) => bytes.length + 1
  | .lit _ => 1
  | .nil => 1
  | .ptr d => uptoBulk d + 1
  | .slice elems spare => uptoBulkAll elems + uptoBulkAll spare + 1
  | .agg parts => uptoBulkAll parts + 1
  | .iface _ d => uptoBulk d + 1
  | .map entries => uptoBulkEntries entries + 1
  | .held _ => 1
def uptoBulkAll {H : Type} : List (DataW H) → Nat
  | [] => 0
  | d :: r => uptoBulk d + uptoBulkAll r
def uptoBulkEntries {H : Type} : List (Lit × DataW H) → Nat
  | [] => 0
  | x :: r => uptoBulkEntry x + uptoBulkEntries r
def uptoBulkEntry {H : Type} : Lit × DataW H → Nat
  | (.string bytes, d) => bytes.length + uptoBulk d + 1
  | (_, d) => uptoBulk d + 1
 end
def uptoSmall : (H : Type) → List (DataW H) → Bool := fun _ ds => decide (uptoBulkAll ds ≤ 1048576)
def OpenSpec.upto (s : _root_.Go.ChangeSpec) : _root_.Go.OpenSpec := { _root_.Go.OpenSpec.ofChange s with cond := some uptoSmall }

/-- 'supercargolaw43.AveragePays', WHERE WHAT IT READS IS OF BULK AT MOST 1048576: true; the input reads as it did. -/
def averagePaysUptoRow : OpenClaim := { program := "ytoaopgamfndfgaa", sum := "c53181eb6f88fa9c3b61917e6b58ea4c5a12852fadd2d9c3a6600e17e3cbe0ae", func := "supercargo/supercargolaw43.AveragePays", spec := "averagePays", unfollowed := true, recurses := true, named := ["math/bits.divideError", "math/bits.overflowError"], apart := false, narrowed := true }
def AveragePaysUptoSaid : Prop := averagePaysUptoRow.holds Try.pinned (OpenSpec.upto averagePaysSpec)

/-- 'supercargolaw43.AverageSums', WHERE WHAT IT READS IS OF BULK AT MOST 1048576: true; the input reads as it did. -/
def averageSumsUptoRow : OpenClaim := { program := "ytoaopgamfndfgaa", sum := "c53181eb6f88fa9c3b61917e6b58ea4c5a12852fadd2d9c3a6600e17e3cbe0ae", func := "supercargo/supercargolaw43.AverageSums", spec := "averageSums", unfollowed := true, recurses := true, named := ["math/bits.divideError", "math/bits.overflowError"], apart := false, narrowed := true }
def AverageSumsUptoSaid : Prop := averageSumsUptoRow.holds Try.pinned (OpenSpec.upto averageSumsSpec)

/-- 'supercargolaw43.AverageSettles', WHERE WHAT IT READS IS OF BULK AT MOST 1048576: true; the input reads as it did. -/
def averageSettlesUptoRow : OpenClaim := { program := "ytoaopgamfndfgaa", sum := "c53181eb6f88fa9c3b61917e6b58ea4c5a12852fadd2d9c3a6600e17e3cbe0ae", func := "supercargo/supercargolaw43.AverageSettles", spec := "averageSettles", unfollowed := true, recurses := true, named := ["math/bits.divideError", "math/bits.overflowError"], apart := false, narrowed := true }
def AverageSettlesUptoSaid : Prop := averageSettlesUptoRow.holds Try.pinned (OpenSpec.upto averageSettlesSpec)

/-- 'supercargolaw43.AverageOrder', WHERE WHAT IT READS IS OF BULK AT MOST 1048576: true; the input reads as it did. -/
def averageOrderUptoRow : OpenClaim := { program := "ytoaopgamfndfgaa", sum := "c53181eb6f88fa9c3b61917e6b58ea4c5a12852fadd2d9c3a6600e17e3cbe0ae", func := "supercargo/supercargolaw43.AverageOrder", spec := "averageOrder", unfollowed := true, recurses := true, named := ["math/bits.divideError", "math/bits.overflowError"], apart := false, narrowed := true }
def AverageOrderUptoSaid : Prop := averageOrderUptoRow.holds Try.pinned (OpenSpec.upto averageOrderSpec)

/-- 'supercargolaw43.AverageEnds', WHERE WHAT IT READS IS OF BULK AT MOST 1048576: true; the input reads as it did. -/
def averageEndsUptoRow : OpenClaim := { program := "ytoaopgamfndfgaa", sum := "c53181eb6f88fa9c3b61917e6b58ea4c5a12852fadd2d9c3a6600e17e3cbe0ae", func := "supercargo/supercargolaw43.AverageEnds", spec := "averageEnds", unfollowed := true, recurses := true, named := ["math/bits.divideError", "math/bits.overflowError"], apart := false, narrowed := true }
def AverageEndsUptoSaid : Prop := averageEndsUptoRow.holds Try.pinned (OpenSpec.upto averageEndsSpec)

/-- 'supercargolaw43.AverageFair', WHERE WHAT IT READS IS OF BULK AT MOST 1048576: true; the input reads as it did. -/
def averageFairUptoRow : OpenClaim := { program := "ytoaopgamfndfgaa", sum := "c53181eb6f88fa9c3b61917e6b58ea4c5a12852fadd2d9c3a6600e17e3cbe0ae", func := "supercargo/supercargolaw43.AverageFair", spec := "averageFair", unfollowed := true, recurses := true, named := ["math/bits.divideError", "math/bits.overflowError"], apart := false, narrowed := true }
def AverageFairUptoSaid : Prop := averageFairUptoRow.holds Try.pinned (OpenSpec.upto averageFairSpec)

/-- 'supercargolaw43.AverageAdjusts', WHERE WHAT IT READS IS OF BULK AT MOST 1048576: true; the input reads as it did. -/
def averageAdjustsUptoRow : OpenClaim := { program := "ytoaopgamfndfgaa", sum := "c53181eb6f88fa9c3b61917e6b58ea4c5a12852fadd2d9c3a6600e17e3cbe0ae", func := "supercargo/supercargolaw43.AverageAdjusts", spec := "averageAdjusts", unfollowed := true, recurses := true, named := ["math/bits.divideError", "math/bits.overflowError"], apart := false, narrowed := true }
def AverageAdjustsUptoSaid : Prop := averageAdjustsUptoRow.holds Try.pinned (OpenSpec.upto averageAdjustsSpec)

end Rows
end Go.Proofs.Ytoaopgamfndfgaa
