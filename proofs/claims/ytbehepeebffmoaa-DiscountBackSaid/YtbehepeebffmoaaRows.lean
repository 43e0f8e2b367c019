/-
  No cell of these rows narrows 'for every input' (looked for: loops, veiled, ifaces, maps, wideKeys, modest, calm, conditions, laid).
  DERIVED. THE GIVEN ROWS OF THIS SEAT. 7 by the template 'for every input the law returns true; each argument reads behind the call as it read before'; 0 by the template 'total and deterministic' (their statements: YtbehepeebffmoaaTotals.lean).
  GIVEN WITH THE SEED: the statements are not yours to turn. If you find one false, say at which input.
  Laid BY PROGRAM, IN A SANDBOX (cutbox-rows.mjs): the forced cells as the released guide's own fill.sh prints them over the translation bde9fac60687c2b7… (all of the seat's roots in one cut). By AI agents, Wed Nov 11 2026. No macro, syntax, notation, axiom, sorry.
-/
import Derived.Test.YtbehepeebffmoaaChecked
import GoSem.Claim
import GoSem.ClaimJoined
import GoSem.ClaimMapViews
import Derived.JoinedTies
import Derived.KernelRfl
namespace Go.Proofs.Ytbehepeebffmoaa
/- THE CELL 'sum', in the pinned program and in every row, IS THE sha256 OF THE DUMP (.gsa) THAT YtbehepeebffmoaaProg.lean LOADS. Nothing in Lean hashes anything: it is a label: what it is worth is what the hold of that sum in a sandbox is worth. -/
noncomputable def Try.pinned : Pinned := { name := "ytbehepeebffmoaa", sum := "bde9fac60687c2b767d577435a0b087cda804da89a2898ab34367dec4af5eb40", checked := Try.checked }
namespace Rows
def none {H : Type} : Left H := { results := [], args := [] }

/-- 'supercargolaw39.DiscountInterest': WHATEVER THE INPUT: true; the input reads as it did. -/
def discountInterestSpec : ChangeSpec := { name := "discountInterest", fn := fun _ => fun
  | [d1, d2, d3, d4] => { results := [.lit (.bool true)], args := [d1, d2, d3, d4] }
  | _ => none }
def discountInterestRow : OpenClaim := { program := "ytbehepeebffmoaa", sum := "bde9fac60687c2b767d577435a0b087cda804da89a2898ab34367dec4af5eb40", func := "supercargo/supercargolaw39.DiscountInterest", spec := "discountInterest", apart := false }
def DiscountInterestSaid : Prop := discountInterestRow.holds Try.pinned (OpenSpec.ofChange discountInterestSpec)

/-- ITS FALSE NEIGHBOUR: 'it returns false'. Refute it at one input. -/
def discountInterestWrong : ChangeSpec := { name := "discountInterest", fn := fun _ => fun
  | [d1, d2, d3, d4] => { results := [.lit (.bool false)], args := [d1, d2, d3, d4] }
  | _ => none }
def DiscountInterestWrongFalsely : Prop := discountInterestRow.holds Try.pinned (OpenSpec.ofChange discountInterestWrong)

/-- 'supercargolaw39.DiscountSums': WHATEVER THE INPUT: true; the input reads as it did. -/
def discountSumsSpec : ChangeSpec := { name := "discountSums", fn := fun _ => fun
  | [d1, d2, d3, d4] => { results := [.lit (.bool true)], args := [d1, d2, d3, d4] }
  | _ => none }
def discountSumsRow : OpenClaim := { program := "ytbehepeebffmoaa", sum := "bde9fac60687c2b767d577435a0b087cda804da89a2898ab34367dec4af5eb40", func := "supercargo/supercargolaw39.DiscountSums", spec := "discountSums", apart := false }
def DiscountSumsSaid : Prop := discountSumsRow.holds Try.pinned (OpenSpec.ofChange discountSumsSpec)

/-- ITS FALSE NEIGHBOUR: 'it returns false'. Refute it at one input. -/
def discountSumsWrong : ChangeSpec := { name := "discountSums", fn := fun _ => fun
  | [d1, d2, d3, d4] => { results := [.lit (.bool false)], args := [d1, d2, d3, d4] }
  | _ => none }
def DiscountSumsWrongFalsely : Prop := discountSumsRow.holds Try.pinned (OpenSpec.ofChange discountSumsWrong)

/-- 'supercargolaw39.DiscountLonger': WHATEVER THE INPUT: true; the input reads as it did. -/
def discountLongerSpec : ChangeSpec := { name := "discountLonger", fn := fun _ => fun
  | [d1, d2, d3, d4, d5, d6, d7] => { results := [.lit (.bool true)], args := [d1, d2, d3, d4, d5, d6, d7] }
  | _ => none }
def discountLongerRow : OpenClaim := { program := "ytbehepeebffmoaa", sum := "bde9fac60687c2b767d577435a0b087cda804da89a2898ab34367dec4af5eb40", func := "supercargo/supercargolaw39.DiscountLonger", spec := "discountLonger", apart := false }
def DiscountLongerSaid : Prop := discountLongerRow.holds Try.pinned (OpenSpec.ofChange discountLongerSpec)

/-- ITS FALSE NEIGHBOUR: 'it returns false'. Refute it at one input. -/
def discountLongerWrong : ChangeSpec := { name := "discountLonger", fn := fun _ => fun
  | [d1, d2, d3, d4, d5, d6, d7] => { results := [.lit (.bool false)], args := [d1, d2, d3, d4, d5, d6, d7] }
  | _ => none }
def DiscountLongerWrongFalsely : Prop := discountLongerRow.holds Try.pinned (OpenSpec.ofChange discountLongerWrong)

/-- 'supercargolaw39.DiscountFair': WHATEVER THE INPUT: true; the input reads as it did. -/
def discountFairSpec : ChangeSpec := { name := "discountFair", fn := fun _ => fun
  | [d1, d2, d3, d4, d5] => { results := [.lit (.bool true)], args := [d1, d2, d3, d4, d5] }
  | _ => none }
def discountFairRow : OpenClaim := { program := "ytbehepeebffmoaa", sum := "bde9fac60687c2b767d577435a0b087cda804da89a2898ab34367dec4af5eb40", func := "supercargo/supercargolaw39.DiscountFair", spec := "discountFair", apart := false }
def DiscountFairSaid : Prop := discountFairRow.holds Try.pinned (OpenSpec.ofChange discountFairSpec)

/-- ITS FALSE NEIGHBOUR: 'it returns false'. Refute it at one input. -/
def discountFairWrong : ChangeSpec := { name := "discountFair", fn := fun _ => fun
  | [d1, d2, d3, d4, d5] => { results := [.lit (.bool false)], args := [d1, d2, d3, d4, d5] }
  | _ => none }
def DiscountFairWrongFalsely : Prop := discountFairRow.holds Try.pinned (OpenSpec.ofChange discountFairWrong)

/-- 'supercargolaw39.DiscountAdds': WHATEVER THE INPUT: true; the input reads as it did. -/
def discountAddsSpec : ChangeSpec := { name := "discountAdds", fn := fun _ => fun
  | [d1, d2, d3, d4, d5, d6] => { results := [.lit (.bool true)], args := [d1, d2, d3, d4, d5, d6] }
  | _ => none }
def discountAddsRow : OpenClaim := { program := "ytbehepeebffmoaa", sum := "bde9fac60687c2b767d577435a0b087cda804da89a2898ab34367dec4af5eb40", func := "supercargo/supercargolaw39.DiscountAdds", spec := "discountAdds", inPlace := ["math/bits.Add64"], named := ["math/bits.divideError", "math/bits.overflowError"], apart := false }
def DiscountAddsSaid : Prop := discountAddsRow.holds Try.pinned (OpenSpec.ofChange discountAddsSpec)

/-- ITS FALSE NEIGHBOUR: 'it returns false'. Refute it at one input. -/
def discountAddsWrong : ChangeSpec := { name := "discountAdds", fn := fun _ => fun
  | [d1, d2, d3, d4, d5, d6] => { results := [.lit (.bool false)], args := [d1, d2, d3, d4, d5, d6] }
  | _ => none }
def DiscountAddsWrongFalsely : Prop := discountAddsRow.holds Try.pinned (OpenSpec.ofChange discountAddsWrong)

/-- 'supercargolaw39.DiscountSchedule': WHATEVER THE INPUT: true; the input reads as it did. -/
def discountScheduleSpec : ChangeSpec := { name := "discountSchedule", fn := fun _ => fun
  | [d1, d2, d3, d4, d5] => { results := [.lit (.bool true)], args := [d1, d2, d3, d4, d5] }
  | _ => none }
def discountScheduleRow : OpenClaim := { program := "ytbehepeebffmoaa", sum := "bde9fac60687c2b767d577435a0b087cda804da89a2898ab34367dec4af5eb40", func := "supercargo/supercargolaw39.DiscountSchedule", spec := "discountSchedule", unfollowed := true, recurses := true, named := ["math/bits.divideError", "math/bits.overflowError"], apart := false }
def DiscountScheduleSaid : Prop := discountScheduleRow.holds Try.pinned (OpenSpec.ofChange discountScheduleSpec)

/-- ITS FALSE NEIGHBOUR: 'it returns false'. Refute it at one input. -/
def discountScheduleWrong : ChangeSpec := { name := "discountSchedule", fn := fun _ => fun
  | [d1, d2, d3, d4, d5] => { results := [.lit (.bool false)], args := [d1, d2, d3, d4, d5] }
  | _ => none }
def DiscountScheduleWrongFalsely : Prop := discountScheduleRow.holds Try.pinned (OpenSpec.ofChange discountScheduleWrong)

/-- 'supercargolaw39.DiscountBack': WHATEVER THE INPUT: true; the input reads as it did. -/
def discountBackSpec : ChangeSpec := { name := "discountBack", fn := fun _ => fun
  | [d1, d2, d3, d4, d5] => { results := [.lit (.bool true)], args := [d1, d2, d3, d4, d5] }
  | _ => none }
def discountBackRow : OpenClaim := { program := "ytbehepeebffmoaa", sum := "bde9fac60687c2b767d577435a0b087cda804da89a2898ab34367dec4af5eb40", func := "supercargo/supercargolaw39.DiscountBack", spec := "discountBack", unfollowed := true, recurses := true, named := ["math/bits.divideError", "math/bits.overflowError"], apart := false }
def DiscountBackSaid : Prop := discountBackRow.holds Try.pinned (OpenSpec.ofChange discountBackSpec)

/-- ITS FALSE NEIGHBOUR: 'it returns false'. Refute it at one input. -/
def discountBackWrong : ChangeSpec := { name := "discountBack", fn := fun _ => fun
  | [d1, d2, d3, d4, d5] => { results := [.lit (.bool false)], args := [d1, d2, d3, d4, d5] }
  | _ => none }
def DiscountBackWrongFalsely : Prop := discountBackRow.holds Try.pinned (OpenSpec.ofChange discountBackWrong)

/- THE SECOND FORM. 'bulk': how many values and letters a reading holds, each counted each time it is reached (what is shared counts as often as it is met; a slice's spare places count too). A statement '..UptoSaid' is the law's where the arguments, and the package variables that the reading takes, are together of bulk at most 1048576: NARROWER than '..Said'. Prove '..Said' where nothing that the law and all that it calls make is longer than what came in: it says more and counts as full. Else prove '..UptoSaid'. A law counts once. -/
mutual
def uptoBulk {H : Type} : DataW H → Nat
  | .lit (.string bytes) => bytes.length + 1
  | .lit _ => 1
  | .nil => 1
  | .ptr d => uptoBulk d + 1
  | .slice elems spare => uptoBulkAll elems + uptoBulkAll spare + 1
  | .agg parts => uptoBulkAll parts + 1
  | .iface _ d => uptoBulk d + 1
  | .map entries => uptoBulkEntries entries + 1
  | .held _ => 1
def uptoBulkAll {H : Type} : List (DataW H) → Nat
  | [] => 0
  | d :: r => uptoBulk d + uptoBulkAll r
def uptoBulkEntries {H : Type} : List (Lit × DataW H) → Nat
  | [] => 0
  | x :: r => uptoBulkEntry x + uptoBulkEntries r
def uptoBulkEntry {H : Type} : Lit × DataW H → Nat
  | (.string bytes, d) => bytes.length + uptoBulk d + 1
  | (_, d) => uptoBulk d + 1
 end
def uptoSmall : (H : Type) → List (DataW H) → Bool := fun _ ds => decide (uptoBulkAll ds ≤ 1048576)
def OpenSpec.upto (s : _root_.Go.ChangeSpec) : _root_.Go.OpenSpec := { _root_.Go.OpenSpec.ofChange s with cond := some uptoSmall }

/-- 'supercargolaw39.DiscountInterest', WHERE WHAT IT READS IS OF BULK AT MOST 1048576: true; the input reads as it did. -/
def discountInterestUptoRow : OpenClaim := { program := "ytbehepeebffmoaa", sum := "bde9fac60687c2b767d577435a0b087cda804da89a2898ab34367dec4af5eb40", func := "supercargo/supercargolaw39.DiscountInterest", spec := "discountInterest", apart := false, narrowed := true }
def DiscountInterestUptoSaid : Prop := discountInterestUptoRow.holds Try.pinned (OpenSpec.upto discountInterestSpec)

/-- 'supercargolaw39.DiscountSums', WHERE WHAT IT READS IS OF BULK AT MOST 1048576: true; the input reads as it did. -/
def discountSumsUptoRow : OpenClaim := { program := "ytbehepeebffmoaa", sum := "bde9fac60687c2b767d577435a0b087cda804da89a2898ab34367dec4af5eb40", func := "supercargo/supercargolaw39.DiscountSums", spec := "discountSums", apart := false, narrowed := true }
def DiscountSumsUptoSaid : Prop := discountSumsUptoRow.holds Try.pinned (OpenSpec.upto discountSumsSpec)

/-- 'supercargolaw39.DiscountLonger', WHERE WHAT IT READS IS OF BULK AT MOST 1048576: true; the input reads as it did. -/
def discountLongerUptoRow : OpenClaim := { program := "ytbehepeebffmoaa", sum := "bde9fac60687c2b767d577435a0b087cda804da89a2898ab34367dec4af5eb40", func := "supercargo/supercargolaw39.DiscountLonger", spec := "discountLonger", apart := false, narrowed := true }
def DiscountLongerUptoSaid : Prop := discountLongerUptoRow.holds Try.pinned (OpenSpec.upto discountLongerSpec)

/-- 'supercargolaw39.DiscountFair', WHERE WHAT IT READS IS OF BULK AT MOST 1048576: true; the input reads as it did. -/
def discountFairUptoRow : OpenClaim := { program := "ytbehepeebffmoaa", sum := "bde9fac60687c2b767d577435a0b087cda804da89a2898ab34367dec4af5eb40", func := "supercargo/supercargolaw39.DiscountFair", spec := "discountFair", apart := false, narrowed := true }
def DiscountFairUptoSaid : Prop := discountFairUptoRow.holds Try.pinned (OpenSpec.upto discountFairSpec)

/-- 'supercargolaw39.DiscountAdds', WHERE WHAT IT READS IS OF BULK AT MOST 1048576: true; the input reads as it did. -/
def discountAddsUptoRow : OpenClaim := { program := "ytbehepeebffmoaa", sum := "bde9fac60687c2b767d577435a0b087cda804da89a2898ab34367dec4af5eb40", func := "supercargo/supercargolaw39.DiscountAdds", spec := "discountAdds", inPlace := ["math/bits.Add64"], named := ["math/bits.divideError", "math/bits.overflowError"], apart := false, narrowed := true }
def DiscountAddsUptoSaid : Prop := discountAddsUptoRow.holds Try.pinned (OpenSpec.upto discountAddsSpec)

/-- 'supercargolaw39.DiscountSchedule', WHERE WHAT IT READS IS OF BULK AT MOST 1048576: true; the input reads as it did. -/
def discountScheduleUptoRow : OpenClaim := { program := "ytbehepeebffmoaa", sum := "bde9fac60687c2b767d577435a0b087cda804da89a2898ab34367dec4af5eb40", func := "supercargo/supercargolaw39.DiscountSchedule", spec := "discountSchedule", unfollowed := true, recurses := true, named := ["math/bits.divideError", "math/bits.overflowError"], apart := false, narrowed := true }
def DiscountScheduleUptoSaid : Prop := discountScheduleUptoRow.holds Try.pinned (OpenSpec.upto discountScheduleSpec)

/-- 'supercargolaw39.DiscountBack', WHERE WHAT IT READS IS OF BULK AT MOST 1048576: true; the input reads as it did. -/
def discountBackUptoRow : OpenClaim := { program := "ytbehepeebffmoaa", sum := "bde9fac60687c2b767d577435a0b087cda804da89a2898ab34367dec4af5eb40", func := "supercargo/supercargolaw39.DiscountBack", spec := "discountBack", unfollowed := true, recurses := true, named := ["math/bits.divideError", "math/bits.overflowError"], apart := false, narrowed := true }
def DiscountBackUptoSaid : Prop := discountBackUptoRow.holds Try.pinned (OpenSpec.upto discountBackSpec)

end Rows
end Go.Proofs.Ytbehepeebffmoaa
