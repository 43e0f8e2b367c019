/-
  No cell of these rows narrows 'for every input' (looked for: loops, veiled, ifaces, maps, wideKeys, modest, calm, conditions, laid).
  DERIVED. THE GIVEN ROWS OF THIS SEAT. 7 by the template 'for every input the law returns true; each argument reads behind the call as it read before'; 0 by the template 'total and deterministic' (their statements: YthfddgffanajaaaTotals.lean).
  GIVEN WITH THE SEED: the statements are not yours to turn. If you find one false, say at which input.
  Laid BY PROGRAM, IN A SANDBOX (cutbox-rows.mjs): the forced cells as the released guide's own fill.sh prints them over the translation 125733380350a990… (all of the seat's roots in one cut). By AI agents, Wed Nov 11 2026. No macro, syntax, notation, axiom, sorry.
-/
import Derived.Test.YthfddgffanajaaaChecked
import GoSem.Claim
import GoSem.ClaimJoined
import GoSem.ClaimMapViews
import Derived.JoinedTies
import Derived.KernelRfl
namespace Go.Proofs.Ythfddgffanajaaa
/- THE CELL 'sum', in the pinned program and in every row, IS THE sha256 OF THE DUMP (.gsa) THAT YthfddgffanajaaaProg.lean LOADS. Nothing in Lean hashes anything: it is a label: what it is worth is what the hold of that sum in a sandbox is worth. -/
noncomputable def Try.pinned : Pinned := { name := "ythfddgffanajaaa", sum := "125733380350a99038250cf0bb6f2e98772673ad48e2948b769564be9a140e7f", checked := Try.checked }
namespace Rows
def none {H : Type} : Left H := { results := [], args := [] }

/-- 'supercargolaw07.StoreLasts': WHATEVER THE INPUT: true; the input reads as it did. -/
def storeLastsSpec : ChangeSpec := { name := "storeLasts", fn := fun _ => fun
  | [d1, d2, d3, d4] => { results := [.lit (.bool true)], args := [d1, d2, d3, d4] }
  | _ => none }
def storeLastsRow : OpenClaim := { program := "ythfddgffanajaaa", sum := "125733380350a99038250cf0bb6f2e98772673ad48e2948b769564be9a140e7f", func := "supercargo/supercargolaw07.StoreLasts", spec := "storeLasts", unfollowed := true, recurses := true, apart := false }
def StoreLastsSaid : Prop := storeLastsRow.holds Try.pinned (OpenSpec.ofChange storeLastsSpec)

/-- ITS FALSE NEIGHBOUR: 'it returns false'. Refute it at one input. -/
def storeLastsWrong : ChangeSpec := { name := "storeLasts", fn := fun _ => fun
  | [d1, d2, d3, d4] => { results := [.lit (.bool false)], args := [d1, d2, d3, d4] }
  | _ => none }
def StoreLastsWrongFalsely : Prop := storeLastsRow.holds Try.pinned (OpenSpec.ofChange storeLastsWrong)

/-- 'supercargolaw07.StoreFull': WHATEVER THE INPUT: true; the input reads as it did. -/
def storeFullSpec : ChangeSpec := { name := "storeFull", fn := fun _ => fun
  | [d1, d2, d3] => { results := [.lit (.bool true)], args := [d1, d2, d3] }
  | _ => none }
def storeFullRow : OpenClaim := { program := "ythfddgffanajaaa", sum := "125733380350a99038250cf0bb6f2e98772673ad48e2948b769564be9a140e7f", func := "supercargo/supercargolaw07.StoreFull", spec := "storeFull", unfollowed := true, recurses := true, apart := false }
def StoreFullSaid : Prop := storeFullRow.holds Try.pinned (OpenSpec.ofChange storeFullSpec)

/-- ITS FALSE NEIGHBOUR: 'it returns false'. Refute it at one input. -/
def storeFullWrong : ChangeSpec := { name := "storeFull", fn := fun _ => fun
  | [d1, d2, d3] => { results := [.lit (.bool false)], args := [d1, d2, d3] }
  | _ => none }
def StoreFullWrongFalsely : Prop := storeFullRow.holds Try.pinned (OpenSpec.ofChange storeFullWrong)

/-- 'supercargolaw07.StoreReads': WHATEVER THE INPUT: true; the input reads as it did. -/
def storeReadsSpec : ChangeSpec := { name := "storeReads", fn := fun _ => fun
  | [d1, d2] => { results := [.lit (.bool true)], args := [d1, d2] }
  | _ => none }
def storeReadsRow : OpenClaim := { program := "ythfddgffanajaaa", sum := "125733380350a99038250cf0bb6f2e98772673ad48e2948b769564be9a140e7f", func := "supercargo/supercargolaw07.StoreReads", spec := "storeReads", unfollowed := true, recurses := true, apart := false }
def StoreReadsSaid : Prop := storeReadsRow.holds Try.pinned (OpenSpec.ofChange storeReadsSpec)

/-- ITS FALSE NEIGHBOUR: 'it returns false'. Refute it at one input. -/
def storeReadsWrong : ChangeSpec := { name := "storeReads", fn := fun _ => fun
  | [d1, d2] => { results := [.lit (.bool false)], args := [d1, d2] }
  | _ => none }
def StoreReadsWrongFalsely : Prop := storeReadsRow.holds Try.pinned (OpenSpec.ofChange storeReadsWrong)

/-- 'supercargolaw07.StorePlays': WHATEVER THE INPUT: true; the input reads as it did. -/
def storePlaysSpec : ChangeSpec := { name := "storePlays", fn := fun _ => fun
  | [d] => { results := [.lit (.bool true)], args := [d] }
  | _ => none }
def storePlaysRow : OpenClaim := { program := "ythfddgffanajaaa", sum := "125733380350a99038250cf0bb6f2e98772673ad48e2948b769564be9a140e7f", func := "supercargo/supercargolaw07.StorePlays", spec := "storePlays", unfollowed := true, recurses := true, apart := false }
def StorePlaysSaid : Prop := storePlaysRow.holds Try.pinned (OpenSpec.ofChange storePlaysSpec)

/-- ITS FALSE NEIGHBOUR: 'it returns false'. Refute it at one input. -/
def storePlaysWrong : ChangeSpec := { name := "storePlays", fn := fun _ => fun
  | [d] => { results := [.lit (.bool false)], args := [d] }
  | _ => none }
def StorePlaysWrongFalsely : Prop := storePlaysRow.holds Try.pinned (OpenSpec.ofChange storePlaysWrong)

/-- 'supercargolaw07.StoreArms': WHATEVER THE INPUT: true; the input reads as it did. -/
def storeArmsSpec : ChangeSpec := { name := "storeArms", fn := fun _ => fun
  | [d1, d2, d3] => { results := [.lit (.bool true)], args := [d1, d2, d3] }
  | _ => none }
def storeArmsRow : OpenClaim := { program := "ythfddgffanajaaa", sum := "125733380350a99038250cf0bb6f2e98772673ad48e2948b769564be9a140e7f", func := "supercargo/supercargolaw07.StoreArms", spec := "storeArms", unfollowed := true, recurses := true, apart := false }
def StoreArmsSaid : Prop := storeArmsRow.holds Try.pinned (OpenSpec.ofChange storeArmsSpec)

/-- ITS FALSE NEIGHBOUR: 'it returns false'. Refute it at one input. -/
def storeArmsWrong : ChangeSpec := { name := "storeArms", fn := fun _ => fun
  | [d1, d2, d3] => { results := [.lit (.bool false)], args := [d1, d2, d3] }
  | _ => none }
def StoreArmsWrongFalsely : Prop := storeArmsRow.holds Try.pinned (OpenSpec.ofChange storeArmsWrong)

/-- 'supercargolaw07.StoreFuse': WHATEVER THE INPUT: true; the input reads as it did. -/
def storeFuseSpec : ChangeSpec := { name := "storeFuse", fn := fun _ => fun
  | [d1, d2] => { results := [.lit (.bool true)], args := [d1, d2] }
  | _ => none }
def storeFuseRow : OpenClaim := { program := "ythfddgffanajaaa", sum := "125733380350a99038250cf0bb6f2e98772673ad48e2948b769564be9a140e7f", func := "supercargo/supercargolaw07.StoreFuse", spec := "storeFuse", unfollowed := true, recurses := true, apart := false }
def StoreFuseSaid : Prop := storeFuseRow.holds Try.pinned (OpenSpec.ofChange storeFuseSpec)

/-- ITS FALSE NEIGHBOUR: 'it returns false'. Refute it at one input. -/
def storeFuseWrong : ChangeSpec := { name := "storeFuse", fn := fun _ => fun
  | [d1, d2] => { results := [.lit (.bool false)], args := [d1, d2] }
  | _ => none }
def StoreFuseWrongFalsely : Prop := storeFuseRow.holds Try.pinned (OpenSpec.ofChange storeFuseWrong)

/-- 'supercargolaw07.StoreCopies': WHATEVER THE INPUT: true; the input reads as it did. -/
def storeCopiesSpec : ChangeSpec := { name := "storeCopies", fn := fun _ => fun
  | [d1, d2] => { results := [.lit (.bool true)], args := [d1, d2] }
  | _ => none }
def storeCopiesRow : OpenClaim := { program := "ythfddgffanajaaa", sum := "125733380350a99038250cf0bb6f2e98772673ad48e2948b769564be9a140e7f", func := "supercargo/supercargolaw07.StoreCopies", spec := "storeCopies", unfollowed := true, recurses := true, apart := false }
def StoreCopiesSaid : Prop := storeCopiesRow.holds Try.pinned (OpenSpec.ofChange storeCopiesSpec)

/-- ITS FALSE NEIGHBOUR: 'it returns false'. Refute it at one input. -/
def storeCopiesWrong : ChangeSpec := { name := "storeCopies", fn := fun _ => fun
  | [d1, d2] => { results := [.lit (.bool false)], args := [d1, d2] }
  | _ => none }
def StoreCopiesWrongFalsely : Prop := storeCopiesRow.holds Try.pinned (OpenSpec.ofChange storeCopiesWrong)

/- THE SECOND FORM. 'bulk': how many values and letters a reading holds, each counted each time it is reached (what is shared counts as often as it is met; a slice's spare places count too). A statement '..UptoSaid' is the law's where the arguments, and the package variables that the reading takes, are together of bulk at most 1048576: NARROWER than '..Said'. Prove '..Said' where nothing that the law and all that it calls make is longer than what came in: it says more and counts as full. Else prove '..UptoSaid'. A law counts once. -/
mutual
def uptoBulk {H : Type} : DataW H → Nat
  | .lit (.string bytes) => bytes.length + 1
  | .lit _ => 1
  | .nil => 1
  | .ptr d => uptoBulk d + 1
  | .slice elems spare => uptoBulkAll elems + uptoBulkAll spare + 1
  | .agg parts => uptoBulkAll parts + 1
  | .iface _ d => uptoBulk d + 1
  | .map entries => uptoBulkEntries entries + 1
  | .held _ => 1
def uptoBulkAll {H : Type} : List (DataW H) → Nat
  | [] => 0
  | d :: r => uptoBulk d + uptoBulkAll r
def uptoBulkEntries {H : Type} : List (Lit × DataW H) → Nat
  | [] => 0
  | x :: r => uptoBulkEntry x + uptoBulkEntries r
def uptoBulkEntry {H : Type} : Lit × DataW H → Nat
  | (.string bytes, d) => bytes.length + uptoBulk d + 1
  | (_, d) => uptoBulk d + 1
 end
def uptoSmall : (H : Type) → List (DataW H) → Bool := fun _ ds => decide (uptoBulkAll ds ≤ 1048576)
def OpenSpec.upto (s : _root_.Go.ChangeSpec) : _root_.Go.OpenSpec := { _root_.Go.OpenSpec.ofChange s with cond := some uptoSmall }

/-- 'supercargolaw07.StoreLasts', WHERE WHAT IT READS IS OF BULK AT MOST 1048576: true; the input reads as it did. -/
def storeLastsUptoRow : OpenClaim := { program := "ythfddgffanajaaa", sum := "125733380350a99038250cf0bb6f2e98772673ad48e2948b769564be9a140e7f", func := "supercargo/supercargolaw07.StoreLasts", spec := "storeLasts", unfollowed := true, recurses := true, apart := false, narrowed := true }
def StoreLastsUptoSaid : Prop := storeLastsUptoRow.holds Try.pinned (OpenSpec.upto storeLastsSpec)

/-- 'supercargolaw07.StoreFull', WHERE WHAT IT READS IS OF BULK AT MOST 1048576: true; the input reads as it did. -/
def storeFullUptoRow : OpenClaim := { program := "ythfddgffanajaaa", sum := "125733380350a99038250cf0bb6f2e98772673ad48e2948b769564be9a140e7f", func := "supercargo/supercargolaw07.StoreFull", spec := "storeFull", unfollowed := true, recurses := true, apart := false, narrowed := true }
def StoreFullUptoSaid : Prop := storeFullUptoRow.holds Try.pinned (OpenSpec.upto storeFullSpec)

/-- 'supercargolaw07.StoreReads', WHERE WHAT IT READS IS OF BULK AT MOST 1048576: true; the input reads as it did. -/
def storeReadsUptoRow : OpenClaim := { program := "ythfddgffanajaaa", sum := "125733380350a99038250cf0bb6f2e98772673ad48e2948b769564be9a140e7f", func := "supercargo/supercargolaw07.StoreReads", spec := "storeReads", unfollowed := true, recurses := true, apart := false, narrowed := true }
def StoreReadsUptoSaid : Prop := storeReadsUptoRow.holds Try.pinned (OpenSpec.upto storeReadsSpec)

/-- 'supercargolaw07.StorePlays', WHERE WHAT IT READS IS OF BULK AT MOST 1048576: true; the input reads as it did. -/
def storePlaysUptoRow : OpenClaim := { program := "ythfddgffanajaaa", sum := "125733380350a99038250cf0bb6f2e98772673ad48e2948b769564be9a140e7f", func := "supercargo/supercargolaw07.StorePlays", spec := "storePlays", unfollowed := true, recurses := true, apart := false, narrowed := true }
def StorePlaysUptoSaid : Prop := storePlaysUptoRow.holds Try.pinned (OpenSpec.upto storePlaysSpec)

/-- 'supercargolaw07.StoreArms', WHERE WHAT IT READS IS OF BULK AT MOST 1048576: true; the input reads as it did. -/
def storeArmsUptoRow : OpenClaim := { program := "ythfddgffanajaaa", sum := "125733380350a99038250cf0bb6f2e98772673ad48e2948b769564be9a140e7f", func := "supercargo/supercargolaw07.StoreArms", spec := "storeArms", unfollowed := true, recurses := true, apart := false, narrowed := true }
def StoreArmsUptoSaid : Prop := storeArmsUptoRow.holds Try.pinned (OpenSpec.upto storeArmsSpec)

/-- 'supercargolaw07.StoreFuse', WHERE WHAT IT READS IS OF BULK AT MOST 1048576: true; the input reads as it did. -/
def storeFuseUptoRow : OpenClaim := { program := "ythfddgffanajaaa", sum := "125733380350a99038250cf0bb6f2e98772673ad48e2948b769564be9a140e7f", func := "supercargo/supercargolaw07.StoreFuse", spec := "storeFuse", unfollowed := true, recurses := true, apart := false, narrowed := true }
def StoreFuseUptoSaid : Prop := storeFuseUptoRow.holds Try.pinned (OpenSpec.upto storeFuseSpec)

/-- 'supercargolaw07.StoreCopies', WHERE WHAT IT READS IS OF BULK AT MOST 1048576: true; the input reads as it did. -/
def storeCopiesUptoRow : OpenClaim := { program := "ythfddgffanajaaa", sum := "125733380350a99038250cf0bb6f2e98772673ad48e2948b769564be9a140e7f", func := "supercargo/supercargolaw07.StoreCopies", spec := "storeCopies", unfollowed := true, recurses := true, apart := false, narrowed := true }
def StoreCopiesUptoSaid : Prop := storeCopiesUptoRow.holds Try.pinned (OpenSpec.upto storeCopiesSpec)

end Rows
end Go.Proofs.Ythfddgffanajaaa
