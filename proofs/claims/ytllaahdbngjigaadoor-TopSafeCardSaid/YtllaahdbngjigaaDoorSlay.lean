/-
  The shelf's slices.SortFunc, laid at this program's loads (printed by wip/tools/gen_sortlay.py).
-/
import Derived.Shelf.SlSortCmp.WholeK
import Derived.Test.YtllaahdbngjigaaDoorCm2
namespace Go.Proofs.YtllaahdbngjigaaDoor
open Go Go.RowKit Go.Proofs Go.Sort
set_option linter.unusedVariables false
set_option linter.unusedSimpArgs false

def sortRen : Go.Shelf.Ren := ⟨fun | 6 => 72 | 14 => 96 | 15 => 97 | 20 => 111 | 21 => 112 | 22 => 113 | 23 => 114 | 24 => 115 | 25 => 116 | 26 => 117 | 27 => 118 | 28 => 119 | 29 => 106 | 46 => 129 | 47 => 130 | 48 => 131 | 49 => 132 | 50 => 133 | 57 => 142 | n => n, fun | 0 => 0 | 3 => 3 | 4 => 4 | 5 => 5 | 9 => 9 | 22 => 28 | 25 => 99 | 39 => 111 | 45 => 170 | 46 => 171 | 50 => 175 | 53 => 178 | 55 => 109 | 66 => 188 | 70 => 192 | 76 => 198 | 77 => 199 | 24 => 37 | n => n, fun n => n⟩
set_option maxRecDepth 100000 in
theorem sortLays : Go.Proofs.SlLaysF0.n6 Tryd.prog sortRen := {
  mixed := by kernel_rfl
  f6 := ⟨ "slices.SortFunc[[]supercargo/api.Load,supercargo/api.Load]", by decide, Tryd.func72.trans (congrArg some (by kernel_rfl))⟩
  f14 := ⟨ "slices.pdqsortCmpFunc[supercargo/api.Load]", by decide, Tryd.func96.trans (congrArg some (by kernel_rfl))⟩
  f15 := Tryd.func97.trans (congrArg some (by kernel_rfl))
  f20 := ⟨ "slices.insertionSortCmpFunc[supercargo/api.Load]", by decide, Tryd.func111.trans (congrArg some (by kernel_rfl))⟩
  f21 := ⟨ "slices.heapSortCmpFunc[supercargo/api.Load]", by decide, Tryd.func112.trans (congrArg some (by kernel_rfl))⟩
  f22 := ⟨ "slices.breakPatternsCmpFunc[supercargo/api.Load]", by decide, Tryd.func113.trans (congrArg some (by kernel_rfl))⟩
  f23 := ⟨ "slices.choosePivotCmpFunc[supercargo/api.Load]", by decide, Tryd.func114.trans (congrArg some (by kernel_rfl))⟩
  f24 := ⟨ "slices.reverseRangeCmpFunc[supercargo/api.Load]", by decide, Tryd.func115.trans (congrArg some (by kernel_rfl))⟩
  f25 := ⟨ "slices.partialInsertionSortCmpFunc[supercargo/api.Load]", by decide, Tryd.func116.trans (congrArg some (by kernel_rfl))⟩
  f26 := ⟨ "slices.partitionEqualCmpFunc[supercargo/api.Load]", by decide, Tryd.func117.trans (congrArg some (by kernel_rfl))⟩
  f27 := ⟨ "slices.partitionCmpFunc[supercargo/api.Load]", by decide, Tryd.func118.trans (congrArg some (by kernel_rfl))⟩
  f28 := Tryd.func119.trans (congrArg some (by kernel_rfl))
  f29 := Tryd.func106.trans (congrArg some (by kernel_rfl))
  f46 := ⟨ "slices.siftDownCmpFunc[supercargo/api.Load]", by decide, Tryd.func129.trans (congrArg some (by kernel_rfl))⟩
  f47 := Tryd.func130.trans (congrArg some (by kernel_rfl))
  f48 := Tryd.func131.trans (congrArg some (by kernel_rfl))
  f49 := ⟨ "slices.medianAdjacentCmpFunc[supercargo/api.Load]", by decide, Tryd.func132.trans (congrArg some (by kernel_rfl))⟩
  f50 := ⟨ "slices.medianCmpFunc[supercargo/api.Load]", by decide, Tryd.func133.trans (congrArg some (by kernel_rfl))⟩
  f57 := ⟨ "slices.order2CmpFunc[supercargo/api.Load]", by decide, Tryd.func142.trans (congrArg some (by kernel_rfl))⟩
  t0 := Tryd.underlying0
  a0 := fun w => by kernel_rfl
  z0 := fun w => by kernel_rfl
  v0 := fun w => by kernel_rfl
  t3 := Tryd.underlying3
  a3 := fun w => by kernel_rfl
  z3 := fun w => by kernel_rfl
  v3 := fun w => by kernel_rfl
  t4 := Tryd.underlying4
  a4 := fun w => by kernel_rfl
  z4 := fun w => by kernel_rfl
  v4 := fun w => by kernel_rfl
  t5 := Tryd.underlying5
  a5 := fun w => by kernel_rfl
  z5 := fun w => by kernel_rfl
  v5 := fun w => by kernel_rfl
  t9 := Tryd.underlying9
  a9 := fun w => by kernel_rfl
  z9 := fun w => by kernel_rfl
  v9 := fun w => by kernel_rfl
  t22 := Tryd.underlying28
  a22 := fun w => by kernel_rfl
  z22 := fun w => by kernel_rfl
  v22 := fun w => by kernel_rfl
  t25 := Tryd.underlying99
  a25 := fun w => by kernel_rfl
  z25 := fun w => by kernel_rfl
  v25 := fun w => by kernel_rfl
  t39 := Tryd.underlying111
  a39 := fun w => by kernel_rfl
  z39 := fun w => by kernel_rfl
  v39 := fun w => by kernel_rfl
  t45 := Tryd.underlying170
  a45 := fun w => by kernel_rfl
  z45 := fun w => by kernel_rfl
  v45 := fun w => by kernel_rfl
  t46 := Tryd.underlying171
  a46 := fun w => by kernel_rfl
  z46 := fun w => by kernel_rfl
  v46 := fun w => by kernel_rfl
  t50 := Tryd.underlying175
  a50 := fun w => by kernel_rfl
  z50 := fun w => by kernel_rfl
  v50 := fun w => by kernel_rfl
  t53 := Tryd.underlying178
  a53 := fun w => by kernel_rfl
  z53 := fun w => by kernel_rfl
  v53 := fun w => by kernel_rfl
  t55 := Tryd.underlying109
  a55 := fun w => by kernel_rfl
  z55 := fun w => by kernel_rfl
  v55 := fun w => by kernel_rfl
  t66 := Tryd.underlying188
  a66 := fun w => by kernel_rfl
  z66 := fun w => by kernel_rfl
  v66 := fun w => by kernel_rfl
  t70 := Tryd.underlying192
  a70 := fun w => by kernel_rfl
  z70 := fun w => by kernel_rfl
  v70 := fun w => by kernel_rfl
  t76 := Tryd.underlying198
  a76 := fun w => by kernel_rfl
  z76 := fun w => by kernel_rfl
  v76 := fun w => by kernel_rfl
  t77 := Tryd.underlying199
  a77 := fun w => by kernel_rfl
  z77 := fun w => by kernel_rfl
  v77 := fun w => by kernel_rfl }
theorem ldAgg (w : World) : (isAgg 37).run Tryd.prog w = .ok true w := by kernel_rfl
theorem ldSize (w : World) : (Go.sizeOf 37).run Tryd.prog w = .ok 7 w := by kernel_rfl
theorem ld_cell (x : Ld) : ∀ v ∈ Ld.cells x, v.oneCell' = true := by
  intro v hv
  simp [Ld.cells] at hv
  rcases hv with rfl | rfl | rfl | rfl | rfl | rfl | rfl <;> rfl
theorem layA (blk off size : Nat) (w : World) : CmpLays Tryd.prog 45 #[] Ld.cells 7 cmA blk off size w := fun _ _ _ _ x y => clsA x y _
theorem layB (blk off size : Nat) (w : World) : CmpLays Tryd.prog 93 #[] Ld.cells 7 cmB blk off size w := fun _ _ _ _ x y => clsB x y _
/-- The loads of a row sorted by bay, row and tier. -/
theorem sortF_any (blk off cap : Nat) (d : Array Ld) (w : World) (hH : HoldsK Ld.cells 7 w blk off d) (hblk : blk < w.heap.size) (hsz : d.size < 4611686018427387904) :
    Calls Tryd.prog 72 #[.slice (some ⟨blk, off, none⟩) d.size cap, .func (.func 45) #[] #[]] w fun e w' =>
      e = .returned (.tuple #[]) ∧ ∃ d' n os, PermIn 0 d.size d d' ∧ SortedIn (ltOf cmA) 0 d.size d' ∧ w' = sortWorldK Ld.cells 7 w blk off n d' os :=
  AnyQ.slices_SortFunc sortLays 7 ldAgg ldSize Ld.cells (fun _ => rfl) ld_cell cmA cmA_ok.swo 45 #[] blk off cap d w (enters_of Tryd.func45 (by kernel_rfl) rfl) (layA _ _ _ _) hH hblk hsz
/-- Part of a row sorted by tier, bay, row and box. -/
theorem insL_any (blk off cap a b : Nat) (d : Array Ld) (w : World) (hH : HoldsK Ld.cells 7 w blk off d) (hblk : blk < w.heap.size) (hab : a ≤ b) (hb : b ≤ d.size) (hsz : d.size < 4611686018427387904) :
    Calls Tryd.prog 111 #[.slice (some ⟨blk, off, none⟩) d.size cap, .int .i64 a, .int .i64 b, .func (.func 93) #[] #[]] w fun e w' =>
      e = .returned (.tuple #[]) ∧ ∃ n os, w' = sortWorldK Ld.cells 7 w blk off n (Sort.insertionSort (ltOf cmB) d a b) os :=
  AnyQ.insertionSortCmpFunc (P := Tryd.prog) (ρ := sortRen) { sortLays with } 7 ldAgg ldSize Ld.cells (fun _ => rfl) ld_cell cmB 93 #[] blk off cap a b d w (enters_of Tryd.func93 (by kernel_rfl) rfl) (layB _ _ _ _) hH hblk hab hb hsz
end Go.Proofs.YtllaahdbngjigaaDoor
