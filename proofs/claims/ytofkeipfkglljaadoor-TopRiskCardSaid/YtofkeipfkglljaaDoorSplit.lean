/-
  share.Split.
-/
import Derived.Test.YtofkeipfkglljaaDoorSplitP
import Derived.Test.YtofkeipfkglljaaDoorStable
import Derived.Test.YtofkeipfkglljaaDoorDiv
import Derived.Test.YtofkeipfkglljaaDoorWrong
import Derived.Deep.OwnRows
namespace Go.Proofs.YtofkeipfkglljaaDoor
open Go Go.RowKit
set_option linter.unusedVariables false
set_option linter.unusedSimpArgs false

theorem Tryd.infoI64 : (Tryd.prog.info? 2).map (fun i => (i.zero, i.size, i.bytes)) = some (some (.int .i64 0), 1, 8) := by kernel_rfl
theorem Tryd.infoU64 : (Tryd.prog.info? 76).map (fun i => (i.zero, i.size, i.bytes)) = some (some (.int .u64 0), 1, 8) := by kernel_rfl
theorem Tryd.infoInt : (Tryd.prog.info? 3).map (fun i => (i.zero, i.size, i.bytes)) = some (some (.int .i64 0), 1, 8) := by kernel_rfl
theorem made_nums (n : Nat) : madeCells #[.int .i64 0] n = nums (List.replicate n 0) := by
  apply Array.ext'
  rw [toList_madeCells_one]; simp [nums]
theorem made_rnums (n : Nat) : madeCells #[.int .u64 0] n = rnums (List.replicate n 0) := by
  apply Array.ext'
  rw [toList_madeCells_one]; simp [rnums]
theorem rnums_set (xs : List Nat) (i y : Nat) : (rnums xs).setIfInBounds i (.int .u64 (y : Int)) = rnums (xs.set i y) := by
  unfold rnums; simp [List.map_set]

def natI (W : List Nat) : List Int := W.map fun x : Nat => (x : Int)

section
variable {bp br bc bo n : Nat} {w : World} {P R O : List Nat}
end

section
variable {bp br bc bo n : Nat} {w : World} {P R O : List Nat}
end

/-- A split that has no error: what it asks. -/
theorem wrong_ok {T : Int} {ws : List Int} (h : wrongN T ws = 0) : ∃ (T' : Nat) (W : List Nat), T = (T' : Int) ∧ ws = natI W ∧ T' ≤ 1099511627776 ∧ 0 < W.length ∧ W.length ≤ 4096 ∧ (∀ x ∈ W, x ≤ 1099511627776) ∧ (0 < T' → 0 < W.sum) := by
  unfold wrongN at h
  split at h
  · cases h
  · rename_i h1
    split at h
    · cases h
    · rename_i h2
      split at h
      · cases h
      · rename_i h3
        have a1 : 0 ≤ T := by rcases Int.lt_or_le T 0 with g | g; exact absurd (.inl g) h1; exact g
        have a2 : ws ≠ [] := fun e => h1 (.inr (.inl e))
        have a3 : ∀ z ∈ ws, 0 ≤ z := fun z hz => by
          rcases Int.lt_or_le z 0 with g | g
          · exact absurd (.inr (.inr (List.any_eq_true.2 ⟨z, hz, by simpa [is_neg] using g⟩))) h1
          · exact g
        have b1 : T ≤ 1099511627776 := by rcases Int.lt_or_le 1099511627776 T with g | g; exact absurd (.inl g) h2; exact g
        have b2 : ws.length ≤ 4096 := by rcases Nat.lt_or_ge 4096 ws.length with g | g; exact absurd (.inr (.inl g)) h2; exact g
        have b3 : ∀ z ∈ ws, z ≤ 1099511627776 := fun z hz => by
          rcases Int.lt_or_le 1099511627776 z with g | g
          · exact absurd (.inr (.inr (List.any_eq_true.2 ⟨z, hz, by simpa [is_over] using g⟩))) h2
          · exact g
        have e : ws = natI (ws.map Int.toNat) := by
          unfold natI
          rw [List.map_map]
          conv => lhs; rw [← List.map_id ws]
          apply List.map_congr_left
          intro z hz
          have := a3 z hz
          simp; omega
        refine ⟨T.toNat, ws.map Int.toNat, by omega, e, by omega, by simpa using List.length_pos_iff.2 a2, by simpa using b2, fun x hx => ?_, fun hT => ?_⟩
        · obtain ⟨z, hz, rfl⟩ := List.mem_map.1 hx
          have := b3 z hz; omega
        · have : ws.any is_pos = true := by
            cases hp : ws.any is_pos with
            | true => rfl
            | false => exact absurd ⟨by omega, hp⟩ h3
          obtain ⟨z, hz, hp⟩ := List.any_eq_true.1 this
          have hp' : 0 < z := by simpa [is_pos] using hp
          have := le_sum (List.mem_map_of_mem (f := Int.toNat) hz)
          omega

/-- A slice of its own that holds the numbers. -/
def Parts (w0 w : World) (v : Value) (out : List Nat) : Prop := ∃ b, v = .slice (some ⟨b, 0, none⟩) out.length out.length ∧ w.heap[b]? = some (.cells (nums out) 2 (0, 0)) ∧ w0.heap.size ≤ b

end Go.Proofs.YtofkeipfkglljaaDoor
