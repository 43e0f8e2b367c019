/-
  TermPays, TermPapers: who pays, who bears, which papers.
-/
import Derived.Test.YtfhcnkedhobhgaaDoorTermRows
import Derived.Test.YtfhcnkedhobhgaaDoorTermOnce
namespace Go.Proofs.YtfhcnkedhobhgaaDoor
open Go Go.RowKit
set_option linter.unusedVariables false
set_option linter.unusedSimpArgs false

theorem bt {W w w' : World} (h1 : Below W.heap.size W w) (h2 : Below w.heap.size w w') : Below W.heap.size W w' := h1.trans (h2.mono h1.size)

/-- What each call keeps. -/
def Ok (w w' : World) : Prop := Terms w' ∧ Below w.heap.size w w'
theorem Ok.drewN {w : World} (h : Terms w) (n : Nat) : Ok w (w.drewN n) := ⟨h.drewN n, below_drewN (Below.refl _ _) n⟩
theorem Ok.below {w w' : World} (h : Terms w) (hb : Below w.heap.size w w') : Ok w w' := ⟨h.below hb, hb⟩

theorem awake_k (w : World) (h : Terms w) : Calls Tryd.prog 10 #[] w fun e w' => e = .returned (.bool true) ∧ Ok w w' :=
  (awake_any w h).mono fun e w' ⟨h1, n, h2⟩ => ⟨h1, h2 ▸ Ok.drewN h n⟩
theorem passes_k (t : Int) (w : World) (h : Terms w) : Calls Tryd.prog 14 #[.int .i64 t] w fun e w' => e = .returned (.tuple #[.int .i64 (cosT t), .int .i64 (risT t)]) ∧ Ok w w' :=
  (passes_any t w h).mono fun e w' ⟨h1, n, h2⟩ => ⟨h1, h2 ▸ Ok.drewN h n⟩
theorem pays_k (t s : Int) (w : World) (h : Terms w) : Calls Tryd.prog 12 #[.int .i64 t, .int .i64 s] w fun e w' => e = .returned (.string (paysT t s)) ∧ Ok w w' :=
  (pays_any t s w h).mono fun e w' ⟨h1, n, h2⟩ => ⟨h1, h2 ▸ Ok.drewN h n⟩
theorem risk_k (t s : Int) (w : World) (h : Terms w) : Calls Tryd.prog 13 #[.int .i64 t, .int .i64 s] w fun e w' => e = .returned (.string (bearT t s)) ∧ Ok w w' :=
  (risk_any t s w h).mono fun e w' ⟨h1, n, h2⟩ => ⟨h1, h2 ▸ Ok.drewN h n⟩
theorem is_k (t : Int) (w : World) (h : Terms w) : Calls Tryd.prog 11 #[.int .i64 t] w fun e w' => e = .returned (.bool (isB t)) ∧ Ok w w' :=
  (is_any t w).mono fun e w' ⟨h1, h2⟩ => ⟨h1, h2 ▸ ⟨h, Below.refl _ _⟩⟩
theorem needs_k (t : Int) (w : World) (h : Terms w) : Calls Tryd.prog 15 #[.int .i64 t] w fun e w' => ∃ ao cap, e = .returned (.slice ao (pprZ t).length cap) ∧ Ints w' (.slice ao (pprZ t).length cap) (pprZ t) ∧ Ok w w' :=
  (needs_any t w h).mono fun e w' ⟨u, h1, h2, h3⟩ => by
    have hi : Ints w' u (pprZ t) := Row.of_own h2
    obtain ⟨ao, cap, rfl, _⟩ := hi.shape
    exact ⟨ao, cap, h1, hi, Ok.below h h3⟩
theorem refNeeds_k (t : Int) (w : World) (h : Terms w) : Calls Tryd.prog 19 #[.int .i64 t] w fun e w' => ∃ ao cap, e = .returned (.slice ao (refN t).length cap) ∧ Ints w' (.slice ao (refN t).length cap) (refN t) ∧ Ok w w' :=
  (refNeeds_any t w).mono fun e w' ⟨u, h1, h2, h3⟩ => by
    have hi : Ints w' u (refN t) := Row.of_own h2
    obtain ⟨ao, cap, rfl, _⟩ := hi.shape
    exact ⟨ao, cap, h1, hi, Ok.below h h3⟩
theorem same_k (zs ys : List Int) (v u : Value) (w : World) (h : Terms w) (hv : Ints w v zs) (hu : Ints w u ys) : Calls Tryd.prog 18 #[v, u] w fun e w' => e = .returned (.bool (zs == ys)) ∧ Ok w w' :=
  (same_any zs ys v u w hv hu).mono fun e w' ⟨h1, n, h2⟩ => ⟨h1, h2 ▸ Ok.drewN h n⟩

set_option maxHeartbeats 1000000 in
theorem refCost_k (t : Int) (w : World) (h : Terms w) (ht : isB t = true) : Calls Tryd.prog 16 #[.int .i64 t] w fun e w' => e = .returned (.int .i64 (cosT t)) ∧ Ok w w' := by
  simp [isB] at ht
  obtain ⟨n, rfl⟩ := Int.eq_ofNat_of_zero_le ht.1
  have : n ≤ 7 := by omega
  clear ht
  refine Calls.mono (R := fun e w' => e = .returned (.int .i64 (cosT n)) ∧ Below w.heap.size w w') ?_ fun e w' ⟨h1, h2⟩ => ⟨h1, Ok.below h h2⟩
  clear h
  match n, this with
  | 0, _ | 1, _ | 2, _ | 3, _ | 4, _ | 5, _ | 6, _ | 7, _ =>
    go_enter Tryd.func16, Tryd.ntmps16
    go_wp2
    go_ret
    exact ⟨rfl, (Below.refl _ _).alloc (Nat.le_refl _) _⟩

set_option maxHeartbeats 1000000 in
theorem refRisk_k (t : Int) (w : World) (h : Terms w) (ht : isB t = true) : Calls Tryd.prog 17 #[.int .i64 t] w fun e w' => e = .returned (.int .i64 (risT t)) ∧ Ok w w' := by
  simp [isB] at ht
  obtain ⟨n, rfl⟩ := Int.eq_ofNat_of_zero_le ht.1
  have : n ≤ 7 := by omega
  clear ht
  refine Calls.mono (R := fun e w' => e = .returned (.int .i64 (risT n)) ∧ Below w.heap.size w w') ?_ fun e w' ⟨h1, h2⟩ => ⟨h1, Ok.below h h2⟩
  clear h
  match n, this with
  | 0, _ | 1, _ | 2, _ | 3, _ | 4, _ | 5, _ | 6, _ | 7, _ =>
    go_enter Tryd.func17, Tryd.ntmps17
    go_wp2
    go_ret
    exact ⟨rfl, (Below.refl _ _).alloc (Nat.le_refl _) _⟩
end Go.Proofs.YtfhcnkedhobhgaaDoor
