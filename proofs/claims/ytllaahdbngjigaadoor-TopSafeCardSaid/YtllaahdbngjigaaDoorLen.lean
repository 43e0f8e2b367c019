/-
  math/bits: Len64, LeadingZeros64.
-/
import Derived.Test.YtllaahdbngjigaaDoorBits
import Derived.Test.YtllaahdbngjigaaDoorLen0
import Derived.Lib.Strings
import Derived.Lib.Slices
import Derived.Lib.Small
import Derived.Lib.Walk
import Derived.Lib.BitFns
import Derived.Lib.ItoaNum
namespace Go.Proofs.YtllaahdbngjigaaDoor
open Go Go.RowKit
set_option linter.unusedVariables false
set_option linter.unusedSimpArgs false

theorem lz_any (y : Nat) (h0 : 0 < y) (h1 : y < 18446744073709551616) : ∃ s : Nat, s < 64 ∧ 9223372036854775808 ≤ y * 2 ^ s ∧ y * 2 ^ s < 18446744073709551616 ∧ ∀ w : World,
    Calls Tryd.prog 88 #[.int .u64 (y : Int)] w fun e w' => e = .returned (.int .i64 (s : Int)) ∧ w = w' := by
  obtain ⟨b1, b2, b3⟩ := Lib.bitLenAux_bounds 64 y (by omega) (by omega)
  have b4 : Lib.bitLenAux 64 y ≤ 64 := Lib.bitLen_le y 64 (by omega) (by omega)
  obtain ⟨L, hL⟩ : ∃ L, L = Lib.bitLenAux 64 y := ⟨_, rfl⟩
  rw [← hL] at b1 b2 b3 b4
  refine ⟨64 - L, by omega, ?_, ?_, fun w => ?_⟩
  · have := Nat.mul_le_mul_right (2 ^ (64 - L)) b2
    rw [← Nat.pow_add, show L - 1 + (64 - L) = 63 by omega] at this
    exact this
  · have := Nat.mul_lt_mul_of_pos_right b3 (show 0 < 2 ^ (64 - L) from Nat.two_pow_pos _)
    rw [← Nat.pow_add, show L + (64 - L) = 64 by omega] at this
    exact this
  · have HC := Lib.hid (show Calls Tryd.prog 106 #[.int .u64 (y : Int)] w fun e w' => e = .returned (.int .i64 (L : Int)) ∧ w' = w by
      have := len64_any (y : Int) w (by omega) (by omega)
      rw [show ((y : Int).toNat) = y by omega, show Lib.bitLen y = L from hL.symm] at this
      exact this)
    have m1 : IntKind.i64.wrap (64 - (L : Int)) = ((64 - L : Nat) : Int) := by rw [show (64 : Int) - (L : Int) = ((64 - L : Nat) : Int) by omega]; exact IntWalk.i64_in _ (by omega)
    clear hL b1 b2 b3
    go_enter Tryd.func88, Tryd.ntmps88
    go_wp2_with fail
    refine HC.out.mono ?_
    rintro e w1 ⟨rfl, rfl⟩
    go_wp2
    go_ret
    exact ⟨rfl, rfl⟩
end Go.Proofs.YtllaahdbngjigaaDoor
