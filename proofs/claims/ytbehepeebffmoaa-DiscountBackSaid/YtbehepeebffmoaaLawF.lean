/-
  DiscountFair.
-/
import Derived.Test.YtbehepeebffmoaaFair
import Derived.Test.YtbehepeebffmoaaLaw
namespace Go.Proofs.Ytbehepeebffmoaa
open Go Go.RowKit
set_option linter.unusedVariables false
set_option linter.unusedSimpArgs false

/-- A fraction that came in, in its block. -/
def Bx (b : Nat) (w0 : World) (x1 x2 : Value) (w : World) : Prop := w.cell? ⟨b, 0, none⟩ = some x1 ∧ w.cell? ⟨b, 1, none⟩ = some x2 ∧ b < w.heap.size ∧ Below w0.heap.size w0 w
theorem Bx.below {b : Nat} {w0 w w' : World} {x1 x2 : Value} (h : Bx b w0 x1 x2 w) (hb : Below w.heap.size w w') : Bx b w0 x1 x2 w' := by
  obtain ⟨c1, c2, lt, h0⟩ := h
  exact ⟨(hb.cell (p := ⟨b, 0, none⟩) lt).trans c1, (hb.cell (p := ⟨b, 1, none⟩) lt).trans c2, Nat.lt_of_lt_of_le lt hb.size, btd h0 hb⟩
theorem Bx.drew {b : Nat} {w0 w : World} {x1 x2 : Value} (h : Bx b w0 x1 x2 w) : Bx b w0 x1 x2 w.drew := by
  obtain ⟨c1, c2, lt, h0⟩ := h
  exact ⟨c1, c2, lt, h0.drew⟩
theorem Bx.alloc {b : Nat} {w0 w : World} {x1 x2 : Value} (h : Bx b w0 x1 x2 w) (o : Obj) : Bx b w0 x1 x2 (w.alloc o) := h.below ((Below.refl _ _).alloc (Nat.le_refl _) _)
theorem bx_new {w w1 : World} {t : TypeId} {x1 x2 : Value} (hb : Below (w.alloc (.cells #[x1, x2] t)).heap.size (w.alloc (.cells #[x1, x2] t)) w1) : Bx w.heap.size w x1 x2 w1 := by
  obtain ⟨h1, h2, h3⟩ := two_cells hb
  exact ⟨h1, h2, h3, bta (Below.refl _ _) hb⟩

theorem fair_zero {a b N D B p q : Int} (h : intP a N D 0 B = (p, q, true)) (h1 : 0 ≤ b) (h2 : b ≤ 1099511627776) : fairP a b N D 0 B = if b < a then 1 else if b = a then 0 else -1 := by
  obtain ⟨P, Q, rfl, rfl, hf⟩ := fine_of h
  by_cases h3 : b < a
  · rw [fair_less h h1 h2 h3, if_pos h3]
  · rw [fair_cmp h h1 h2 h3, if_neg h3]
    have hP : P = 0 := by
      have hm : P * (D.toNat * B.toNat) = 0 := by simpa using hf.cross
      obtain ⟨_, _, _, _, h5, _, _, _, h9⟩ := hf.ok
      have h0 : 0 < D.toNat * B.toNat := Nat.mul_pos (by omega) (by omega)
      rcases Nat.mul_eq_zero.1 hm with h | h
      · exact h
      · omega
    have hQ := hf.pos
    subst hP
    unfold cmpI
    rw [Nat.zero_mul]
    by_cases h4 : b = a
    · subst h4
      rw [if_pos rfl, Int.sub_self]
      simp
    · have h5 : 0 < (b - a).toNat * Q := Nat.mul_pos (by omega) hQ
      rw [if_pos h5, if_neg h4]

namespace discountFair
set_option maxRecDepth 100000 in
set_option maxHeartbeats 4000000 in
theorem body (a b' N D T B : Int) (w : World) (ha : -9223372036854775808 ≤ a ∧ a ≤ 9223372036854775807) :
    Calls Try.prog 6 #[.int .i64 a, .int .i64 b', .agg #[.int .i64 N, .int .i64 D], .int .i64 T, .int .i64 B] w fun e w' => e = .returned (.bool true) ∧ Below w.heap.size w w' := by
  have HF := Lib.hid (fun w => fair_any a b' N D T B w)
  have HR := Lib.hid (fun w => rfair_any a b' N D T B w)
  have HI := Lib.hid (fun w => interest_any a N D 0 B w)
  have H0 := Lib.hid (fun w => fair_any a a N D 0 B w)
  have H1 := Lib.hid (fun w => fair_any a (a - 1) N D 0 B w)
  have H2 := Lib.hid (fun w => fair_any a (a + 1) N D 0 B w)
  generalize fairP a b' N D T B = z at *
  obtain ⟨p, q, ok, hi⟩ : ∃ p q ok, intP a N D 0 B = (p, q, ok) := ⟨_, _, _, rfl⟩
  rw [hi] at HI
  unfold vR at HI
  have HZ := Lib.hid hi
  clear hi ha
  go_enter Try.func6, Try.ntmps6
  go_wp2_with fail
  refine (awake39_any _).mono ?_
  rintro e w1 ⟨rfl, hb⟩
  have hS0 := bx_new hb
  obtain ⟨b, hb0⟩ : ∃ b, b = w.heap.size := ⟨_, rfl⟩
  rw [← hb0] at hS0 ⊢
  clear hb hb0
  have HF1 := Lib.hid (fun (W : World) (h : Bx b w (.int .i64 N) (.int .i64 D) W) => (HF.out W).mono fun e w' hh => (show e = .returned (.int .i64 z) ∧ Bx b w (.int .i64 N) (.int .i64 D) w' from ⟨hh.1, h.below hh.2⟩))
  have HR1 := Lib.hid (fun (W : World) (h : Bx b w (.int .i64 N) (.int .i64 D) W) => (HR.out W).mono fun e w' hh => (show e = .returned (.int .i64 z) ∧ Bx b w (.int .i64 N) (.int .i64 D) w' from ⟨hh.1, h.below hh.2⟩))
  clear HF HR
  go_wp2_with fail
  go_region_held3 (fun W => W.cell? ⟨b, 0, none⟩ = some (.int .i64 N) ∧ W.cell? ⟨b, 1, none⟩ = some (.int .i64 D) ∧ b < W.heap.size ∧ Below w.heap.size w W)
    (first | (show Bx b w (.int .i64 N) (.int .i64 D) _; with_reducible first | exact hS9 | exact Bx.drew hS0) | (with_reducible assumption))
    (first | (go_at_call 18; refine (HF1.out _ ?_).mono ?_; (unfold Bx; with_reducible first | assumption | exact ⟨by assumption, by assumption, by assumption, by assumption⟩); rintro e w9 ⟨rfl, hS9⟩) | (go_at_call 19; refine (HR1.out _ ?_).mono ?_; (unfold Bx; with_reducible first | assumption | exact ⟨by assumption, by assumption, by assumption, by assumption⟩); rintro e w9 ⟨rfl, hS9⟩))
  have hS := hS9
  unfold Bx at hS
  obtain ⟨c1, c2, -, -⟩ := hS
  go_wp2_with fail
  refine (HI.out _).mono ?_
  rintro e w2 ⟨rfl, hb⟩
  have HS2 := Lib.hid ((hS9.below hb).alloc (.cells #[.int .i64 p, .int .i64 q] 23))
  clear hb c1 c2
  obtain ⟨c1, c2, -, -⟩ := HS2.out
  cases ok with
  | false =>
    go_wp2
    go_ret
    exact ⟨rfl, HS2.out.2.2.2⟩
  | true =>
    have hz := HZ.out
    obtain ⟨P, Q, rfl, rfl, hf⟩ := fine_of hz
    have ha1 := hf.ok.1
    have ha2 := hf.ok.2.1
    rw [fair_zero hz ha1 ha2, if_neg (by omega), if_pos rfl] at H0
    by_cases g1 : a = 0
    · subst g1
      rw [fair_zero hz (by omega) (by omega), if_neg (by omega), if_neg (by omega)] at H2
      clear hz hf ha1 ha2 HZ
      go_wp2_with fail
      refine (H0.out _).mono ?_
      rintro e w3 ⟨rfl, hb⟩
      have HS3 := Lib.hid (HS2.out.below hb)
      clear hb c1 c2
      obtain ⟨c1, c2, -, -⟩ := HS3.out
      go_wp2_with fail
      refine (H2.out _).mono ?_
      rintro e w4 ⟨rfl, hb⟩
      have HS4 := Lib.hid (HS3.out.below hb)
      clear hb c1 c2
      go_wp2
      go_ret
      exact ⟨rfl, HS4.out.2.2.2⟩
    · have d1 : (a == 0) = false := by rw [beq_eq_false_iff_ne]; exact g1
      have v1 : IntKind.i64.wrap (a - 1) = a - 1 := IntWalk.i64_in _ (by omega)
      rw [fair_zero hz (by omega) (by omega), if_pos (by omega)] at H1
      by_cases g2 : a = 1099511627776
      · have d2 : (a == 1099511627776) = true := by rw [beq_iff_eq]; exact g2
        clear hz hf ha1 ha2 HZ g1 g2
        go_wp2_with fail
        refine (H0.out _).mono ?_
        rintro e w3 ⟨rfl, hb⟩
        have HS3 := Lib.hid (HS2.out.below hb)
        clear hb c1 c2
        obtain ⟨c1, c2, -, -⟩ := HS3.out
        go_wp2_with fail
        refine (H1.out _).mono ?_
        rintro e w4 ⟨rfl, hb⟩
        have HS4 := Lib.hid (HS3.out.below hb)
        clear hb c1 c2
        go_wp2
        go_ret
        exact ⟨rfl, HS4.out.2.2.2⟩
      · have d2 : (a == 1099511627776) = false := by rw [beq_eq_false_iff_ne]; exact g2
        have v2 : IntKind.i64.wrap (a + 1) = a + 1 := IntWalk.i64_in _ (by omega)
        rw [fair_zero hz (by omega) (by omega), if_neg (by omega), if_neg (by omega)] at H2
        clear hz hf ha1 ha2 HZ g1 g2
        go_wp2_with fail
        refine (H0.out _).mono ?_
        rintro e w3 ⟨rfl, hb⟩
        have HS3 := Lib.hid (HS2.out.below hb)
        clear hb c1 c2
        obtain ⟨c1, c2, -, -⟩ := HS3.out
        go_wp2_with fail
        refine (H1.out _).mono ?_
        rintro e w4 ⟨rfl, hb⟩
        have HS4 := Lib.hid (HS3.out.below hb)
        clear hb c1 c2
        obtain ⟨c1, c2, -, -⟩ := HS4.out
        go_wp2_with fail
        refine (H2.out _).mono ?_
        rintro e w5 ⟨rfl, hb⟩
        have HS5 := Lib.hid (HS4.out.below hb)
        clear hb c1 c2
        go_wp2
        go_ret
        exact ⟨rfl, HS5.out.2.2.2⟩
theorem walk (a b : Int) (v : Value) (T B : Int) (w : World) (ha : (Lit.int .i64 a).wf = true) (_ : (Lit.int .i64 b).wf = true) (hv : Is23 w v) (_ : (Lit.int .i64 T).wf = true) (_ : (Lit.int .i64 B).wf = true) :
    Calls Try.prog 6 #[.int .i64 a, .int .i64 b, v, .int .i64 T, .int .i64 B] w fun e w' => e = .returned (.bool true) ∧ Below w.heap.size w w' := by
  obtain ⟨N, D, rfl, _⟩ := hv
  exact body a b N D T B w (by simp [Lit.wf, IntKind.min, IntKind.max, IntKind.bits, IntKind.signed] at ha; omega)
end discountFair
end Go.Proofs.Ytbehepeebffmoaa
