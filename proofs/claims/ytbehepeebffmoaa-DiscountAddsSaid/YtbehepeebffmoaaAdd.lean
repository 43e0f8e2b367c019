/-
  share.Add.
-/
import Derived.Test.YtbehepeebffmoaaAddP
import Derived.Test.YtbehepeebffmoaaOf
namespace Go.Proofs.Ytbehepeebffmoaa
open Go Go.RowKit
set_option linter.unusedVariables false
set_option linter.unusedSimpArgs false

theorem add64_run (x y c : Nat) (hc : c ≤ 1) (w : World) :
    (callFunc 37 #[.int .u64 x, .int .u64 y, .int .u64 c]).run Try.prog w =
      .ok (.value (.tuple #[.int .u64 (((x + y + c) % 18446744073709551616 : Nat) : Int), .int .u64 (((x + y + c) / 18446744073709551616 : Nat) : Int)])) w := by
  rw [run_callFunc_extern Try.func37 (by kernel_rfl) (by kernel_rfl) (by kernel_rfl) (e := add64Entry) (by kernel_rfl), run_add64 x y c (by omega) (by omega) (by omega) (by omega)]
  simp only [Result.andThen]
  congr 5 <;> omega

/-- The two numbers that came in, and the one that goes out, each in its block. -/
structure Three (b : Nat) (w1 : World) (a1 a2 b1 b2 : Value) : Prop where
  c1 : w1.cell? ⟨b, 0, none⟩ = some a1
  c2 : w1.cell? ⟨b, 1, none⟩ = some a2
  c3 : w1.cell? ⟨b + 1, 0, none⟩ = some b1
  c4 : w1.cell? ⟨b + 1, 1, none⟩ = some b2
  c5 : w1.cell? ⟨b + 1 + 1, 0, none⟩ = some (.int .i64 0)
  c6 : w1.cell? ⟨b + 1 + 1, 1, none⟩ = some (.int .i64 0)
  c7 : w1.frozen? ⟨b + 1 + 1, 0, none⟩ = false
  c8 : w1.frozen? ⟨b + 1 + 1, 1, none⟩ = false
  lt : b + 1 + 1 < w1.heap.size
theorem Three.below {b : Nat} {w1 w2 : World} {a1 a2 b1 b2 : Value} (h : Three b w1 a1 a2 b1 b2) (hb : Below w1.heap.size w1 w2) : Three b w2 a1 a2 b1 b2 := by
  obtain ⟨c1, c2, c3, c4, c5, c6, c7, c8, lt⟩ := h
  refine ⟨?_, ?_, ?_, ?_, ?_, ?_, ?_, ?_, Nat.lt_of_lt_of_le lt hb.size⟩
  · rw [hb.cell (by show b < _; omega)]; exact c1
  · rw [hb.cell (by show b < _; omega)]; exact c2
  · rw [hb.cell (by show b + 1 < _; omega)]; exact c3
  · rw [hb.cell (by show b + 1 < _; omega)]; exact c4
  · rw [hb.cell (by show b + 1 + 1 < _; omega)]; exact c5
  · rw [hb.cell (by show b + 1 + 1 < _; omega)]; exact c6
  · rw [hb.frozen (by show b + 1 + 1 < _; omega)]; exact c7
  · rw [hb.frozen (by show b + 1 + 1 < _; omega)]; exact c8
theorem three (w : World) (t : TypeId) (a1 a2 b1 b2 : Value) : Three w.heap.size (((w.alloc (.cells #[a1, a2] t)).alloc (.cells #[b1, b2] t)).alloc (.cells #[.int .i64 0, .int .i64 0] t)) a1 a2 b1 b2 := by
  have hC : ((((w.alloc (.cells #[a1, a2] t)).alloc (.cells #[b1, b2] t)).alloc (.cells #[.int .i64 0, .int .i64 0] t))).heap[w.heap.size + 1 + 1]? = some (.cells #[.int .i64 0, .int .i64 0] t (0, 0)) := by
    have := heap_alloc_new (((w.alloc (.cells #[a1, a2] t)).alloc (.cells #[b1, b2] t))) (.cells #[.int .i64 0, .int .i64 0] t)
    simpa using this
  have hB : ((((w.alloc (.cells #[a1, a2] t)).alloc (.cells #[b1, b2] t)).alloc (.cells #[.int .i64 0, .int .i64 0] t))).heap[w.heap.size + 1]? = some (.cells #[b1, b2] t (0, 0)) := by
    rw [((Below.refl (((w.alloc (.cells #[a1, a2] t)).alloc (.cells #[b1, b2] t))).heap.size _).alloc (Nat.le_refl _) _).block _ (by simp)]
    have := heap_alloc_new (w.alloc (.cells #[a1, a2] t)) (.cells #[b1, b2] t)
    simpa using this
  have hA : ((((w.alloc (.cells #[a1, a2] t)).alloc (.cells #[b1, b2] t)).alloc (.cells #[.int .i64 0, .int .i64 0] t))).heap[w.heap.size]? = some (.cells #[a1, a2] t (0, 0)) := by
    rw [((Below.refl (((w.alloc (.cells #[a1, a2] t)).alloc (.cells #[b1, b2] t))).heap.size _).alloc (Nat.le_refl _) _).block _ (by simp; omega),
      ((Below.refl (((w.alloc (.cells #[a1, a2] t)))).heap.size _).alloc (Nat.le_refl _) _).block _ (by simp)]
    exact heap_alloc_new _ _
  generalize (((w.alloc (.cells #[a1, a2] t)).alloc (.cells #[b1, b2] t)).alloc (.cells #[.int .i64 0, .int .i64 0] t)) = W at *
  refine ⟨?_, ?_, ?_, ?_, ?_, ?_, ?_, ?_, ?_⟩ <;> first | (simp [World.cell?, hA]; done) | (simp [World.cell?, hB]; done) | (simp [World.cell?, hC]; done) | (simp [World.frozen?, hC]; done) | skip
  rcases Nat.lt_or_ge (w.heap.size + 1 + 1) W.heap.size with g | g
  · exact g
  · rw [Array.getElem?_eq_none g] at hC; cases hC
theorem below3 (w : World) (x y z : Obj) : Below w.heap.size w (((w.alloc x).alloc y).alloc z) :=
  ((((Below.refl _ _).alloc (Nat.le_refl _) _).alloc (by simp) _).alloc (by simp; omega) _)
def addNo : Value := .tuple #[.agg #[.int .i64 0, .int .i64 0], .bool false]
def addV (aN aD bN bD : Nat) : Value :=
  if (aN * bD + bN * aD) / Nat.gcd (aN * bD + bN * aD) (aD * bD) < 9223372036854775808 ∧ aD * bD / Nat.gcd (aN * bD + bN * aD) (aD * bD) < 9223372036854775808 then
    .tuple #[.agg #[.int .i64 (((aN * bD + bN * aD) / Nat.gcd (aN * bD + bN * aD) (aD * bD) : Nat) : Int), .int .i64 ((aD * bD / Nat.gcd (aN * bD + bN * aD) (aD * bD) : Nat) : Int)], .bool true]
  else addNo

theorem add_bad1 (aN aD bN bD : Int) (w : World) (h : ¬ (0 ≤ aN ∧ 1 ≤ aD)) :
    Calls Try.prog 20 #[.agg #[.int .i64 aN, .int .i64 aD], .agg #[.int .i64 bN, .int .i64 bD]] w fun e w' => e = .returned addNo ∧ Below w.heap.size w w' := by
  have HI := Lib.hid (fun w => isratio_any aN aD w _ rfl)
  rw [decide_eq_false h] at HI
  clear h
  go_enter Try.func20, Try.ntmps20
  go_wp2_with fail
  refine (HI.out _).mono ?_
  rintro e w1 ⟨rfl, hb⟩
  obtain ⟨c1, c2, c3, c4, c5, c6, c7, c8, lt⟩ := (three w _ _ _ _ _).below hb
  have HB := Lib.hid (bt (below3 _ _ _ _) hb)
  clear hb
  obtain ⟨b, hb⟩ : ∃ b, b = w.heap.size := ⟨_, rfl⟩
  rw [← hb] at c1 c2 c3 c4 c5 c6 c7 c8 lt ⊢
  have HX := Lib.hid hb
  have LT := Lib.hid lt
  clear hb lt
  go_wp2
  refine bodyPost_ret (v := addNo) (by simp [results, Try.results20, go_sem, addNo, c5, c6, c7, c8]) rfl ⟨rfl, ?_⟩
  exact (HB.out.setCell (p := ⟨b + 1 + 1, 0, none⟩) (by rw [HX.out]; exact Nat.le_trans (Nat.le_succ _) (Nat.le_succ _)) _).setCell (p := ⟨b + 1 + 1, 1, none⟩) (by rw [HX.out]; exact Nat.le_trans (Nat.le_succ _) (Nat.le_succ _)) _

theorem add_bad2 (aN aD bN bD : Int) (w : World) (h1 : 0 ≤ aN ∧ 1 ≤ aD) (h : ¬ (0 ≤ bN ∧ 1 ≤ bD)) :
    Calls Try.prog 20 #[.agg #[.int .i64 aN, .int .i64 aD], .agg #[.int .i64 bN, .int .i64 bD]] w fun e w' => e = .returned addNo ∧ Below w.heap.size w w' := by
  have HI := Lib.hid (fun w => isratio_any aN aD w _ rfl)
  rw [decide_eq_true h1] at HI
  have HI2 := Lib.hid (fun w => isratio_any bN bD w _ rfl)
  rw [decide_eq_false h] at HI2
  clear h h1
  go_enter Try.func20, Try.ntmps20
  go_wp2_with fail
  refine (HI.out _).mono ?_
  rintro e w1 ⟨rfl, hb⟩
  have H3 := (three w _ _ _ _ _).below hb
  have HB := Lib.hid (bt (below3 _ _ _ _) hb)
  clear hb
  obtain ⟨b, hb⟩ : ∃ b, b = w.heap.size := ⟨_, rfl⟩
  rw [← hb] at H3 ⊢
  have HX := Lib.hid hb
  have HT := Lib.hid H3
  obtain ⟨c1, c2, c3, c4, c5, c6, c7, c8, _⟩ := H3
  clear hb
  go_wp2_with fail
  refine (HI2.out _).mono ?_
  rintro e w2 ⟨rfl, hb⟩
  clear c1 c2 c3 c4 c5 c6 c7 c8
  have HB2 := Lib.hid (bt HB.out hb)
  have H4 := HT.out.below hb
  obtain ⟨c1, c2, c3, c4, c5, c6, c7, c8, lt⟩ := H4
  clear hb lt
  go_wp2
  refine bodyPost_ret (v := addNo) (by simp [results, Try.results20, go_sem, addNo, c5, c6, c7, c8]) rfl ⟨rfl, ?_⟩
  exact (HB2.out.setCell (p := ⟨b + 1 + 1, 0, none⟩) (by rw [HX.out]; exact Nat.le_trans (Nat.le_succ _) (Nat.le_succ _)) _).setCell (p := ⟨b + 1 + 1, 1, none⟩) (by rw [HX.out]; exact Nat.le_trans (Nat.le_succ _) (Nat.le_succ _)) _

/-- What Add holds behind its common part. -/
structure Parts4 (M d x y g bd z q over den : Nat) : Prop where
  dummy : True

set_option maxHeartbeats 8000000 in
theorem add_ok (aN aD bN bD : Nat) (w : World) (ha : aN < 9223372036854775808) (ha2 : aD < 9223372036854775808) (hb : bN < 9223372036854775808) (hb2 : bD < 9223372036854775808) (ha3 : 1 ≤ aD) (hb3 : 1 ≤ bD) :
    Calls Try.prog 20 #[.agg #[.int .i64 (aN : Int), .int .i64 (aD : Int)], .agg #[.int .i64 (bN : Int), .int .i64 (bD : Int)]] w fun e w' => e = .returned (addV aN aD bN bD) ∧ Below w.heap.size w w' := by
  have HI := Lib.hid (fun w => isratio_any aN aD w _ rfl)
  rw [decide_eq_true (show 0 ≤ (aN : Int) ∧ 1 ≤ (aD : Int) from ⟨by omega, by omega⟩)] at HI
  have HI2 := Lib.hid (fun w => isratio_any bN bD w _ rfl)
  rw [decide_eq_true (show 0 ≤ (bN : Int) ∧ 1 ≤ (bD : Int) from ⟨by omega, by omega⟩)] at HI2
  obtain ⟨ga, gb, an, ad, bn, bd, d, x, y, g, eg, eg2, g0, g1, e1, e2, e3, e4, p1, p2, e5, p3, e6, e7, e8, p4, gd, K1, K2⟩ := add_red (aN := aN) (aD := aD) (bN := bN) (bD := bD) ha3 hb3
  obtain ⟨v, hv⟩ : ∃ v, v = addV aN aD bN bD := ⟨_, rfl⟩
  have HV := Lib.hid hv
  unfold addV at HV
  rw [← K1, ← K2] at HV
  rw [← hv]
  have lan : an ≤ aN := by rw [e1]; exact Nat.div_le_self _ _
  have lad : ad ≤ aD := by rw [e2]; exact Nat.div_le_self _ _
  have lbn : bn ≤ bN := by rw [e3]; exact Nat.div_le_self _ _
  have lbd : bd ≤ bD := by rw [e4]; exact Nat.div_le_self _ _
  have lx : x ≤ ad := by rw [e6]; exact Nat.div_le_self _ _
  have ly : y ≤ bd := by rw [e7]; exact Nat.div_le_self _ _
  have ld : d ≤ ad := by rw [e5]; exact Nat.gcd_le_left _ p1
  have lga : ga ≤ aD := by rw [eg]; exact Nat.gcd_le_right _ ha3
  have lgb : gb ≤ bD := by rw [eg2]; exact Nat.gcd_le_right _ hb3
  obtain ⟨M, hM⟩ : ∃ M, M = an * y + bn * x := ⟨_, rfl⟩
  rw [← hM] at e8 HV
  have M1 : an * y ≤ 9223372036854775807 * 9223372036854775807 := Nat.mul_le_mul (by omega) (by omega)
  have M2 : bn * x ≤ 9223372036854775807 * 9223372036854775807 := Nat.mul_le_mul (by omega) (by omega)
  obtain ⟨z, hz⟩ : ∃ z, z = bd / g := ⟨_, rfl⟩
  rw [← hz] at HV
  have lz : z ≤ bd := by rw [hz]; exact Nat.div_le_self _ _
  have D1 := Lib.hid (fun w => divisor_any aN aD (by omega) (by omega) w)
  rw [← eg] at D1
  have D2 := Lib.hid (fun w => divisor_any bN bD (by omega) (by omega) w)
  rw [← eg2] at D2
  have D3 := Lib.hid (fun w => divisor_any ad bd (by omega) (by omega) w)
  rw [← e5] at D3
  obtain ⟨h1, hh1⟩ : ∃ h, h = an * y / 18446744073709551616 := ⟨_, rfl⟩
  obtain ⟨l1, hl1⟩ : ∃ h, h = an * y % 18446744073709551616 := ⟨_, rfl⟩
  obtain ⟨h2, hh2⟩ : ∃ h, h = bn * x / 18446744073709551616 := ⟨_, rfl⟩
  obtain ⟨l2, hl2⟩ : ∃ h, h = bn * x % 18446744073709551616 := ⟨_, rfl⟩
  have U1 := Lib.hid (fun w => mul_any an y (by omega) (by omega) w)
  rw [← hh1, ← hl1] at U1
  have U2 := Lib.hid (fun w => mul_any bn x (by omega) (by omega) w)
  rw [← hh2, ← hl2] at U2
  obtain ⟨lo, hlo⟩ : ∃ h, h = (l1 + l2 + 0) % 18446744073709551616 := ⟨_, rfl⟩
  obtain ⟨c, hc⟩ : ∃ h, h = (l1 + l2 + 0) / 18446744073709551616 := ⟨_, rfl⟩
  have hc1 : c ≤ 1 := by omega
  have A1 : ∀ w, (callFunc 37 #[.int .u64 (l1 : Int), .int .u64 (l2 : Int), .int .u64 0]).run Try.prog w = .ok (.value (.tuple #[.int .u64 (lo : Int), .int .u64 (c : Int)])) w := fun w => by
    have := add64_run l1 l2 0 (by omega) w
    rw [← hlo, ← hc] at this
    exact this
  obtain ⟨hi, hhi⟩ : ∃ h, h = (h1 + h2 + c) % 18446744073709551616 := ⟨_, rfl⟩
  obtain ⟨c9, hc9⟩ : ∃ h, h = (h1 + h2 + c) / 18446744073709551616 := ⟨_, rfl⟩
  have A2 : ∀ w, (callFunc 37 #[.int .u64 (h1 : Int), .int .u64 (h2 : Int), .int .u64 (c : Int)]).run Try.prog w = .ok (.value (.tuple #[.int .u64 (hi : Int), .int .u64 (c9 : Int)])) w := fun w => by
    have := add64_run h1 h2 c hc1 w
    rw [← hhi, ← hc9] at this
    exact this
  have hall : hi * 18446744073709551616 + lo = M := by
    have := Nat.div_add_mod (an * y) 18446744073709551616
    have := Nat.div_add_mod (bn * x) 18446744073709551616
    rw [hM]
    generalize an * y = X at *
    generalize bn * x = Y at *
    omega
  have lhi : hi < 18446744073709551616 := by omega
  have llo : lo < 18446744073709551616 := by omega
  have R1 := Lib.hid (fun w => rem_any hi lo d w p3 lhi llo (by omega))
  rw [hall] at R1
  obtain ⟨r, hr⟩ : ∃ r, r = M % d := ⟨_, rfl⟩
  have lr : r < d := by rw [hr]; exact Nat.mod_lt _ p3
  rw [← hr] at R1 e8
  have D4 := Lib.hid (fun w => divisor_any r d (by omega) (by omega) w)
  rw [← e8] at D4
  have V1 := Lib.hid (fun w (h : hi < g) => div_any hi lo g w h (by omega) llo)
  rw [hall] at V1
  obtain ⟨q, hq⟩ : ∃ q, q = M / g := ⟨_, rfl⟩
  obtain ⟨q9, hq9⟩ : ∃ q, q = M % g := ⟨_, rfl⟩
  rw [← hq, ← hq9] at V1
  rw [← hq] at HV
  have HQ := Lib.hid (fun (h : g ≤ hi) => show ¬ q < 9223372036854775808 by
    rw [hq]
    have := of_wide (P := M) (D := g) (by omega) p4
    have h3 : g * 9223372036854775808 ≤ M := by omega
    have := (Nat.le_div_iff_mul_le p4).2 (show 9223372036854775808 * g ≤ M by omega)
    omega)
  have U3 := Lib.hid (fun w => (mul_any x z (by omega) (by omega) w).mono fun e w' h => And.intro h.1 h.2.symm)
  obtain ⟨ov, hov⟩ : ∃ q, q = x * z / 18446744073709551616 := ⟨_, rfl⟩
  obtain ⟨den, hden⟩ : ∃ q, q = x * z % 18446744073709551616 := ⟨_, rfl⟩
  have hxz : ov * 18446744073709551616 + den = x * z := by rw [hov, hden]; exact Nat.div_add_mod' _ _
  rw [← hov, ← hden] at U3
  rw [← hxz] at HV
  have w1 : IntKind.u64.wrap (aN : Int) = (aN : Int) := wrapN _ (by omega)
  have w2 : IntKind.u64.wrap (aD : Int) = (aD : Int) := wrapN _ (by omega)
  have w3 : IntKind.u64.wrap (bN : Int) = (bN : Int) := wrapN _ (by omega)
  have w4 : IntKind.u64.wrap (bD : Int) = (bD : Int) := wrapN _ (by omega)
  have w5 : IntKind.u64.wrap (an : Int) = (an : Int) := wrapN _ (by omega)
  have w6 : IntKind.u64.wrap (ad : Int) = (ad : Int) := wrapN _ (by omega)
  have w7 : IntKind.u64.wrap (bn : Int) = (bn : Int) := wrapN _ (by omega)
  have w8 : IntKind.u64.wrap (bd : Int) = (bd : Int) := wrapN _ (by omega)
  have w9 : IntKind.u64.wrap (x : Int) = (x : Int) := wrapN _ (by omega)
  have w10 : IntKind.u64.wrap (y : Int) = (y : Int) := wrapN _ (by omega)
  have w11 : IntKind.u64.wrap (z : Int) = (z : Int) := wrapN _ (by omega)
  have t1 : (aN : Int).tdiv (ga : Int) = (an : Int) := by rw [e1]; exact (Int.ofNat_tdiv _ _).symm
  have t1b : (aN : Int) / (ga : Int) = (an : Int) := by rw [e1]; exact (Int.natCast_ediv _ _).symm
  have t2 : (aD : Int).tdiv (ga : Int) = (ad : Int) := by rw [e2]; exact (Int.ofNat_tdiv _ _).symm
  have t2b : (aD : Int) / (ga : Int) = (ad : Int) := by rw [e2]; exact (Int.natCast_ediv _ _).symm
  have t3 : (bN : Int).tdiv (gb : Int) = (bn : Int) := by rw [e3]; exact (Int.ofNat_tdiv _ _).symm
  have t3b : (bN : Int) / (gb : Int) = (bn : Int) := by rw [e3]; exact (Int.natCast_ediv _ _).symm
  have t4 : (bD : Int).tdiv (gb : Int) = (bd : Int) := by rw [e4]; exact (Int.ofNat_tdiv _ _).symm
  have t4b : (bD : Int) / (gb : Int) = (bd : Int) := by rw [e4]; exact (Int.natCast_ediv _ _).symm
  have t5 : (ad : Int).tdiv (d : Int) = (x : Int) := by rw [e6]; exact (Int.ofNat_tdiv _ _).symm
  have t5b : (ad : Int) / (d : Int) = (x : Int) := by rw [e6]; exact (Int.natCast_ediv _ _).symm
  have t6 : (bd : Int).tdiv (d : Int) = (y : Int) := by rw [e7]; exact (Int.ofNat_tdiv _ _).symm
  have t6b : (bd : Int) / (d : Int) = (y : Int) := by rw [e7]; exact (Int.natCast_ediv _ _).symm
  have t7 : (bd : Int).tdiv (g : Int) = (z : Int) := by rw [hz]; exact (Int.ofNat_tdiv _ _).symm
  have t7b : (bd : Int) / (g : Int) = (z : Int) := by rw [hz]; exact (Int.natCast_ediv _ _).symm
  have z1 : ((ga : Int) == 0) = false := by rw [beq_eq_false_iff_ne]; omega
  have z2 : ((gb : Int) == 0) = false := by rw [beq_eq_false_iff_ne]; omega
  have z3 : ((d : Int) == 0) = false := by rw [beq_eq_false_iff_ne]; omega
  have z4 : ((g : Int) == 0) = false := by rw [beq_eq_false_iff_ne]; omega
  have dl : den < 18446744073709551616 := by rw [hden]; exact Nat.mod_lt _ (by omega)
  have HDL := Lib.hid dl
  clear K1 K2 hv eg eg2 e1 e2 e3 e4 e5 e6 e7 e8 lan lad lbn lbd lx ly ld lga lgb hM M1 M2 hz lz hh1 hl1 hh2 hl2 hlo hc hc1 hhi hc9 hall lhi llo hr lr hq hq9 hov hden hxz ha ha2 hb hb2 ha3 hb3 p1 p2 gd dl
  go_enter Try.func20, Try.ntmps20
  go_wp2_with fail
  refine (HI.out _).mono ?_
  rintro e wa ⟨rfl, hb⟩
  have H3 := (three w _ _ _ _ _).below hb
  have HB := Lib.hid (bt (below3 _ _ _ _) hb)
  clear hb
  obtain ⟨b, hb⟩ : ∃ b, b = w.heap.size := ⟨_, rfl⟩
  rw [← hb] at H3 ⊢
  have HX := Lib.hid hb
  have HT := Lib.hid H3
  obtain ⟨c1, c2, c3, c4, c5, c6, c7, c8, _⟩ := H3
  clear hb
  go_wp2_with fail
  refine (HI2.out _).mono ?_
  rintro e wb ⟨rfl, hb⟩
  clear c1 c2 c3 c4 c5 c6 c7 c8
  have HB2 := Lib.hid (bt HB.out hb)
  have H4 := HT.out.below hb
  obtain ⟨c1, c2, c3, c4, c5, c6, c7, c8, lt⟩ := H4
  clear hb lt
  go_wp2_with fail
  go_quiet (fail)
  go_wp2_with fail
  go_quiet (fail)
  go_wp2_with fail
  refine (D1.out _).mono ?_
  rintro e wc ⟨rfl, m1, rfl⟩
  go_wp2_with fail
  refine (D2.out _).mono ?_
  rintro e wc ⟨rfl, m2, rfl⟩
  go_wp2_with fail
  go_quiet (fail)
  go_wp2_with fail
  refine (D3.out _).mono ?_
  rintro e wc ⟨rfl, m3, rfl⟩
  go_wp2_with fail
  refine (U1.out _).mono ?_
  rintro e wc ⟨rfl, rfl⟩
  go_wp2_with fail
  refine (U2.out _).mono ?_
  rintro e wc ⟨rfl, rfl⟩
  go_wp2_with fail
  refine (R1.out _).mono ?_
  rintro e wc ⟨rfl, m4, rfl⟩
  go_wp2_with fail
  refine (D4.out _).mono ?_
  rintro e wc ⟨rfl, m5, rfl⟩
  by_cases hhg : g ≤ hi
  · have f1 : decide (g ≤ hi) = true := by rw [decide_eq_true_iff]; exact hhg
    go_wp2
    refine bodyPost_ret (v := addNo) (by simp [results, Try.results20, go_sem, addNo, c5, c6, c7, c8]) rfl ⟨by rw [HV.out, if_neg (by intro h; exact HQ.out hhg h.1)], ?_⟩
    exact ((below_drewN HB2.out _).setCell (p := ⟨b + 1 + 1, 0, none⟩) (by rw [HX.out]; exact Nat.le_trans (Nat.le_succ _) (Nat.le_succ _)) _).setCell (p := ⟨b + 1 + 1, 1, none⟩) (by rw [HX.out]; exact Nat.le_trans (Nat.le_succ _) (Nat.le_succ _)) _
  · have f1 : decide (g ≤ hi) = false := by rw [decide_eq_false_iff_not]; exact hhg
    have V2 := Lib.hid (fun w => V1.out w (by omega))
    clear hhg
    go_wp2_with fail
    refine (V2.out _).mono ?_
    rintro e wc ⟨rfl, m6, rfl⟩
    go_wp2_with fail
    go_quiet ((go_at_call 34; exact (U3.out _).mono fun e w' h => ⟨h.1, ⟨_, h.2⟩⟩))
    by_cases hq1 : 9223372036854775807 < q
    · have f2 : decide ((9223372036854775807 : Int) < (q : Int)) = true := by rw [decide_eq_true_iff]; omega
      have HN := Lib.hid (show ¬ q < 9223372036854775808 by omega)
      clear hq1
      go_wp2
      refine bodyPost_ret (v := addNo) (by simp [results, Try.results20, go_sem, addNo, c5, c6, c7, c8]) rfl ⟨by rw [HV.out, if_neg (by intro h; exact HN.out h.1)], ?_⟩
      exact ((below_drewN HB2.out _).setCell (p := ⟨b + 1 + 1, 0, none⟩) (by rw [HX.out]; exact Nat.le_trans (Nat.le_succ _) (Nat.le_succ _)) _).setCell (p := ⟨b + 1 + 1, 1, none⟩) (by rw [HX.out]; exact Nat.le_trans (Nat.le_succ _) (Nat.le_succ _)) _
    · have f2 : decide ((9223372036854775807 : Int) < (q : Int)) = false := by rw [decide_eq_false_iff_not]; omega
      have HQ1 := Lib.hid (show q < 9223372036854775808 by omega)
      have w12 : IntKind.i64.wrap (q : Int) = (q : Int) := i64_eq rfl (by omega)
      clear hq1
      by_cases ho : ov = 0
      · subst ho
        by_cases hd1 : 9223372036854775807 < den
        · have f3 : decide ((9223372036854775807 : Int) < (den : Int)) = true := by rw [decide_eq_true_iff]; omega
          have HN := Lib.hid (show ¬ 0 * 18446744073709551616 + den < 9223372036854775808 by omega)
          clear hd1
          go_wp2
          refine bodyPost_ret (v := addNo) (by simp [results, Try.results20, go_sem, addNo, c5, c6, c7, c8]) rfl ⟨by rw [HV.out, if_neg (by intro h; exact HN.out h.2)], ?_⟩
          exact ((below_drewN HB2.out _).setCell (p := ⟨b + 1 + 1, 0, none⟩) (by rw [HX.out]; exact Nat.le_trans (Nat.le_succ _) (Nat.le_succ _)) _).setCell (p := ⟨b + 1 + 1, 1, none⟩) (by rw [HX.out]; exact Nat.le_trans (Nat.le_succ _) (Nat.le_succ _)) _
        · have f3 : decide ((9223372036854775807 : Int) < (den : Int)) = false := by rw [decide_eq_false_iff_not]; omega
          have HN := Lib.hid (show q < 9223372036854775808 ∧ 0 * 18446744073709551616 + den < 9223372036854775808 from ⟨HQ1.out, by omega⟩)
          have w13 : IntKind.i64.wrap (den : Int) = (den : Int) := i64_eq rfl (by omega)
          have HE := Lib.hid (show 0 * 18446744073709551616 + den = den by omega)
          clear hd1
          go_wp2
          refine bodyPost_ret (v := .tuple #[.agg #[.int .i64 (q : Int), .int .i64 (den : Int)], .bool true]) (by simp [results, Try.results20, go_sem, addNo, c5, c6, c7, c8]) rfl ⟨by rw [HV.out, if_pos HN.out, HE.out], ?_⟩
          exact ((below_drewN HB2.out _).setCell (p := ⟨b + 1 + 1, 0, none⟩) (by rw [HX.out]; exact Nat.le_trans (Nat.le_succ _) (Nat.le_succ _)) _).setCell (p := ⟨b + 1 + 1, 1, none⟩) (by rw [HX.out]; exact Nat.le_trans (Nat.le_succ _) (Nat.le_succ _)) _
      · have f3 : ((ov : Int) == 0) = false := by rw [beq_eq_false_iff_ne]; omega
        have f3b : ((ov : Int) != 0) = true := by simp [bne, f3]
        have HN := Lib.hid (show ¬ ov * 18446744073709551616 + den < 9223372036854775808 by omega)
        clear ho
        go_wp2
        refine bodyPost_ret (v := addNo) (by simp [results, Try.results20, go_sem, addNo, c5, c6, c7, c8]) rfl ⟨by rw [HV.out, if_neg (by intro h; exact HN.out h.2)], ?_⟩
        exact ((below_drewN HB2.out _).setCell (p := ⟨b + 1 + 1, 0, none⟩) (by rw [HX.out]; exact Nat.le_trans (Nat.le_succ _) (Nat.le_succ _)) _).setCell (p := ⟨b + 1 + 1, 1, none⟩) (by rw [HX.out]; exact Nat.le_trans (Nat.le_succ _) (Nat.le_succ _)) _
end Go.Proofs.Ytbehepeebffmoaa
