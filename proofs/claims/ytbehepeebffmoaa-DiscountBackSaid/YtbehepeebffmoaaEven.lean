/-
  share.Even, and ShareEven.
-/
import Derived.Test.YtbehepeebffmoaaSums
namespace Go.Proofs.Ytbehepeebffmoaa
open Go Go.RowKit
set_option linter.unusedVariables false
set_option linter.unusedSimpArgs false

def ones (n : Nat) : List Nat := List.replicate n 1
theorem ones_len (n : Nat) : (ones n).length = n := by simp [ones]
theorem ones_sum (n : Nat) : (ones n).sum = n := by
  induction n with
  | zero => rfl
  | succ n ih => unfold ones at *; rw [List.replicate_succ, List.sum_cons, ih]; omega
theorem ones_pts (T n : Nat) : ptsL T (ones n) = List.replicate n (T / n) := by
  unfold ptsL
  rw [ones_sum]
  unfold ones
  rw [List.map_replicate, Nat.mul_one]
theorem ones_rts (T n : Nat) : rtsL T (ones n) = List.replicate n (T % n) := by
  unfold rtsL
  rw [ones_sum]
  unfold ones
  rw [List.map_replicate, Nat.mul_one]
theorem rep_sum (n a : Nat) : (List.replicate n a).sum = n * a := by
  induction n with
  | zero => simp
  | succ n ih => rw [List.replicate_succ, List.sum_cons, ih, Nat.succ_mul]; omega
theorem ones_left (T n : Nat) : leftL T (ones n) = T % n := by
  unfold leftL
  rw [ones_pts, rep_sum]
  have := Nat.div_add_mod T n
  omega
/-- Shared by alike weights: the first ones have one more. -/
theorem even_split {T n : Nat} {out : List Nat} (h : IsSplit T (ones n) out) : ∀ i, i < n → out.getD i 0 = T / n + if i < T % n then 1 else 0 := by
  have e : IsSplit T (ones n) (outL T (ones n) (List.range n) (leftL T (ones n))) := by
    refine ⟨List.range n, by rw [ones_len], ?_, rfl⟩
    refine List.Pairwise.imp_of_mem ?_ List.pairwise_lt_range
    intro a b ha hb hab
    right
    refine ⟨?_, hab⟩
    have h1 := List.mem_range.1 ha
    have h2 := List.mem_range.1 hb
    simp [keyL, ones_rts, h1, h2]
  intro i hi
  rw [h.unique e, List.getD_eq_getElem?_getD, outL_get (by rw [ones_len]; exact hi), ones_left, ones_pts]
  have hmin : min (T % n) n = T % n := Nat.min_eq_left (Nat.le_of_lt (Nat.mod_lt _ (by omega)))
  simp [hi, hmin]

theorem ones_neg (n : Nat) : (natI (ones n)).any is_neg = false := by
  induction n with
  | zero => rfl
  | succ n ih => unfold ones natI at *; rw [List.replicate_succ, List.map_cons, List.any_cons, ih]; rfl
theorem ones_over (n : Nat) : (natI (ones n)).any is_over = false := by
  induction n with
  | zero => rfl
  | succ n ih => unfold ones natI at *; rw [List.replicate_succ, List.map_cons, List.any_cons, ih]; rfl
theorem ones_pos (n : Nat) : 0 < n → (natI (ones n)).any is_pos = true := by
  intro h
  obtain ⟨m, rfl⟩ : ∃ m, n = m + 1 := ⟨n - 1, by omega⟩
  unfold ones natI; rw [List.replicate_succ, List.map_cons, List.any_cons]; rfl
theorem ones_wrong {T : Int} {n : Nat} (h1 : 1 ≤ n) (h2 : n ≤ 4096) : (wrongN T (natI (ones n)) = 0 ↔ 0 ≤ T ∧ T ≤ 1099511627776) := by
  have hne : natI (ones n) ≠ [] := by intro e; have := congrArg List.length e; simp [natI, ones_len] at this; omega
  have hlen : (natI (ones n)).length = n := by simp [natI, ones_len]
  unfold wrongN
  rw [hlen, ones_neg, ones_over, ones_pos n h1]
  constructor
  · intro h
    split at h
    · cases h
    · rename_i g1
      split at h
      · cases h
      · rename_i g2
        constructor
        · rcases Int.lt_or_le T 0 with g | g; exact absurd (.inl g) g1; exact g
        · rcases Int.lt_or_le 1099511627776 T with g | g; exact absurd (.inl g) g2; exact g
  · rintro ⟨h3, h4⟩
    rw [if_neg (by simp [hne]; omega), if_neg (by simp; omega), if_neg (by simp)]

set_option maxHeartbeats 2000000 in
theorem even_any (T : Int) (n : Nat) (w : World) (h1 : 1 ≤ n) (h2 : n ≤ 4096) :
    Calls Try.prog 40 #[.int .i64 T, .int .i64 (n : Int)] w fun e w' => Below w.heap.size w w' ∧
      ((wrongN T (natI (ones n)) ≠ 0 ∧ e = .returned (.slice none 0 0)) ∨ (∃ (T' : Nat) (u : Value) (out : List Nat), T = T' ∧ T' ≤ 1099511627776 ∧ e = .returned u ∧ IsSplit T' (ones n) out ∧ Parts w w' u out)) := by
  have d1 : decide ((n : Int) < 1) = false := by rw [decide_eq_false_iff_not]; omega
  have d2 : decide ((4096 : Int) < (n : Int)) = false := by rw [decide_eq_false_iff_not]; omega
  have MK1 : ∀ w, (Instr.makeSlice 38 (.int .i64 (n : Int)) (.int .i64 (n : Int))).run Try.prog w = .ok (.slice (some ⟨w.heap.size, 0, none⟩) n n) (w.alloc (.cells (nums (List.replicate n 0)) 2)) := fun w => by
    rw [← made_nums]; exact run_make_row' _ _ _ 8 Try.underlying38 Try.infoI64 rfl _ _ n (by omega) (by omega) w
  go_enter Try.func40, Try.ntmps40
  go_wp2_with fail
  obtain ⟨b, hb⟩ : ∃ b, Hid (b = w.heap.size) := ⟨_, rfl⟩
  obtain ⟨wz, hwz⟩ : ∃ wz : World, Hid (wz = w.alloc (.cells (nums (List.replicate n 0)) 2)) := ⟨_, rfl⟩
  rw [← hwz.out, ← hb.out]
  have HBZ := Lib.hid (show Below w.heap.size w wz by rw [hwz.out]; exact (Below.refl _ _).alloc (Nat.le_refl _) _)
  have HCZ := Lib.hid (show wz.heap[b]? = some (.cells (nums ((ones n).take 0 ++ List.replicate (n - 0) 0)) 2 (0, 0)) by rw [hwz.out, hb.out]; simpa using heap_alloc_new w _)
  clear hwz MK1
  go_loopw [19] (fun i wr => ∃ k : Nat, k ≤ n ∧ i = .int .i64 (k : Int) ∧ Hid (wr.heap[b]? = some (.cells (nums ((ones n).take k ++ List.replicate (n - k) 0)) 2 (0, 0))) ∧ Hid (Below w.heap.size w wr)) (fun i _ => n - (intOf i).toNat)
  case atStart => exact ⟨0, Nat.zero_le _, rfl, HCZ, HBZ⟩
  case round =>
    clear HCZ HBZ
    obtain ⟨k, hk, rfl, hc, hbel⟩ := hrel
    by_cases hlt : k < n
    · have g0 := pre_get (l := ones n) (ones_len n) hlt
      have g1 := pre_set (l := ones n) (x := 1) (ones_len n) (by unfold ones; simp [hlt]) hlt
      have c1 : wr.cell? ⟨b, k, none⟩ = some (.int .i64 ((0 : Nat) : Int)) := by
        have := hc.out
        simp only [World.cell?, this, nums]
        simp only [List.map_append, List.getElem?_toArray] at *
        rw [← List.map_append, List.getElem?_map, g0]; rfl
      have c2 : wr.frozen? ⟨b, k, none⟩ = false := by have := hc.out; simp [World.frozen?, this]
      have l1 : (k : Int) < (n : Int) := by omega
      have HST := Lib.hid g1
      clear g0 g1
      go_wp2
      go_roundw
      case rel => exact ⟨k + 1, by omega, by go_num, Lib.hid (by rw [heap_set hc.out, show (Value.int .i64 1) = .int .i64 ((1 : Nat) : Int) from rfl, nums_set, HST.out]), Lib.hid (hbel.out.setCell (p := ⟨b, k, none⟩) (by show w.heap.size ≤ b; rw [hb.out]; exact Nat.le_refl _) _)⟩
      case measure => simp [intOf]; omega
    · obtain rfl : n = k := by omega
      have HI := Lib.hid (show Ints wr (.slice (some ⟨b, 0, none⟩) n n) (natI (ones n)) by
        have h := hc.out
        rw [Nat.sub_self, List.replicate_zero, List.append_nil, List.take_of_length_le (by rw [ones_len]; exact Nat.le_refl _)] at h
        have := Parts.ints (w0 := w) (w := wr) (v := .slice (some ⟨b, 0, none⟩) n n) (out := ones n) ⟨b, by rw [ones_len], h, by rw [hb.out]; exact Nat.le_refl _⟩ (by rw [ones_len]; exact h2)
        exact this)
      by_cases hwr : wrongN T (natI (ones n)) = 0
      · obtain ⟨T', W, e1, e2, hT, _⟩ := wrong_ok hwr
        subst e1
        have HT := Lib.hid hT
        have HC := Lib.hid (split_any T' _ (ones n) wr HI.out hwr)
        clear e2 hwr hc hk hlt hT
        go_wp2_with fail
        refine HC.out.mono ?_
        rintro e w2 ⟨u, out, rfl, hs, ⟨bq, rfl, hq1, hq2⟩, hb2⟩
        have Q := Lib.hid (And.intro hs (And.intro hq1 (And.intro hq2 hb2)))
        clear hs hq1 hq2 hb2
        go_wp2
        go_ret
        exact ⟨bt hbel.out Q.out.2.2.2, .inr ⟨T', _, out, rfl, HT.out, rfl, Q.out.1, ⟨bq, rfl, Q.out.2.1, Nat.le_trans hbel.out.size Q.out.2.2.1⟩⟩⟩
      · have HC := Lib.hid (split_bad T _ (natI (ones n)) wr HI.out hwr)
        have HX := Lib.hid hwr
        obtain ⟨r, hr⟩ : ∃ r, r = wrongN T (natI (ones n)) := ⟨_, rfl⟩
        rw [← hr] at HC
        clear hwr hc hk hlt hr
        go_wp2_with fail
        refine HC.out.mono ?_
        rintro e w2 ⟨rfl, rfl⟩
        go_wp2
        go_ret
        exact ⟨hbel.out, .inl ⟨HX.out, rfl⟩⟩

theorem even_no (T n : Int) (w : World) (h : n < 1) : Calls Try.prog 40 #[.int .i64 T, .int .i64 n] w fun e w' => e = .returned (.slice none 0 0) ∧ w' = w := by
  have d1 : decide (n < 1) = true := by rw [decide_eq_true_iff]; exact h
  go_enter Try.func40, Try.ntmps40
  go_wp2
  go_ret
  exact ⟨rfl, rfl⟩

namespace shareEven
end shareEven
end Go.Proofs.Ytbehepeebffmoaa
