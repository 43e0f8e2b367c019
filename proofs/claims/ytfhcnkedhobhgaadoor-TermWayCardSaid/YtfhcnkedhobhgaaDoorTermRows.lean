/-
  Slices in layer term: two slices held against each other; a copy; the papers of a term.
-/
import Derived.Test.YtfhcnkedhobhgaaDoorTermAwake
import Derived.Test.YtfhcnkedhobhgaaDoorKit
namespace Go.Proofs.YtfhcnkedhobhgaaDoor
open Go Go.RowKit
set_option linter.unusedVariables false
set_option linter.unusedSimpArgs false

theorem take_snoc {α : Type} (l : List α) (k : Nat) (h : k < l.length) : l.take (k + 1) = l.take k ++ [l[k]] := by
  rw [List.take_succ_eq_append_getElem h]

set_option maxHeartbeats 400000 in
theorem same_pos (zs ys : List Int) (v u : Value) (w : World) (hv : Ints w v zs) (hu : Ints w u ys) (hl : zs.length = ys.length) (hp : 0 < zs.length) :
    Calls Tryd.prog 18 #[v, u] w fun e w' => e = .returned (.bool (zs == ys)) ∧ ∃ n, w' = w.drewN n := by
  obtain ⟨b, off, cap, rfl, h1, h2, _, hc⟩ := hv.at hp
  obtain ⟨b', off', cap', rfl, h1', h2', _, hc'⟩ := hu.at (by omega)
  obtain ⟨len, hlen⟩ : ∃ len, len = zs.length := ⟨_, rfl⟩
  rw [← hl, ← hlen]
  rw [← hlen] at hp h1
  rw [← hl, ← hlen] at h1'
  unfold maxLen at h2 h2'
  have HC := Lib.hid hc
  have HC' := Lib.hid hc'
  have HL := Lib.hid (And.intro hlen hl)
  clear hc hc' hlen hl hv hu
  go_enter Tryd.func18, Tryd.ntmps18
  go_wp2_with fail
  go_loopw [5] (fun i wr => ∃ k : Nat, k ≤ len ∧ i = .int .i64 k ∧ (zs.take k = ys.take k) ∧ ∃ n, wr = w.drewN n) (fun i _ => len - (intOf i).toNat)
  case atStart => exact ⟨0, by omega, rfl, by simp, 0, rfl⟩
  case round =>
    obtain ⟨k, hk, rfl, heq, n, rfl⟩ := hrel
    have HE := Lib.hid heq
    clear heq
    by_cases hlt : k < len
    · have hkz : k < zs.length := by rw [← HL.out.1]; exact hlt
      have hky : k < ys.length := by rw [← HL.out.2, ← HL.out.1]; exact hlt
      have c1 := HC.out k hkz
      have c2 := HC'.out k hky
      have t1 := take_snoc zs k hkz
      have t2 := take_snoc ys k hky
      have g1 : zs[k]? = some zs[k] := List.getElem?_eq_getElem hkz
      have g2 : ys[k]? = some ys[k] := List.getElem?_eq_getElem hky
      generalize zs[k] = x at *
      generalize ys[k] = y at *
      have HT := Lib.hid (And.intro t1 (And.intro t2 (And.intro g1 g2)))
      clear t1 t2 g1 g2 hkz hky HC HC'
      by_cases hxy : x = y
      · subst hxy
        have hb : (x != x) = false := by simp
        go_wp2
        go_quiet (fail)
        go_wp2
        go_roundw
        case rel => exact ⟨k + 1, by omega, by go_num, by rw [HT.out.1, HT.out.2.1, HE.out], _, rfl⟩
        case measure => simp [intOf]; omega
      · have hb : (x != y) = true := by simpa using hxy
        go_wp2
        go_quiet (fail)
        go_wp2
        go_ret
        refine ⟨?_, _, World.drewN_drewN _ _ _⟩
        have hne : ¬ zs = ys := by
          intro e
          subst e
          have := HT.out.2.2.1.symm.trans HT.out.2.2.2
          exact hxy (Option.some.inj this)
        have : (zs == ys) = false := by simpa using hne
        rw [this]; rfl
    · go_wp2
      go_ret
      refine ⟨?_, n, rfl⟩
      have e := HE.out
      rw [List.take_of_length_le (by rw [← HL.out.1]; omega), List.take_of_length_le (by rw [← HL.out.2, ← HL.out.1]; omega)] at e
      have : (zs == ys) = true := by simpa using e
      rw [this]; rfl

set_option maxHeartbeats 400000 in
theorem same_any (zs ys : List Int) (v u : Value) (w : World) (hv : Ints w v zs) (hu : Ints w u ys) :
    Calls Tryd.prog 18 #[v, u] w fun e w' => e = .returned (.bool (zs == ys)) ∧ ∃ n, w' = w.drewN n := by
  by_cases hl : zs.length = ys.length
  · by_cases hp : 0 < zs.length
    · exact same_pos zs ys v u w hv hu hl hp
    · obtain rfl : zs = [] := List.eq_nil_of_length_eq_zero (by omega)
      obtain rfl : ys = [] := List.eq_nil_of_length_eq_zero (by simpa using hl.symm)
      obtain ⟨ao, cap, rfl, _⟩ := hv.shape
      obtain ⟨ao', cap', rfl, _⟩ := hu.shape
      clear hv hu hl hp
      go_enter Tryd.func18, Tryd.ntmps18
      go_wp2_with fail
      refine wp_loop_rounds 1 ?_
      rw [rounds_succ]
      go_wp2
      go_ret
      exact ⟨rfl, 0, rfl⟩
  · have hne : (zs == ys) = false := by
      have : ¬ zs = ys := fun e => hl (by rw [e])
      simpa using this
    rw [hne]
    obtain ⟨ao, cap, rfl, h1, h2, _⟩ := hv.shape
    obtain ⟨ao', cap', rfl, h1', h2', _⟩ := hu.shape
    have hb : ((zs.length : Int) != (ys.length : Int)) = true := by simp; omega
    clear hv hu hne
    go_enter Tryd.func18, Tryd.ntmps18
    go_wp2
    go_ret
    exact ⟨rfl, 0, rfl⟩

theorem Tryd.info3 : (Tryd.prog.info? 3).map (fun i => (i.zero, i.size, i.bytes)) = some (some (.int .i64 0), 1, 8) := by kernel_rfl

set_option maxHeartbeats 400000 in
theorem clone_any (zs : List Int) (v : Value) (w : World) (hv : Ints w v zs) (hb : zs.length * 8 ≤ 140737488355328) :
    Calls Tryd.prog 30 #[v] w fun e w' => ∃ u, e = .returned u ∧ w'.ownsRow w.heap.size 3 1 u zs.length (zs.map (Value.int .i64)) ∧ Below w.heap.size w w' := by
  obtain ⟨_, ao, cap, rfl, h1, h2, h3, hc⟩ := hv
  cases ao with
  | none =>
    obtain rfl := h3 rfl
    obtain rfl : zs = [] := List.eq_nil_of_length_eq_zero (by omega)
    have hn := @Lib.run_eql_slice_nil Tryd.prog
    go_enter Tryd.func30, Tryd.ntmps30
    go_wp2
    go_ret
    exact ⟨_, rfl, World.ownsRow_nil _ _ _ _, Below.refl _ _⟩
  | some a =>
    obtain ⟨i0, hi, hz0, hz1, hz2⟩ := info_parts Tryd.info3
    have hn := @Lib.run_eql_slice_nil Tryd.prog
    have hb1 : Below w.heap.size w (w.alloc (.cells #[] 3)) := (Below.refl _ _).alloc (Nat.le_refl _) _
    have HC := Lib.hid (show ∀ j u, (zs.map (Value.int .i64))[j]? = some u → (w.alloc (.cells #[] 3)).cell? (a.add j) = some u from fun j u hu => cell_later hb1 (hc a rfl j u hu))
    have H1 := Lib.hid (show ∀ u ∈ zs.map (Value.int .i64), u.oneCell' = true from fun u hu => by obtain ⟨z, _, rfl⟩ := List.mem_map.1 hu; rfl)
    have HB := Lib.hid hb1
    clear hb1
    have HO := Lib.hid (own_lit w 3 0 #[] (by unfold maxLen; omega) rfl)
    clear hc
    go_enter Tryd.func30, Tryd.ntmps30
    go_wp2_with (at_builtin; refine wpList_append_own _ rfl _ _ 28 rfl w.heap.size 3 i0 (.int .i64 0) 1 8 Tryd.underlying28 hi hz0 hz1 hz2 rfl (by decide) _ _ _ rfl HO.out a zs.length cap (zs.map (Value.int .i64)) rfl (by simp) HC.out H1.out (by simp only [maxLen]; omega) (by omega) (by simp) ?_; intro v' w1 hown hgrow hnil)
    go_ret
    exact ⟨_, rfl, by simpa using hown, HB.out.grown hgrow (by simp) (fun k hk => by cases hk; exact Nat.le_refl _)⟩

def pprZ (t : Int) : List Int := if 0 ≤ t ∧ t < 8 then pprT t.toNat else []
theorem pprZ_len (t : Int) : (pprZ t).length ≤ 4 := by
  unfold pprZ
  split
  · have : t.toNat ≤ 7 := by omega
    generalize t.toNat = n at *
    match n, this with
    | 0, _ | 1, _ | 2, _ | 3, _ | 4, _ | 5, _ | 6, _ | 7, _ => decide
  · decide

set_option maxHeartbeats 400000 in
theorem needs_any (t : Int) (w : World) (hw : Terms w) :
    Calls Tryd.prog 15 #[.int .i64 t] w fun e w' => ∃ u, e = .returned u ∧ w'.ownsRow w.heap.size 3 1 u (pprZ t).length ((pprZ t).map (Value.int .i64)) ∧ Below w.heap.size w w' := by
  by_cases h : 0 ≤ t ∧ t < 8
  · obtain ⟨n, rfl⟩ := Int.eq_ofNat_of_zero_le h.1
    have hn : n < 8 := by omega
    obtain ⟨a, cap, h1, h2, hm, h3⟩ := hw.ppr n hn
    have e : pprZ n = pprT n := by unfold pprZ; rw [if_pos h]; simp
    have hlen : (pprT n).length ≤ 4 := e ▸ pprZ_len n
    rw [e]
    have HN := Lib.hid (show Ints w (.slice (some a) (pprT n).length cap) (pprT n) from ⟨by simp, _, _, rfl, h2, hm, (fun h => by cases h), fun b hb j u hu => by
      cases hb
      obtain ⟨hj, hu⟩ := List.getElem?_eq_some_iff.1 hu
      have hj' : j < (pprT n).length := by simpa using hj
      rw [h3 j hj', ← hu]
      simp [List.getD_eq_getElem?_getD, hj']⟩)
    generalize pprT n = zs at *
    have HC := Lib.hid (clone_any zs _ w HN.out (by omega))
    clear HN hm
    have hd : decide ((n : Int) < 8) = true := by simpa using h.2
    have hd' : decide ((0 : Int) ≤ n) = true := by simp
    clear h3 hw e
    go_enter Tryd.func15, Tryd.ntmps15
    go_wp2_with (go_at_call 29; go_in)
    refine HC.out.mono ?_
    rintro e w' ⟨u, rfl, ho, hb⟩
    clear HC
    go_wp2
    go_ret
    exact ⟨_, rfl, ho, hb⟩
  · have e : pprZ t = [] := by unfold pprZ; rw [if_neg h]
    rw [e]
    by_cases h0 : 0 ≤ t
    · have hd : decide (t < 8) = false := by simp; omega
      go_enter Tryd.func15, Tryd.ntmps15
      go_wp2
      go_ret
      exact ⟨_, rfl, World.ownsRow_nil _ _ _ _, Below.refl _ _⟩
    · have hd : decide (0 ≤ t) = false := by simp; omega
      go_enter Tryd.func15, Tryd.ntmps15
      go_wp2
      go_ret
      exact ⟨_, rfl, World.ownsRow_nil _ _ _ _, Below.refl _ _⟩

def refN (t : Int) : List Int := [0, 1] ++ (if 2 ≤ t then [2] else []) ++ (if t = 4 then [3] else []) ++ (if 6 ≤ t then [4] else [])
theorem refN_is {t : Int} (h : isB t = true) : refN t = pprZ t := by
  simp [isB] at h
  obtain ⟨n, rfl⟩ := Int.eq_ofNat_of_zero_le h.1
  have : n ≤ 7 := by omega
  match n, this with
  | 0, _ | 1, _ | 2, _ | 3, _ | 4, _ | 5, _ | 6, _ | 7, _ => decide

set_option maxHeartbeats 1000000 in
theorem refNeeds_any (t : Int) (w : World) :
    Calls Tryd.prog 19 #[.int .i64 t] w fun e w' => ∃ u, e = .returned u ∧ w'.ownsRow w.heap.size 3 1 u (refN t).length ((refN t).map (Value.int .i64)) ∧ Below w.heap.size w w' := by
  obtain ⟨i0, hi, hz0, hz1, hz2⟩ := info_parts Tryd.info3
  have HO := Lib.hid (own_lit w 3 2 #[.int .i64 0, .int .i64 1] (by unfold maxLen; omega) rfl)
  have HB := Lib.hid (show Below w.heap.size w (w.alloc (.cells #[.int .i64 0, .int .i64 1] 3)) from (Below.refl _ _).alloc (Nat.le_refl _) _)
  by_cases h2 : 2 ≤ t
  · by_cases h4 : t = 4
    · subst h4
      have HE := Lib.hid (show refN 4 = [0, 1, 2, 3] by decide)
      rw [HE.out]
      show Calls _ _ _ _ fun e w' => ∃ u, e = .returned u ∧ w'.ownsRow w.heap.size 3 1 u 4 [.int .i64 0, .int .i64 1, .int .i64 2, .int .i64 3] ∧ Below w.heap.size w w'
      go_enter Tryd.func19, Tryd.ntmps19
      go_wp2_with (first | (at_builtin; refine wp_app rfl (.tmp 7) (.tmp 8) 28 rfl w.heap.size 3 i0 (.int .i64 0) 1 8 Tryd.underlying28 hi hz0 hz1 hz2 rfl (by decide) _ _ _ rfl HO.out HB.out (Nat.le_refl _) (by simp) #[.int .i64 2] _ (by first | rfl | (simp; done)) rfl rfl (one_int _ _) (by unfold maxLen; omega) (by omega) ?_; intro v1 w1 hown1 hb1 _; have HO1 := Lib.hid hown1; have HB1 := Lib.hid hb1; clear hown1 hb1) | (at_builtin; refine wp_app rfl (.tmp 12) (.tmp 13) 28 rfl w.heap.size 3 i0 (.int .i64 0) 1 8 Tryd.underlying28 hi hz0 hz1 hz2 rfl (by decide) _ _ _ rfl HO1.out HB1.out (Nat.le_refl _) HB1.out.size #[.int .i64 3] _ (by first | rfl | (simp; done)) rfl rfl (one_int _ _) (by unfold maxLen; omega) (by omega) ?_; intro v2 w2 hown2 hb2 _; have HO2 := Lib.hid hown2; have HB2 := Lib.hid hb2; clear hown2 hb2))
      go_ret
      exact ⟨_, rfl, by simpa using HO2.out, HB2.out⟩
    · by_cases h6 : 6 ≤ t
      · skip
        have hb : (t == 4) = false := by simpa using h4
        have HE := Lib.hid (show refN t = [0, 1, 2, 4] by unfold refN; simp [*]; try omega)
        rw [HE.out]
        show Calls _ _ _ _ fun e w' => ∃ u, e = .returned u ∧ w'.ownsRow w.heap.size 3 1 u 4 [.int .i64 0, .int .i64 1, .int .i64 2, .int .i64 4] ∧ Below w.heap.size w w'
        go_enter Tryd.func19, Tryd.ntmps19
        go_wp2_with (first | (at_builtin; refine wp_app rfl (.tmp 7) (.tmp 8) 28 rfl w.heap.size 3 i0 (.int .i64 0) 1 8 Tryd.underlying28 hi hz0 hz1 hz2 rfl (by decide) _ _ _ rfl HO.out HB.out (Nat.le_refl _) (by simp) #[.int .i64 2] _ (by first | rfl | (simp; done)) rfl rfl (one_int _ _) (by unfold maxLen; omega) (by omega) ?_; intro v1 w1 hown1 hb1 _; have HO1 := Lib.hid hown1; have HB1 := Lib.hid hb1; clear hown1 hb1) | (at_builtin; refine wp_app rfl (.tmp 17) (.tmp 18) 28 rfl w.heap.size 3 i0 (.int .i64 0) 1 8 Tryd.underlying28 hi hz0 hz1 hz2 rfl (by decide) _ _ _ rfl HO1.out HB1.out (Nat.le_refl _) HB1.out.size #[.int .i64 4] _ (by first | rfl | (simp; done)) rfl rfl (one_int _ _) (by unfold maxLen; omega) (by omega) ?_; intro v2 w2 hown2 hb2 _; have HO2 := Lib.hid hown2; have HB2 := Lib.hid hb2; clear hown2 hb2))
        go_ret
        exact ⟨_, rfl, by simpa using HO2.out, HB2.out⟩
      · skip
        have hb : (t == 4) = false := by simpa using h4
        have HE := Lib.hid (show refN t = [0, 1, 2] by unfold refN; simp [*]; try omega)
        rw [HE.out]
        show Calls _ _ _ _ fun e w' => ∃ u, e = .returned u ∧ w'.ownsRow w.heap.size 3 1 u 3 [.int .i64 0, .int .i64 1, .int .i64 2] ∧ Below w.heap.size w w'
        go_enter Tryd.func19, Tryd.ntmps19
        go_wp2_with (first | (at_builtin; refine wp_app rfl (.tmp 7) (.tmp 8) 28 rfl w.heap.size 3 i0 (.int .i64 0) 1 8 Tryd.underlying28 hi hz0 hz1 hz2 rfl (by decide) _ _ _ rfl HO.out HB.out (Nat.le_refl _) (by simp) #[.int .i64 2] _ (by first | rfl | (simp; done)) rfl rfl (one_int _ _) (by unfold maxLen; omega) (by omega) ?_; intro v1 w1 hown1 hb1 _; have HO1 := Lib.hid hown1; have HB1 := Lib.hid hb1; clear hown1 hb1))
        go_ret
        exact ⟨_, rfl, by simpa using HO1.out, HB1.out⟩
  · have h4 : ¬ t = 4 := by omega
    have h6 : ¬ 6 ≤ t := by omega
    have hb : (t == 4) = false := by simpa using h4
    have HE := Lib.hid (show refN t = [0, 1] by unfold refN; simp [*]; try omega)
    rw [HE.out]
    show Calls _ _ _ _ fun e w' => ∃ u, e = .returned u ∧ w'.ownsRow w.heap.size 3 1 u 2 [.int .i64 0, .int .i64 1] ∧ Below w.heap.size w w'
    go_enter Tryd.func19, Tryd.ntmps19
    go_wp2
    go_ret
    exact ⟨_, rfl, by simpa using HO.out, HB.out⟩
end Go.Proofs.YtfhcnkedhobhgaaDoor
