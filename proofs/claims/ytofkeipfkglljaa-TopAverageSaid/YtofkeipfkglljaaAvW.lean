/-
  TopAverage, walked.
-/
import Derived.Test.YtofkeipfkglljaaMAv
import Derived.Test.YtofkeipfkglljaaMNets
import Derived.Test.YtofkeipfkglljaaLawSet
import Derived.Deep.RegionLaw
namespace Go.Proofs.Ytofkeipfkglljaa
open Go Go.RowKit
set_option linter.unusedVariables false
set_option linter.unusedSimpArgs false

theorem Try.infoIn : (Try.prog.info? 48).map (fun i => (i.zero, i.size, i.bytes)) = some (some (.agg #[.string ⟨#[]⟩, .int .i64 0]), 2, 24) := by kernel_rfl
theorem one_in (t : ByteArray) (z : Int) : ∀ u ∈ [Value.string t, .int .i64 z], u.oneCell' = true := by
  intro u hu; simp at hu
  rcases hu with rfl | rfl <;> rfl
theorem flat_one (ls : List In1) : ∀ u ∈ ls.flatMap In1.cells, u.oneCell' = true := by
  intro u hu
  obtain ⟨x, _, hx⟩ := List.mem_flatMap.1 hu
  exact one_in x.t x.z u hx
theorem ints_one (gs : List Int) : ∀ u ∈ gs.map (Value.int .i64), u.oneCell' = true := by
  intro u hu
  obtain ⟨x, _, rfl⟩ := List.mem_map.1 hu
  rfl
theorem own_litk (w : World) (e sz n b : Nat) (cs : Array Value) (hn : n ≤ maxLen) (h : cs.size = n * sz) (hb : b = w.heap.size) : (w.alloc (.cells cs e)).ownsRow 0 e sz (.slice (some ⟨b, 0, none⟩) n n) n cs.toList := by
  subst hb
  refine ⟨by simp [h], .inr ⟨w.heap.size, n, cs, rfl, Nat.zero_le _, heap_alloc_new _ _, Nat.le_refl _, hn, h, ?_⟩⟩
  rw [List.take_of_length_le (by simp [h])]
theorem grown_touch {w w' : World} {row : Option Nat} (h : w.grownBy w' row) : Touch (fun k => row = some k) w w' := (Touch.refl _ w).grown h (fun k hk => .inl hk)
/-- A literal, and a row behind it: all is new. -/
theorem lit_below {w w' : World} {cs : Array Value} {e b n : Nat} (hb : b = w.heap.size) (h : Touch (fun k => (Value.slice (some ⟨b, 0, none⟩) n n).ownBlock = some k) (w.alloc (.cells cs e)) w') : Below w.heap.size w w' := by
  subst hb
  refine ((Touch.refl (fun k => k = w.heap.size) w).alloc (.cells cs e)).trans h (fun x hx => ?_) |>.below (Nat.le_refl _) (fun x hx => by have h : x = w.heap.size := hx; omega)
  have h2 : some w.heap.size = some x := hx
  injection h2 with h2
  exact .inl h2.symm
theorem lit_fresh {w : World} {v : Value} {o : Obj} {b n : Nat} (hb : b = w.heap.size) (h : ∀ k, v.ownBlock = some k → (Value.slice (some ⟨b, 0, none⟩) n n).ownBlock = some k ∨ (w.alloc o).heap.size ≤ k) : ∀ k, v.ownBlock = some k → w.heap.size ≤ k := by
  subst hb
  intro k hk
  rcases h k hk with a | a
  · have h2 : some w.heap.size = some k := a
    injection h2 with h2
    omega
  · simp at a; omega
theorem cell_two {w : World} {o : Obj} {cs : Array Value} {t j : Nat} {v : Value} (h : cs[j]? = some v) : (((w.alloc o).alloc (.cells cs t)).drew).cell? ⟨w.heap.size + 1, j, none⟩ = some v := by
  have e := heap_alloc_new (w.alloc o) (.cells cs t)
  have s : (w.alloc o).heap.size = w.heap.size + 1 := by simp
  rw [s] at e
  have e2 : (((w.alloc o).alloc (.cells cs t)).drew).heap[w.heap.size + 1]? = some (.cells cs t) := e
  unfold World.cell?
  rw [e2]
  exact h
/-- Where the rows stand after k rounds. -/
def At (W w : World) (vs gs : List Int) (v7 v8 v9 v10 : Value) (k : Nat) : Prop :=
  Four W w v7 v8 v9 v10 k k k k (((lT vs).take k).flatMap In1.cells) (((lT vs).take k).reverse.flatMap In1.cells) (((gT vs gs).take k).map (Value.int .i64)) (((gT vs gs).take k).reverse.map (Value.int .i64))
namespace topAverage
set_option maxRecDepth 100000 in
set_option maxHeartbeats 1000000 in
theorem skip (ao bo : Option Addr) (n cap m cap2 : Nat) (S : Int) (w : World) (hs : 8 < n ∨ m = 0) :
    Calls Try.prog 4 #[.slice ao n cap, .slice bo m cap2, .int .u16 S] w fun e w' => e = .returned (.bool true) ∧ Below w.heap.size w w' := by
  have HN := Lib.hid (fun w => nets_any w)
  have key : decide ((8 : Int) < (n : Int)) = true ∨ (decide ((8 : Int) < (n : Int)) = false ∧ ((m : Int) == 0) = true) := by
    rw [decide_eq_true_iff, decide_eq_false_iff_not, beq_iff_eq]; omega
  clear hs
  rcases key with d1 | ⟨d1, d2⟩
  all_goals
    go_enter Try.func4, Try.ntmps4
    go_wp2_with fail
    refine (HN.out _).mono ?_
    rintro e w1 ⟨rfl, hb1⟩
    have HB1 := Lib.hid hb1
    clear hb1
    go_wp2_with fail
    refine (HN.out _).mono ?_
    rintro e w2 ⟨rfl, hb2⟩
    have HB2 := Lib.hid (bq HB1.out hb2)
    clear hb2
    go_wp2
    go_ret
    exact ⟨rfl, HB2.out⟩

set_option maxRecDepth 100000 in
set_option maxHeartbeats 16000000 in
theorem core (ao bo : Option Addr) (n cap m cap2 : Nat) (vs gs : List Int) (S : Int) (w : World) (h : U16s w (.slice ao n cap) vs) (hn : n = vs.length) (h2 : U16s w (.slice bo m cap2) gs) (hm : m = gs.length)
    (hv : ∀ z ∈ vs, 0 ≤ z ∧ z ≤ 65535) (hg : ∀ z ∈ gs, 0 ≤ z ∧ z ≤ 65535) (hS : 0 ≤ S ∧ S ≤ 65535) (h8 : n ≤ 8) (hm0 : 0 < m) :
    Calls Try.prog 4 #[.slice ao n cap, .slice bo m cap2, .int .u16 S] w fun e w' => e = .returned (.bool true) ∧ Below w.heap.size w w' := by
  have d1 : decide ((8 : Int) < (n : Int)) = false := by rw [decide_eq_false_iff_not]; omega
  have d2 : ((m : Int) == 0) = false := by rw [beq_eq_false_iff_ne]; omega
  have H := Lib.hid h
  have H2 := Lib.hid h2
  have HN := Lib.hid hn
  have HM := Lib.hid hm
  have HV := Lib.hid (fun k => getD_bd (by omega) hv k)
  have HG := Lib.hid (fun k => getD_bd (by omega) hg k)
  have HSb := Lib.hid hS
  have H8 := Lib.hid h8
  have HM0 := Lib.hid hm0
  have vS : IntKind.i64.wrap S = S := IntWalk.i64_in _ (by omega)
  have HgB := Lib.hid (gT_bd hv hg)
  have HgA := Lib.hid hg
  have HvB := Lib.hid hv
  clear h hn h2 hm hv hg hS h8 hm0
  go_enter Try.func4, Try.ntmps4
  go_wp2_with fail
  refine (nets_any _).mono ?_
  rintro e w1 ⟨rfl, hb1⟩
  have HB1 := Lib.hid hb1
  have HF0 := Lib.hid (show At w w1 vs gs (.slice none 0 0) (.slice none 0 0) (.slice none 0 0) (.slice none 0 0) 0 from Four.new w hb1)
  clear hb1
  go_wp2_with fail
  go_loopw [7, 8, 9, 10, 11, 12, 53] (fun v7 v8 v9 v10 z11 z12 i wr => ∃ (k : Nat) (a7 a8 a9 a10 : Option Addr) (p7 p8 p9 p10 : Nat), k ≤ n ∧ i = .int .i64 (k : Int) ∧ z11 = .int .i64 ((vs.take k).sum) ∧ z12 = .int .i64 (S + ((gT vs gs).take k).sum) ∧ v7 = .slice a7 k p7 ∧ v8 = .slice a8 k p8 ∧ v9 = .slice a9 k p9 ∧ v10 = .slice a10 k p10 ∧ Hid (At w wr vs gs (.slice a7 k p7) (.slice a8 k p8) (.slice a9 k p9) (.slice a10 k p10) k)) (fun _ _ _ _ _ _ i _ => n - (intOf i).toNat)
  case atStart => exact ⟨0, none, none, none, none, 0, 0, 0, 0, Nat.zero_le _, rfl, rfl, by simp, rfl, rfl, rfl, rfl, HF0⟩
  case round =>
    clear HF0
    obtain ⟨k, a7, a8, a9, a10, p7, p8, p9, p10, hk, rfl, rfl, rfl, rfl, rfl, rfl, rfl, hf⟩ := hrel
    by_cases hlt : k < n
    · have l1 : (k : Int) < (n : Int) := by omega
      have l0 : (0 : Int) ≤ (k : Int) := by omega
      have hk8 : k < 8 := by have := H8.out; omega
      have hB := hf.out.bel
      obtain ⟨bv, ov, rfl, hbv, hcv⟩ := H.out.get HN.out (by omega)
      have c0 : wr.cell? ⟨bv, ov + k, none⟩ = some (.int .u16 (vs.getD k 0)) := by rw [hB.cell (p := ⟨bv, ov + k, none⟩) hbv]; exact hcv k hlt
      obtain ⟨bg, og, rfl, hbg, hcg⟩ := H2.out.get HM.out HM0.out
      have hmod : k % m < m := Nat.mod_lt _ HM0.out
      have HCg := Lib.hid (show ∀ w', Below w.heap.size w w' → w'.cell? ⟨bg, og + k % m, none⟩ = some (.int .u16 (gs.getD (k % m) 0)) from fun w' hw => by rw [hw.cell (p := ⟨bg, og + k % m, none⟩) hbg]; exact hcg _ hmod)
      have hv0 := HV.out k
      have hg0 := HG.out (k % m)
      have HLg := Lib.hid (show (lT vs)[k]? = some ⟨nmT k, vs.getD k 0⟩ from lT_get (by rw [← HN.out]; exact hlt))
      have HGg := Lib.hid (show (gT vs gs)[k]? = some (min (gs.getD (k % m) 0) (vs.getD k 0)) from by rw [HM.out]; exact gT_get (by rw [← HN.out]; exact hlt))
      have HVg := Lib.hid (show vs[k]? = some (vs.getD k 0) from by rw [List.getD_eq_getElem?_getD, List.getElem?_eq_getElem (by rw [← HN.out]; exact hlt)]; rfl)
      generalize vs.getD k 0 = v at *
      generalize gs.getD (k % m) 0 = gv at *
      have v1 : IntKind.i64.wrap (97 + (k : Int)) = 97 + (k : Int) := IntWalk.i64_in _ (by omega)
      have v2 : IntKind.u8.wrap (97 + (k : Int)) = 97 + (k : Int) := IntWalk.u8_in _ (by omega)
      have v3 : IntKind.i64.wrap v = v := IntWalk.i64_in _ (by omega)
      have v4 : IntKind.i64.wrap gv = gv := IntWalk.i64_in _ (by omega)
      have hcb : (wr.alloc (.cells #[.int .u8 (97 + (k : Int))] 5)).cell? ⟨wr.heap.size, 0, none⟩ = some (.int .u8 (97 + (k : Int))) := by unfold World.cell?; rw [heap_alloc_new]; rfl
      have hcv1 := one_byte (P := Try.prog) _ 46 9 5 wr.heap.size 1 1 (97 + (k : Int)) Try.underlying46 Try.underlying5 Try.underlying9 hcb
      have hnm : (⟨#[UInt8.ofNat (97 + (k : Int)).toNat]⟩ : ByteArray) = nmT k := by unfold nmT; rw [show (97 + (k : Int)).toNat = 97 + k by omega]
      rw [hnm] at hcv1
      clear hcb hcv hcg hnm hB hbv hbg
      obtain ⟨q, hq⟩ : ∃ q, q = k % m := ⟨_, rfl⟩
      rw [← hq] at HCg hmod
      have r1 : (k : Int).tmod (m : Int) = (q : Int) := by rw [hq]; exact (Int.ofNat_tmod k m).symm
      have r2 : (k : Int) % (m : Int) = (q : Int) := by rw [hq]; exact (Int.natCast_emod k m).symm
      have r3 : (q : Int) < (m : Int) := by omega
      have r4 : (0 : Int) ≤ (q : Int) := by omega
      obtain ⟨g, hgd⟩ : ∃ g, g = min gv v := ⟨_, rfl⟩
      have hmin : min gv v = g := hgd.symm
      have hgb : 0 ≤ g ∧ g ≤ 65535 := by omega
      rw [hmin] at HGg
      have bl1 := ((Below.refl wr.heap.size wr).alloc (Nat.le_refl _) (.cells #[.int .u8 (97 + (k : Int))] 5))
      have bl2 := (bl1.alloc bl1.size (.cells #[.string (nmT k), .int .i64 v] 48)).drew
      have HF2 := Lib.hid (hf.out.later bl2)
      have c1 := HCg.out _ HF2.out.bel
      have hm1 : ((m : Int) == 0) = false := d2
      have hmz : (m : Int) ≠ 0 := by have := HM0.out; omega
      have HQ := Lib.hid hq
      have hsv := isum_bd2 (B := 65535) (vs.take k) (fun z hz => HvB.out z (List.mem_of_mem_take hz))
      have hsg := isum_bd2 (B := 65535) ((gT vs gs).take k) (fun z hz => HgB.out z (List.mem_of_mem_take hz))
      have hsv2 : (vs.take k).length ≤ 8 := by rw [List.length_take]; omega
      have hsg2 : ((gT vs gs).take k).length ≤ 8 := by rw [List.length_take]; omega
      have hSb := HSb.out
      have HSv := Lib.hid (show (vs.take (k + 1)).sum = (vs.take k).sum + v by rw [take_next HVg.out, List.sum_append]; simp)
      have HSg := Lib.hid (show S + ((gT vs gs).take (k + 1)).sum = S + ((gT vs gs).take k).sum + g by rw [take_next HGg.out, List.sum_append]; simp; omega)
      obtain ⟨sa, hsa⟩ : ∃ x, x = (vs.take k).sum := ⟨_, rfl⟩
      obtain ⟨sb, hsb⟩ : ∃ x, x = S + ((gT vs gs).take k).sum := ⟨_, rfl⟩
      rw [← hsa] at HSv hsv ⊢
      rw [← hsb] at HSg ⊢
      have v5 : IntKind.i64.wrap (sa + v) = sa + v := IntWalk.i64_in _ (by omega)
      have v6 : IntKind.i64.wrap (sb + g) = sb + g := IntWalk.i64_in _ (by omega)
      clear hq hgd bl1 bl2 hg0 hsv hsg hsv2 hsg2 hSb hsa hsb
      go_wp2_with fail
      go_region
      have z0 := cell_two (w := wr) (o := .cells #[.int .u8 (97 + (k : Int))] 5) (cs := #[.string (nmT k), .int .i64 v]) (t := 48) (j := 0) (v := .string (nmT k)) rfl
      have z1 := cell_two (w := wr) (o := .cells #[.int .u8 (97 + (k : Int))] 5) (cs := #[.string (nmT k), .int .i64 v]) (t := 48) (j := 1) (v := .int .i64 v) rfl
      have H7l := Lib.hid (fun j (e : (Value.slice a7 k p7).ownBlock = some j) => own_lt hf.out.r7 e)
      have H9l := Lib.hid (fun j (e : (Value.slice a9 k p9).ownBlock = some j) => own_lt hf.out.r9 e)
      obtain ⟨bx, hbx⟩ : ∃ b, b = wr.heap.size + 1 := ⟨_, rfl⟩
      have HBx := Lib.hid (show wr.heap.size < bx by omega)
      clear c0 c1 hcv1 hf
      generalize ((wr.alloc (.cells #[.int .u8 (97 + (k : Int))] 5)).alloc (.cells #[.string (nmT k), .int .i64 v] 48)).drew = wD at *
      rw [← hbx] at z0 z1 ⊢
      clear hbx
      unfold At at *
      obtain ⟨i0, hi0, hz0, hz1, hz2⟩ := info_parts Try.infoIn
      obtain ⟨i1, hi1, hy0, hy1, hy2⟩ := info_parts Try.infoI64
      have L1 : k + 1 ≤ maxLen := by unfold maxLen; omega
      have L2 : (k + 1) * 24 ≤ 140737488355328 := by omega
      have L3 : (k + 1) * 8 ≤ 140737488355328 := by omega
      have L4 : 1 + k ≤ maxLen := by unfold maxLen; omega
      have L5 : (1 + k) * 24 ≤ 140737488355328 := by omega
      have L6 : (1 + k) * 8 ≤ 140737488355328 := by omega
      have Z2 : 0 < 2 := by decide
      have Z1 : 0 < 1 := by decide
      have Q1 : 1 ≤ maxLen := by unfold maxLen; omega
      have HDa := Lib.hid (HF2.out.later ((Below.refl wD.heap.size wD).alloc (Nat.le_refl _) (.cells #[.string (nmT k), .int .i64 v] 48)))
      have HZ := Lib.hid (And.intro z0 z1)
      clear HF2
      go_wp2_with (first
        | (at_builtin; refine wpList_own rfl (.tmp 77) (.tmp 79) 44 rfl 48 i0 _ 2 24 Try.underlying44 hi0 hz0 hz1 hz2 rfl Z2 _ k _ rfl HDa.out.r7 ⟨wD.heap.size, 0, none⟩ 1 1 [.string (nmT k), .int .i64 v] rfl rfl (new_cells _ _ _) (one_in _ _) L1 L2 ?_; intro v7' wE ho hg hn; obtain ⟨b7, q7, rfl⟩ := own_shape ho; have HE := Lib.hid (HDa.out.t7 ho (grown_touch hg) hn); have HTE := Lib.hid (((Touch.refl (fun j => (Value.slice a7 k p7).ownBlock = some j) wD).alloc _).trans (grown_touch hg) (fun x hx => .inl hx)); have y0 := cell_touch HZ.out.1 HTE.out (fun e => absurd (H7l.out bx e) (by have := HBx.out; omega)); have y1 := cell_touch HZ.out.2 HTE.out (fun e => absurd (H7l.out bx e) (by have := HBx.out; omega)); have HEb := Lib.hid (HE.out.later ((Below.refl wE.heap.size wE).alloc (Nat.le_refl _) (.cells #[.int .i64 g] 2))); have HY := Lib.hid (And.intro y0 y1); clear ho hg hn z0 z1)
        | (at_builtin; refine wpList_own rfl (.tmp 81) (.tmp 83) 45 rfl 2 i1 _ 1 8 Try.underlying45 hi1 hy0 hy1 hy2 rfl Z1 _ k _ rfl HEb.out.r9 ⟨wE.heap.size, 0, none⟩ 1 1 [.int .i64 g] rfl rfl (new_cells _ _ _) (one_int _ _) L1 L3 ?_; intro v9' wF ho hg hn; obtain ⟨b9, q9, rfl⟩ := own_shape ho; have HF := Lib.hid (HEb.out.t9 ho (grown_touch hg) hn); have HTF := Lib.hid (((Touch.refl (fun j => (Value.slice a9 k p9).ownBlock = some j) wE).alloc _).trans (grown_touch hg) (fun x hx => .inl hx)); have x0 := cell_touch HY.out.1 HTF.out (fun e => absurd (H9l.out bx e) (by have := HBx.out; omega)); have x1 := cell_touch HY.out.2 HTF.out (fun e => absurd (H9l.out bx e) (by have := HBx.out; omega)); have HX := Lib.hid (And.intro x0 x1); have HLi := Lib.hid (own_litk wF 48 2 1 wF.heap.size #[.string (nmT k), .int .i64 v] Q1 rfl rfl); have HR8 := Lib.hid (Row.below (Row.of_own HF.out.r8) ((Below.refl wF.heap.size wF).alloc (Nat.le_refl _) (.cells #[.string (nmT k), .int .i64 v] 48))); clear ho hg hn y0 y1)
        | (at_builtin; refine wpList_row rfl (.tmp 86) (.tmp 87) 44 rfl 48 i0 _ 2 24 Try.underlying44 hi0 hz0 hz1 hz2 rfl Z2 _ 1 _ rfl HLi.out a8 k p8 _ rfl HR8.out (flat_one _) L4 L5 ?_; intro v8' wG ho ht hn; obtain ⟨b8, q8, rfl⟩ := own_shape ho; have HBG := Lib.hid (lit_below rfl ht); have HG' := Lib.hid (HF.out.t8 ho HBG.out (lit_fresh rfl hn)); have u0 := cell_later HBG.out HX.out.1; have u1 := cell_later HBG.out HX.out.2; have HU := Lib.hid (And.intro u0 u1); have HLj := Lib.hid (own_litk wG 2 1 1 wG.heap.size #[.int .i64 g] Q1 rfl rfl); have HR0 := Lib.hid (Row.below (Row.of_own HG'.out.r10) ((Below.refl wG.heap.size wG).alloc (Nat.le_refl _) (.cells #[.int .i64 g] 2))); clear ho ht hn x0 x1)
        | (at_builtin; refine wpList_row rfl (.tmp 90) (.tmp 91) 45 rfl 2 i1 _ 1 8 Try.underlying45 hi1 hy0 hy1 hy2 rfl Z1 _ 1 _ rfl HLj.out a10 k p10 _ rfl HR0.out (ints_one _) L4 L6 ?_; intro v0' wH ho ht hn; obtain ⟨b0, q0, rfl⟩ := own_shape ho; have HBH := Lib.hid (lit_below rfl ht); have HH := Lib.hid (HG'.out.t0 ho HBH.out (lit_fresh rfl hn)); have s0 := cell_later HBH.out HU.out.1; have s1 := cell_later HBH.out HU.out.2; clear ho ht hn u0 u1))
      refine ⟨⟨k + 1, b7, b8, b9, b0, q7, q8, q9, q0, by omega, by go_num, by rw [HSv.out], by rw [HSg.out], rfl, by rw [Nat.add_comm], rfl, by rw [Nat.add_comm], Lib.hid ?_⟩, by simp [intOf]; omega⟩
      have hx := HH.out
      rw [show (1 + k) = k + 1 by omega] at hx
      unfold At
      rw [take_next HLg.out, take_next HGg.out]
      simpa [In1.cells] using hx
    · obtain rfl : k = n := by omega
      have hl7 : (lT vs).take k = lT vs := List.take_of_length_le (by rw [lT_len, ← HN.out]; exact Nat.le_refl _)
      have hg7 : (gT vs gs).take k = gT vs gs := List.take_of_length_le (by rw [gT_len, ← HN.out]; exact Nat.le_refl _)
      have hv7 : vs.take k = vs := List.take_of_length_le (by rw [← HN.out]; exact Nat.le_refl _)
      have hx := hf.out
      unfold At at hx
      rw [hl7, hg7] at hx
      have HI7 := Lib.hid (show Ins wr (.slice a7 k p7) (lT vs) from by unfold Ins; rw [lT_len, ← HN.out]; exact Row.of_own hx.r7)
      have HI9 := Lib.hid (show Ints wr (.slice a9 k p9) (gT vs gs) from by unfold Ints; rw [gT_len, ← HN.out]; exact Row.of_own hx.r9)
      have HI8 := Lib.hid (show Ins wr (.slice a8 k p8) (lT vs).reverse from by unfold Ins; rw [List.length_reverse, lT_len, ← HN.out]; exact Row.of_own hx.r8)
      have HI0 := Lib.hid (show Ints wr (.slice a10 k p10) (gT vs gs).reverse from by unfold Ints; rw [List.length_reverse, gT_len, ← HN.out]; exact Row.of_own hx.r10)
      have HB := Lib.hid hx.bel
      have HTW := top_whole (vs := vs) (gs := gs) (S := S) (by rw [← HN.out]; exact H8.out) HvB.out HgA.out HSb.out
      have HVl := Lib.hid (valsT vs)
      have HL1 := Lib.hid (show k = (lT vs).length by rw [lT_len]; exact HN.out)
      have HL2 := Lib.hid (show k = (gT vs gs).length by rw [gT_len]; exact HN.out)
      have HL3 := Lib.hid (show k = (lT vs).reverse.length by rw [List.length_reverse, lT_len]; exact HN.out)
      have HL4 := Lib.hid (show k = (gT vs gs).reverse.length by rw [List.length_reverse, gT_len]; exact HN.out)
      rw [← HN.out] at HTW
      rw [hv7, hg7]
      have hSb := HSb.out
      have hk8 := H8.out
      have hsv := isum_bd2 (B := 65535) vs HvB.out
      have hsg := isum_bd2 (B := 65535) (gT vs gs) HgB.out
      rw [← HN.out] at hsv
      rw [← HL2.out] at hsg
      have HSa := Lib.hid (show (valsL (lT vs)).sum = vs.sum by rw [valsT])
      obtain ⟨sa, hsa⟩ : ∃ x, x = vs.sum := ⟨_, rfl⟩
      obtain ⟨sb, hsb⟩ : ∃ x, x = S + (gT vs gs).sum := ⟨_, rfl⟩
      rw [← hsa, ← hsb] at HTW
      rw [← hsa] at HSa hsv
      rw [← hsa, ← hsb]
      have HSb2 := Lib.hid hsb
      have HGb := Lib.hid HgB.out
      generalize lT vs = l at *
      generalize gT vs gs = g at *
      have hbb : 0 ≤ sb ∧ sb ≤ 589815 ∧ 0 ≤ sa ∧ sa ≤ 524280 := by omega
      clear hl7 hg7 hv7 hx hf hlt hk hsa hsb hsv hsg hSb HV HG HgB HvB HgA HM0 HVl d2
      by_cases hc : k = 0 ∨ sa < sb
      · obtain ⟨r, hr, w1, w2⟩ := HTW.1 hc
        have HWa := Lib.hid (fun w h h2 => whole_bad a7 a9 k p7 k p9 l g S w h HL1.out h2 HL2.out (by rw [w1]; exact hr))
        have HWb := Lib.hid (fun w h h2 => whole_bad a8 a10 k p8 k p10 l.reverse g.reverse S w h HL3.out h2 HL4.out (by rw [w2]; exact hr))
        rw [w1] at HWa
        rw [w2] at HWb
        have e1 : (r == r) = true := by simp
        have e2 : (r != r) = false := by simp
        have e3 : (r == 0) = false := by rw [beq_eq_false_iff_ne]; exact hr
        have e4 : (r != 0) = true := by simp [bne, e3]
        have key : ((k : Int) == 0) = true ∨ (((k : Int) == 0) = false ∧ decide (sa < sb) = true) := by
          rw [beq_iff_eq, beq_eq_false_iff_ne, decide_eq_true_iff]; omega
        clear HTW hc hr w1 w2
        rcases key with q1 | ⟨q1, q2⟩
        all_goals
          go_wp2_with fail
          refine (HWa.out _ HI7.out HI9.out).mono ?_
          rintro e w2 ⟨rfl, hb⟩
          have HB2 := Lib.hid (bq HB.out hb)
          have HI8 := Lib.hid (HI8.out.below hb)
          have HI0 := Lib.hid (HI0.out.below hb)
          clear hb
          go_wp2_with fail
          refine (HWb.out _ HI8.out HI0.out).mono ?_
          rintro e w3 ⟨rfl, hb⟩
          have HB3 := Lib.hid (bq HB2.out hb)
          clear hb
          go_wp2
          go_ret
          exact ⟨rfl, HB3.out⟩
      · obtain ⟨w1, w2⟩ := HTW.2 (by omega) (by omega)
        obtain ⟨T, W, ho⟩ := whole_is w1
        have HO := Lib.hid ho
        have HR := Lib.hid (rev_ok ho w2)
        have HWa := Lib.hid (fun w h h2 => whole_any T W a7 a9 k p7 p9 l g S w h HL1.out h2 w1 ho.sum ho.vals)
        have HWb := Lib.hid (fun w h h2 => whole_any T W.reverse a8 a10 k p8 p10 l.reverse g.reverse S w h HL3.out h2 w2 HR.out.sum HR.out.vals)
        have HPa := Lib.hid (fun w h h2 => pays_any T W a7 a9 k p7 p9 l g S w h HL1.out h2 ho)
        have hp : 0 < k := by omega
        have q1 : ((k : Int) == 0) = false := by rw [beq_eq_false_iff_ne]; omega
        have q2 : decide (sa < sb) = false := by rw [decide_eq_false_iff_not]; omega
        have hsT : sb = (T : Int) := by rw [HSb2.out, ← ho.sum]; omega
        have hsW : sa = ((W.sum : Nat) : Int) := by rw [← HSa.out, ho.vals, isum_nat]
        obtain ⟨M, hM⟩ : ∃ M, M = W.sum := ⟨_, rfl⟩
        rw [← hM] at hsW
        have HM2 := Lib.hid hM
        subst hsT hsW
        have q2' : decide (M < T) = false := by rw [decide_eq_false_iff_not] at q2 ⊢; omega
        clear HTW hc w1 w2 ho hM
        go_wp2_with fail
        refine (HWa.out _ HI7.out HI9.out).mono ?_
        rintro e w2 ⟨b1, b2, out, rfl, hs1, hk1, hk2, hlo1, hlo2, hb⟩
        have HB2 := Lib.hid (bq HB.out hb)
        have HI8 := Lib.hid (HI8.out.below hb)
        have HI0 := Lib.hid (HI0.out.below hb)
        have HI7 := Lib.hid (HI7.out.below hb)
        have HI9 := Lib.hid (HI9.out.below hb)
        have HS1 := Lib.hid hs1
        have HK1 := Lib.hid hk1
        have HK2 := Lib.hid hk2
        have HLo := Lib.hid (show w.heap.size ≤ b2 by have := HB.out.size; omega)
        clear hb hs1 hk1 hk2 hlo1 hlo2 HWa
        go_wp2_with fail
        refine (HWb.out _ HI8.out HI0.out).mono ?_
        rintro e w3 ⟨b3, b4, out3, rfl, hs3, hk3, -, -, -, hb⟩
        have HB3 := Lib.hid (bq HB2.out hb)
        have HI7 := Lib.hid (HI7.out.below hb)
        have HI9 := Lib.hid (HI9.out.below hb)
        have HK1 := Lib.hid (HK1.out.below hb)
        have HK2 := Lib.hid (HK2.out.below hb)
        have HK3 := Lib.hid hk3
        have HS3 := Lib.hid hs3
        clear hb hs3 hk3 HWb HI8 HI0
        have hWl : W.length = k := by rw [HO.out.wl, HL1.out]
        have HWl := Lib.hid hWl
        have HO1 := Lib.hid (show out.length = k by rw [HS1.out.len, hWl])
        have HO3 := Lib.hid (show out3.length = k by rw [HS3.out.len, List.length_reverse, hWl])
        have HNr := Lib.hid (fun i (hi : i < k) => near_ok HS1.out HO.out.ss HO.out.ts (i := i) (by rw [hWl]; exact hi))
        have HNt := Lib.hid (fun i (hi : i < k) => near_two HS1.out HS3.out HO.out.ss HO.out.ts (i := i) (by rw [hWl]; exact hi))
        rw [hWl] at HNt
        rw [← HM2.out] at HNr
        clear hWl
        go_wp2_with fail
        go_loopw [23, 24, 136] (fun t a i wr => ∃ j : Nat, j ≤ k ∧ i = .int .i64 (j : Int) ∧ t = .int .i64 (((out.take j).sum : Nat) : Int) ∧ a = .int .i64 (((getsL g out).take j).sum) ∧ Hid (∃ q, wr = w3.drewN q)) (fun _ _ i _ => k - (intOf i).toNat)
        case atStart => exact ⟨0, Nat.zero_le _, rfl, rfl, rfl, Lib.hid ⟨0, rfl⟩⟩
        case round =>
          obtain ⟨j, hj, rfl, rfl, rfl, hw⟩ := hrel
          by_cases hlt2 : j < k
          · have l1 : (j : Int) < (k : Int) := by omega
            have l0 : (0 : Int) ≤ (j : Int) := by omega
            obtain ⟨qq, hqq⟩ := hw.out
            have hbl := Below.refl w3.heap.size w3
            have c1 := HK1.out.at (n := k) (k := j) (by simp [natI, HO1.out]) hlt2
            rw [natI_getD] at c1
            have c2 := HK2.out.at (n := k) (k := j) (by rw [gets_len, ← HL2.out]) hlt2
            rw [gets_get (by rw [← HL2.out]; exact hlt2)] at c2
            obtain ⟨jr, hjr⟩ : ∃ x, x = k - 1 - j := ⟨_, rfl⟩
            obtain ⟨k1, hk1⟩ : ∃ x, x = k - 1 := ⟨_, rfl⟩
            have c3 := HK3.out.at (n := k) (k := jr) (by simp [natI, HO3.out]) (by omega)
            rw [natI_getD] at c3
            obtain ⟨bl, off, rfl, -, hc7⟩ := HI7.out.get HL1.out hp
            obtain ⟨-, c4⟩ := hc7 j hlt2
            rw [val_nat HO.out.vals] at c4
            obtain ⟨bg, og, rfl, -, hc9⟩ := HI9.out.get HL2.out hp
            have c5 := hc9 j hlt2
            have hnr := HNr.out j hlt2
            have hnt := HNt.out j hlt2
            rw [show k - 1 - j = jr from hjr.symm] at hnt
            have HTs := Lib.hid (take_sum_step (W := out) (k := j) (by rw [HO1.out]; exact hlt2))
            have htl := take_sum_le out (j + 1)
            have hts := split_sum HS1.out HO.out.ss
            have hgt := gets_take (g := g) (out := out) (by rw [HO1.out, HL2.out]) j (by rw [← HL2.out]; omega)
            have hgt1 := gets_take (g := g) (out := out) (by rw [HO1.out, HL2.out]) (j + 1) (by rw [← HL2.out]; omega)
            have hgb := take_bd HGb.out j
            have hgb1 := take_bd HGb.out (j + 1)
            rw [← HL2.out] at hgb hgb1
            have HGs := Lib.hid (itake_step (zs := getsL g out) (k := j) (by rw [gets_len, ← HL2.out]; exact hlt2))
            rw [gets_get (by rw [← HL2.out]; exact hlt2)] at HGs
            have hyb := getD_bd (by omega) HGb.out j
            have hpT : out.getD j 0 ≤ T := by have := HTs.out; omega
            have hxM : W.getD j 0 ≤ M := by
              rw [HM2.out, List.getD_eq_getElem?_getD, List.getElem?_eq_getElem (by rw [HWl.out]; exact hlt2)]
              exact mem_le_sum (List.getElem_mem _)
            generalize out.getD j 0 = p at *
            generalize out3.getD jr 0 = p' at *
            generalize W.getD j 0 = x at *
            generalize g.getD j 0 = y at *
            rw [hqq]
            have v1 : IntKind.i64.wrap ((k : Int) - 1) = (k1 : Int) := i64_eq (by omega) (by omega)
            have v1b : (k : Int) - 1 = (k1 : Int) := by omega
            have v2 : IntKind.i64.wrap ((k1 : Int) - (j : Int)) = (jr : Int) := i64_eq (by omega) (by omega)
            have v2b : (k1 : Int) - (j : Int) = (jr : Int) := by omega
            have v2c : IntKind.i64.wrap (k1 : Int) = (k1 : Int) := IntWalk.i64_in _ (by omega)
            have v2d : IntKind.i64.wrap (jr : Int) = (jr : Int) := IntWalk.i64_in _ (by omega)
            have l3 : (jr : Int) < (k : Int) := by omega
            have l4 : (0 : Int) ≤ (jr : Int) := by omega
            obtain ⟨dd, hdd⟩ : ∃ x, x = (p : Int) - (p' : Int) := ⟨_, rfl⟩
            have v3 : IntKind.i64.wrap ((p : Int) - (p' : Int)) = dd := by rw [← hdd]; exact IntWalk.i64_in _ (by omega)
            have t1 : decide (1 < dd) = false := by rw [decide_eq_false_iff_not]; omega
            have t2 : decide (dd < -1) = false := by rw [decide_eq_false_iff_not]; omega
            have hm1b : p * M ≤ 589815 * 524280 := Nat.mul_le_mul (by omega) (by omega)
            have hm2b : T * x ≤ 589815 * 524280 := Nat.mul_le_mul (by omega) (by omega)
            obtain ⟨m1, hm1⟩ : ∃ m, m = p * M := ⟨_, rfl⟩
            obtain ⟨m2, hm2⟩ : ∃ m, m = T * x := ⟨_, rfl⟩
            rw [← hm1, ← hm2] at hnr
            rw [← hm1] at hm1b
            rw [← hm2] at hm2b
            have e4 : (p : Int) * (M : Int) = (m1 : Int) := by rw [hm1]; simp
            have e5 : (T : Int) * (x : Int) = (m2 : Int) := by rw [hm2]; simp
            have v4 : IntKind.i64.wrap ((p : Int) * (M : Int)) = (m1 : Int) := i64_eq e4 (by omega)
            have v5 : IntKind.i64.wrap ((T : Int) * (x : Int)) = (m2 : Int) := i64_eq e5 (by omega)
            have v4b : IntKind.i64.wrap (m1 : Int) = (m1 : Int) := IntWalk.i64_in _ (by omega)
            have v5b : IntKind.i64.wrap (m2 : Int) = (m2 : Int) := IntWalk.i64_in _ (by omega)
            obtain ⟨s2, hs2⟩ : ∃ s, s = m2 + M := ⟨_, rfl⟩
            have v6 : IntKind.i64.wrap ((m2 : Int) + (M : Int)) = (s2 : Int) := i64_eq (by omega) (by omega)
            have e6 : (m2 : Int) + (M : Int) = (s2 : Int) := by omega
            have v6b : IntKind.i64.wrap (s2 : Int) = (s2 : Int) := IntWalk.i64_in _ (by omega)
            obtain ⟨z7, hz7⟩ : ∃ z, z = (m2 : Int) - (M : Int) := ⟨_, rfl⟩
            have v7 : IntKind.i64.wrap ((m2 : Int) - (M : Int)) = z7 := by rw [← hz7]; exact IntWalk.i64_in _ (by omega)
            have t3 : decide ((s2 : Int) < (m1 : Int)) = false := by rw [decide_eq_false_iff_not]; omega
            have t3b : decide (s2 < m1) = false := by rw [decide_eq_false_iff_not]; omega
            have t4 : decide ((m1 : Int) < z7) = false := by rw [decide_eq_false_iff_not]; omega
            obtain ⟨z8, hz8⟩ : ∃ z, z = y - (p : Int) := ⟨_, rfl⟩
            rw [← hz8] at c2 HGs
            have v8 : IntKind.i64.wrap (y - (p : Int)) = z8 := by rw [← hz8]; exact IntWalk.i64_in _ (by omega)
            have t5 : (z8 == z8) = true := by simp
            have t6 : (z8 != z8) = false := by simp
            obtain ⟨ta, hta⟩ : ∃ t, t = (out.take j).sum := ⟨_, rfl⟩
            obtain ⟨tb, htb⟩ : ∃ t, t = (out.take (j + 1)).sum := ⟨_, rfl⟩
            obtain ⟨aa, haa⟩ : ∃ t, t = ((getsL g out).take j).sum := ⟨_, rfl⟩
            obtain ⟨ab, hab⟩ : ∃ t, t = ((getsL g out).take (j + 1)).sum := ⟨_, rfl⟩
            have HTb := Lib.hid htb
            have HAb := Lib.hid hab
            have hts1 := HTs.out
            have hgs1 := HGs.out
            rw [← hta] at hts1 hgt ⊢
            rw [← htb] at hts1 htl hgt1
            rw [← haa] at hgs1 hgt ⊢
            rw [← hab] at hgs1 hgt1
            have v9 : IntKind.i64.wrap ((ta : Int) + (p : Int)) = (tb : Int) := i64_eq (by omega) (by omega)
            have e9 : (ta : Int) + (p : Int) = (tb : Int) := by omega
            have v9b : IntKind.i64.wrap (tb : Int) = (tb : Int) := IntWalk.i64_in _ (by omega)
            have v10 : IntKind.i64.wrap (aa + z8) = ab := by rw [hgs1]; exact IntWalk.i64_in _ (by omega)
            clear hw hqq hbl hc7 hc9 hnr hnt HTs htl hts hgt hgt1 hgb hgb1 HGs hyb hpT hxM hjr hk1 hdd hm1b hm2b hm1 hm2 hs2 hz7 hz8 hta htb haa hab hts1 hgs1
            go_wp2_with fail
            go_quiet (fail)
            go_wp2_with fail
            go_quiet (fail)
            go_wp2_with fail
            exact ⟨⟨j + 1, by omega, by go_num, by rw [HTb.out], by rw [HAb.out], Lib.hid ⟨_, rfl⟩⟩, by simp [intOf]; omega⟩
          · obtain rfl : j = k := by omega
            have e1 : out.take j = out := List.take_of_length_le (by rw [HO1.out]; exact Nat.le_refl _)
            have e2 : (getsL g out).take j = getsL g out := List.take_of_length_le (by rw [gets_len, ← HL2.out]; exact Nat.le_refl _)
            have e3 := gets_take (g := g) (out := out) (by rw [HO1.out, HL2.out]) j (by rw [← HL2.out]; omega)
            rw [e1, e2, List.take_of_length_le (show g.length ≤ j by rw [← HL2.out]; exact Nat.le_refl _), split_sum HS1.out HO.out.ss] at e3
            have e4 : (getsL g out).sum = -S := by have := HSb2.out; omega
            rw [e1, e2, split_sum HS1.out HO.out.ss, e4]
            obtain ⟨qq, hqq⟩ := hw.out
            rw [hqq]
            have HB4 := Lib.hid (below_drewN HB3.out qq)
            have HI7 := Lib.hid (show Ins (w3.drewN qq) (.slice a7 j p7) l from HI7.out)
            have HI9 := Lib.hid (show Ints (w3.drewN qq) (.slice a9 j p9) g from HI9.out)
            have HK2 := Lib.hid (show Blk (w3.drewN qq) b2 (getsL g out) from HK2.out)
            have hSb := HSb.out
            have v1 : IntKind.i64.wrap (-S) = -S := IntWalk.i64_in _ (by omega)
            clear hw hqq e1 e2 e3 e4 HI8 HI0 HK1 HK3 HS3 HNr HNt HO3 HSa
            generalize w3.drewN qq = w4 at *
            go_wp2_with fail
            refine (HPa.out _ HI7.out HI9.out).mono ?_
            rintro e w5 ⟨v, out5, rfl, hs5, hd, hb⟩
            obtain rfl := HS1.out.unique hs5
            have HB5 := Lib.hid (bq HB4.out hb)
            have HI7 := Lib.hid (HI7.out.below hb)
            have HK2 := Lib.hid (HK2.out.below hb)
            have hset := settled (gets_bal HO.out HS1.out)
            obtain ⟨D, hD⟩ : ∃ D, D = (payAll l (getsL g out) S l.length).D := ⟨_, rfl⟩
            rw [← hD] at hd hset
            obtain ⟨G, hG⟩ : ∃ G, G = getsL g out := ⟨_, rfl⟩
            have HGd := Lib.hid (fun j => gets_bd HO.out.may HO.out.gone HO.out.t1 HS1.out HO.out.ss j)
            rw [← hG] at hset HK2 HGd
            have HSet := Lib.hid hset
            have HGl := Lib.hid (show G.length = l.length by rw [hG, gets_len, HO.out.gl])
            have HD := Lib.hid hd
            obtain ⟨a1, c1, rfl, -⟩ := hd.shape
            obtain ⟨nd, hnd⟩ : ∃ nd, nd = D.length := ⟨_, rfl⟩
            rw [← hnd]
            have HND := Lib.hid hnd
            have hndl : nd ≤ 9 := by have := hset.2.2.2; have := HL1.out; omega
            rw [← hnd] at HD
            have HNm := Lib.hid (may_named HO.out.may)
            clear hb hs5 hd hset hG hD hnd HI9 HPa HWl
            have f1 : ((T : Int) == (T : Int)) = true := by simp
            have f2 : ((T : Int) != (T : Int)) = false := by simp
            have f3 : (-S == -S) = true := by simp
            have f4 : (-S != -S) = false := by simp
            go_wp2_with fail
            obtain ⟨bl, off, rfl, hbl, hc7⟩ := HI7.out.get HL1.out hp
            have hnb : bl ≠ b2 := fun e => by subst e; exact blk_no_text HK2.out (hc7 0 hp).1
            have HNb := Lib.hid hnb
            have HC7 := Lib.hid hc7
            have HK25 := Lib.hid HK2.out
            clear hbl hc7 hnb
            go_loopw [234] (fun i wr => ∃ d : Nat, d ≤ nd ∧ i = .int .i64 (d : Int) ∧ Hid (Blk wr b2 (stG G l D d 0)) ∧ Hid (Touch (fun x => x = b2) w5 wr)) (fun i _ => nd - (intOf i).toNat)
            case atStart => exact ⟨0, Nat.zero_le _, rfl, Lib.hid (by rw [stG_zero D HGl.out]; exact HK2.out), Lib.hid (Touch.refl _ _)⟩
            case round =>
              clear HK2
              obtain ⟨d, hd, rfl, hk, ht⟩ := hrel
              by_cases hlt3 : d < nd
              · have m1 : (d : Int) < (nd : Int) := by omega
                have m0 : (0 : Int) ≤ (d : Int) := by omega
                have hdD : d < D.length := by rw [← HND.out]; exact hlt3
                obtain ⟨bd, od, rfl, hbd, hcd⟩ := HD.out.get HND.out (by omega)
                obtain ⟨e1, e2, e3, e4⟩ := hcd d hdD
                have hnb2 : bd ≠ b2 := fun e => by subst e; exact blk_no_text HK25.out e1
                have e1 := cell_touch e1 ht.out hnb2
                have e2 := cell_touch e2 ht.out hnb2
                have e3 := cell_touch e3 ht.out hnb2
                have e4 := cell_touch e4 ht.out hnb2
                have HNt := Lib.hid (fun u => net_take hdD u)
                have HNz := Lib.hid (fun u => net_bd (D.take d) u (fun x hx => by have := HSet.out.1 x (List.mem_of_mem_take hx); exact ⟨by have := this.1; omega, this.2.1⟩))
                have HGo := Lib.hid (show 1 ≤ D[d].z ∧ D[d].z ≤ 4398046511104 ∧ D[d].f ≠ D[d].t from by
                  obtain ⟨q1, q2, q3, ⟨i, q4, q5, q6⟩, q7⟩ := HSet.out.1 D[d] (List.getElem_mem hdD)
                  refine ⟨q1, q2, ?_⟩
                  rcases q7 with q7 | ⟨m, r1, r2, r3⟩
                  · rw [q5, q7]; exact HNm.out.em i q4
                  · rw [q5, r2]; intro e
                    obtain rfl := HNm.out.ne i m q4 r1 e
                    omega)
                have hdl : (D.take d).length ≤ 9 := by rw [List.length_take]; omega
                have HDl := Lib.hid hdl
                generalize D[d] = x at *
                obtain ⟨df, dt, dc, dz⟩ := x
                dsimp only at e1 e2 e3 e4 HNt HGo
                have HKb := Lib.hid (blk_touch hk.out ((Touch.refl (fun _ => False) wr).alloc (.cells #[.string df, .string dt, .string dc, .int .i64 dz] 55)) (fun h => h))
                have HTb := Lib.hid (ht.out.alloc (.cells #[.string df, .string dt, .string dc, .int .i64 dz] 55))
                have HLt := Lib.hid (show ¬ wr.heap.size = b2 by have := hk.out.lt; omega)
                clear hcd hbd hnb2 hdl hk
                obtain ⟨wz, hwz⟩ : ∃ x, x = wr := ⟨_, rfl⟩
                subst hwz
                go_wp2_with fail
                go_loopw [240] (fun i wi => ∃ i2 : Nat, i2 ≤ j ∧ i = .int .i64 (i2 : Int) ∧ Hid (Blk wi b2 (stG G l D d i2)) ∧ Hid (Touch (fun x => x = b2) (wz.alloc (.cells #[.string df, .string dt, .string dc, .int .i64 dz] 55)) wi)) (fun i _ => j - (intOf i).toNat)
                case atStart => exact ⟨0, Nat.zero_le _, rfl, HKb, Lib.hid (Touch.refl _ _)⟩
                case round =>
                  clear HKb e1 e2 e3 e4
                  obtain ⟨i2, hi2, rfl, hki, hti⟩ := hrel
                  by_cases hlt4 : i2 < j
                  · have n1 : (i2 : Int) < (j : Int) := by omega
                    have n0 : (0 : Int) ≤ (i2 : Int) := by omega
                    have ht5 := HTb.out.trans hti.out (fun x hx => .inl hx)
                    obtain ⟨c0, c1⟩ := HC7.out i2 hlt4
                    have c0 := cell_touch c0 ht5 HNb.out
                    have c1 := cell_touch c1 ht5 HNb.out
                    have hil : i2 < l.length := by rw [← HL1.out]; exact hlt4
                    have hkc := hki.out.at (n := j) (k := i2) (by rw [stG_len, ← HL1.out]) hlt4
                    have hkv := stG_get (G := G) (D := D) (d := d) (i := i2) hil
                    rw [if_neg (by omega)] at hkv
                    rw [hkv] at hkc
                    have HNu := Lib.hid (HNt.out (l.getD i2 default).t)
                    have HNv := Lib.hid (HNz.out (l.getD i2 default).t)
                    have HGi := Lib.hid (HGd.out i2)
                    have HSe := Lib.hid (fun (W' : World) (y : Int) (hW : Blk W' b2 (stG G l D d i2)) (hy : netD (D.take (d + 1)) (l.getD i2 default).t = y) => show Blk (W'.setCell ⟨b2, i2, none⟩ (.int .i64 (G.getD i2 0 - y))) b2 (stG G l D d (i2 + 1)) from by
                      rw [← stG_set hil, hy]; exact hW.set i2 _)
                    have HSa := Lib.hid (fun (h : netD (D.take (d + 1)) (l.getD i2 default).t = netD (D.take d) (l.getD i2 default).t) => show Blk wr b2 (stG G l D d (i2 + 1)) from by rw [← stG_same hil h]; exact hki.out)
                    obtain ⟨nm, hnm⟩ : ∃ x, x = (l.getD i2 default).t := ⟨_, rfl⟩
                    rw [← hnm] at c0 HNu HNv HSe HSa hkc
                    generalize (l.getD i2 default).z = vv at *
                    obtain ⟨nd1, hnd1⟩ : ∃ x, x = netD (D.take d) nm := ⟨_, rfl⟩
                    rw [← hnd1] at HNu HNv HSa hkc
                    obtain ⟨gi, hgi⟩ : ∃ x, x = G.getD i2 0 := ⟨_, rfl⟩
                    rw [← hgi] at hkc HGi HSe
                    have x0 := box_on (j := 0) (v := .string df) (cs := #[.string df, .string dt, .string dc, .int .i64 dz]) (t := 55) hti.out HLt.out rfl
                    have x1 := box_on (j := 1) (v := .string dt) (cs := #[.string df, .string dt, .string dc, .int .i64 dz]) (t := 55) hti.out HLt.out rfl
                    have x3 := box_on (j := 3) (v := .int .i64 dz) (cs := #[.string df, .string dt, .string dc, .int .i64 dz]) (t := 55) hti.out HLt.out rfl
                    have hfr := hki.out.free i2
                    have hba := (Below.refl wr.heap.size wr).alloc (Nat.le_refl _) (.cells #[.string nm, .int .i64 vv] 48)
                    have HTa := Lib.hid (hti.out.alloc (.cells #[.string nm, .int .i64 vv] 48))
                    have y0 := cell_later hba x0
                    have y1 := cell_later hba x1
                    have y3 := cell_later hba x3
                    have yk := cell_later hba hkc
                    have yf : (wr.alloc (.cells #[.string nm, .int .i64 vv] 48)).frozen? ⟨b2, i2, none⟩ = false := by rw [hba.frozen (by exact hki.out.lt)]; exact hfr
                    have HBa := Lib.hid hba
                    have HKl := Lib.hid hki.out.lt
                    clear ht5 hkv hil hba x0 x1 x3 hkc hfr hnm hnd1 hgi
                    have hne := HGo.out.2.2
                    by_cases g1 : df = nm
                    · have g2 : ¬ dt = nm := fun e => hne (g1.trans e.symm)
                      have b1 : (nm.toList == df.toList) = true := by rw [g1]; simp
                      have b2' : (nm.toList == dt.toList) = false := (Lib.bytes_beq_false_iff _ _).2 (fun e => g2 e.symm)
                      have hnu := HNu.out
                      rw [if_neg g2, if_pos g1] at hnu
                      obtain ⟨z9, hz9⟩ : ∃ z, z = gi - nd1 + dz := ⟨_, rfl⟩
                      have v9 : IntKind.i64.wrap (gi - nd1 + dz) = z9 := by rw [hz9]; exact IntWalk.i64_in _ (by have := HGi.out; have := HNv.out; have := HGo.out; have := HDl.out; omega)
                      have HKn := Lib.hid (HSe.out ((wr.alloc (.cells #[.string nm, .int .i64 vv] 48)).drew) (nd1 - dz) (blk_touch hki.out ((Touch.of_below (S := fun _ => False) HBa.out).drew) (fun h => h)) (by omega))
                      rw [show gi - (nd1 - dz) = z9 by omega] at HKn
                      have HTn := Lib.hid (HTa.out.drew.setCell (p := ⟨b2, i2, none⟩) (.inl rfl) (.int .i64 z9))
                      have k1 : (((wr.alloc (.cells #[.string nm, .int .i64 vv] 48)).setCell ⟨b2, i2, none⟩ (.int .i64 z9)).drew).cell? ⟨wr.heap.size, 0, none⟩ = some (.string nm) := by
                        refine (heap_cell (w := wr.alloc (.cells #[.string nm, .int .i64 vv] 48)) ?_).trans (box_new1 wr _ _ rfl)
                        exact Below.heap_setCell _ _ _ _ (by show wr.heap.size ≠ b2; have := HKl.out; omega)
                      have k2 : (((wr.alloc (.cells #[.string nm, .int .i64 vv] 48)).setCell ⟨b2, i2, none⟩ (.int .i64 z9)).drew).cell? ⟨wz.heap.size, 1, none⟩ = some (.string dt) := by
                        refine (heap_cell (w := wr.alloc (.cells #[.string nm, .int .i64 vv] 48)) ?_).trans y1
                        exact Below.heap_setCell _ _ _ _ (by show wz.heap.size ≠ b2; exact HLt.out)
                      clear g1 g2 hnu hne hz9
                      go_wp2_with fail
                      go_region
                      go_wp2
                      go_roundw
                      case rel => exact ⟨i2 + 1, by omega, by go_num, HKn, HTn⟩
                      case measure => simp [intOf]; omega
                    · by_cases g2 : dt = nm
                      · have b1 : (nm.toList == df.toList) = false := (Lib.bytes_beq_false_iff _ _).2 (fun e => g1 e.symm)
                        have b2' : (nm.toList == dt.toList) = true := by rw [g2]; simp
                        have hnu := HNu.out
                        rw [if_pos g2, if_neg g1] at hnu
                        obtain ⟨z9, hz9⟩ : ∃ z, z = gi - nd1 - dz := ⟨_, rfl⟩
                        have v9 : IntKind.i64.wrap (gi - nd1 - dz) = z9 := by rw [hz9]; exact IntWalk.i64_in _ (by have := HGi.out; have := HNv.out; have := HGo.out; have := HDl.out; omega)
                        have HKn := Lib.hid (HSe.out ((wr.alloc (.cells #[.string nm, .int .i64 vv] 48)).drew) (nd1 + dz) (blk_touch hki.out ((Touch.of_below (S := fun _ => False) HBa.out).drew) (fun h => h)) (by omega))
                        rw [show gi - (nd1 + dz) = z9 by omega] at HKn
                        have HTn := Lib.hid (HTa.out.drew.setCell (p := ⟨b2, i2, none⟩) (.inl rfl) (.int .i64 z9))
                        clear g1 g2 hnu hne hz9
                        go_wp2_with fail
                        go_region
                        go_wp2
                        go_roundw
                        case rel => exact ⟨i2 + 1, by omega, by go_num, HKn, HTn⟩
                        case measure => simp [intOf]; omega
                      · have b1 : (nm.toList == df.toList) = false := (Lib.bytes_beq_false_iff _ _).2 (fun e => g1 e.symm)
                        have b2' : (nm.toList == dt.toList) = false := (Lib.bytes_beq_false_iff _ _).2 (fun e => g2 e.symm)
                        have hnu := HNu.out
                        rw [if_neg g2, if_neg g1] at hnu
                        have HKn := Lib.hid (blk_touch (HSa.out (by omega)) (Touch.of_below (S := fun _ => False) HBa.out) (fun h => h))
                        clear g1 g2 hnu hne
                        go_wp2
                        go_roundw
                        case rel => exact ⟨i2 + 1, by omega, by go_num, HKn, HTa⟩
                        case measure => simp [intOf]; omega
                  · obtain rfl : i2 = j := by omega
                    have HKn := Lib.hid (show Blk wr b2 (stG G l D (d + 1) 0) from by rw [← stG_next, ← HL1.out]; exact hki.out)
                    have HTn := Lib.hid (HTb.out.trans hti.out (fun x hx => .inl hx))
                    go_wp2
                    go_roundw
                    case rel => exact ⟨d + 1, by omega, by go_num, HKn, HTn⟩
                    case measure => simp [intOf]; omega
              · obtain rfl : d = nd := by omega
                have hz : ∀ i, i < j → (stG G l D d 0).getD i 0 = 0 := fun i hi => by
                  have hil : i < l.length := by rw [← HL1.out]; exact hi
                  rw [stG_get hil, if_neg (by omega), List.take_of_length_le (by rw [HND.out]; exact Nat.le_refl _), HSet.out.2.1 i hil]; omega
                have HCz := Lib.hid (fun i (hi : i < j) => (hk.out.at (n := j) (k := i) (by rw [stG_len, ← HL1.out]) hi).trans (by rw [hz i hi]))
                have HBz := Lib.hid (HB5.out.trans (ht.out.below HB5.out.size (fun x hx => by subst hx; exact HLo.out)))
                clear hz hk ht
                obtain ⟨wz, hwz⟩ : ∃ x, x = wr := ⟨_, rfl⟩
                subst hwz
                go_wp2_with fail
                go_loopw [275] (fun i wi => ∃ i2 : Nat, i2 ≤ j ∧ i = .int .i64 (i2 : Int) ∧ Hid (wi = wz)) (fun i _ => j - (intOf i).toNat)
                case atStart => exact ⟨0, Nat.zero_le _, rfl, Lib.hid rfl⟩
                case round =>
                  obtain ⟨i2, hi2, rfl, hw⟩ := hrel
                  have hwe := hw.out
                  subst hwe
                  by_cases hlt4 : i2 < j
                  · have n1 : (i2 : Int) < (j : Int) := by omega
                    have n0 : (0 : Int) ≤ (i2 : Int) := by omega
                    have c0 := HCz.out i2 hlt4
                    go_wp2
                    go_roundw
                    case rel => exact ⟨i2 + 1, by omega, by go_num, Lib.hid (by first | trivial | rfl)⟩
                    case measure => simp [intOf]; omega
                  · obtain rfl : i2 = j := by omega
                    go_wp2
                    go_ret
                    exact ⟨rfl, HBz.out⟩
theorem u16_bd {z : Int} (h : (Lit.int .u16 z).wf = true) : 0 ≤ z ∧ z ≤ 65535 := by
  simp only [Lit.wf, Bool.and_eq_true, decide_eq_true_eq] at h
  have h1 : IntKind.u16.min = 0 := by decide
  have h2 : IntKind.u16.max = 65535 := by decide
  omega
theorem walk (v0 v1 : Value) (a2 : Int) (w : World) (w0 : Is24 w v0) (w1 : Is24 w v1) (w2 : (Lit.int .u16 a2).wf = true) :
    Calls Try.prog 4 #[v0, v1, .int .u16 a2] w fun e w' => e = .returned (.bool true) ∧ Below w.heap.size w w' := by
  obtain ⟨vs, h, hv⟩ := w0
  obtain ⟨gs, h2, hg⟩ := w1
  obtain ⟨ao, cap, rfl, _⟩ := h.shape
  obtain ⟨bo, cap2, rfl, _⟩ := h2.shape
  by_cases hs : 8 < vs.length ∨ gs.length = 0
  · exact skip ao bo _ cap _ cap2 a2 w hs
  · exact core ao bo _ cap _ cap2 vs gs a2 w h rfl h2 rfl (fun z hz => u16_bd (hv z hz)) (fun z hz => u16_bd (hg z hz)) (u16_bd w2) (by omega) (by omega)
end topAverage
end Go.Proofs.Ytofkeipfkglljaa
