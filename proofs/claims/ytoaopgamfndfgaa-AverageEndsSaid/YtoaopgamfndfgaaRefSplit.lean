/-
  The document's Split.
-/
import Derived.Test.YtoaopgamfndfgaaSums
namespace Go.Proofs.Ytoaopgamfndfgaa
open Go Go.RowKit
set_option linter.unusedVariables false
set_option linter.unusedSimpArgs false

theorem order_exists (k : Nat → Nat) (n : Nat) : ∃ ys : List Nat, ys.Perm (List.range n) ∧ Srtd k ys := by
  have key : ∀ l : List Nat, l.Nodup → ∃ ys : List Nat, ys.Perm l ∧ Srtd k ys := fun l => by
    induction l with
    | nil => exact fun _ => ⟨[], List.Perm.refl _, List.Pairwise.nil⟩
    | cons x l ih =>
      intro hnd
      obtain ⟨hx, hl⟩ := List.nodup_cons.1 hnd
      obtain ⟨ys, p, s⟩ := ih hl
      have hxy : x ∉ ys := fun h => hx (p.mem_iff.1 h)
      have hins : ∀ zs : List Nat, x ∉ zs → Srtd k zs → ∃ us, us.Perm (x :: zs) ∧ Srtd k us := fun zs => by
        induction zs with
        | nil => exact fun _ _ => ⟨[x], List.Perm.refl _, List.pairwise_singleton _ _⟩
        | cons z zs ih2 =>
          intro hz hs
          obtain ⟨s1, s2⟩ := List.pairwise_cons.1 hs
          have hne : x ≠ z := fun e => hz (by simp [e])
          rcases Lx.total (k := k) hne with h | h
          · exact ⟨x :: z :: zs, List.Perm.refl _, List.pairwise_cons.2 ⟨head_all hs h, hs⟩⟩
          · obtain ⟨us, p1, p2⟩ := ih2 (fun h' => hz (List.mem_cons_of_mem _ h')) s2
            refine ⟨z :: us, (List.Perm.cons z p1).trans (List.Perm.swap x z zs), List.pairwise_cons.2 ⟨fun y hy => ?_, p2⟩⟩
            rcases List.mem_cons.1 (p1.mem_iff.1 hy) with rfl | hy'
            · exact h
            · exact s1 y hy'
      obtain ⟨us, p1, p2⟩ := hins ys hxy s
      exact ⟨us, p1.trans (List.Perm.cons x p), p2⟩
  exact key _ List.nodup_range

/-- The rests, those that have been taken below all. -/
def restL (T : Nat) (W ys : List Nat) (m : Nat) : List Int := (List.range W.length).map fun i => if i ∈ ys.take m then -1 else ((rtsL T W).getD i 0 : Nat)
theorem restL_len (T : Nat) (W ys : List Nat) (m : Nat) : (restL T W ys m).length = W.length := by simp [restL]
theorem restL_get {T : Nat} {W ys : List Nat} {m i : Nat} (hi : i < W.length) : (restL T W ys m).getD i 0 = if i ∈ ys.take m then (-1 : Int) else (((rtsL T W).getD i 0 : Nat) : Int) := by simp [restL, hi]
theorem restL_zero (T : Nat) (W ys : List Nat) : restL T W ys 0 = natI (rtsL T W) := by
  apply List.ext_getElem?
  intro j
  by_cases hj : j < W.length
  · have hj' : j < (rtsL T W).length := by unfold rtsL; simpa using hj
    simp [restL, natI, hj, hj']
  · rw [List.getElem?_eq_none (by simp [restL]; omega), List.getElem?_eq_none (by simp [natI, rtsL]; omega)]
theorem restL_step {T : Nat} {W ys : List Nat} {k i : Nat} (hp : ys.Perm (List.range W.length)) (hk : ys[k]? = some i) : (restL T W ys k).set i (-1) = restL T W ys (k + 1) := by
  obtain ⟨hkl, hki⟩ := List.getElem?_eq_some_iff.1 hk
  have hi : i < W.length := List.mem_range.1 (hp.mem_iff.1 (List.mem_of_getElem? hk))
  have e1 : ys.take (k + 1) = ys.take k ++ [i] := by rw [List.take_succ_eq_append_getElem hkl, hki]
  apply List.ext_getElem?
  intro j
  by_cases hj : j < W.length
  · have h2 : (restL T W ys (k + 1))[j]? = some (if j ∈ ys.take (k + 1) then (-1 : Int) else (((rtsL T W).getD j 0 : Nat) : Int)) := by simp [restL, hj]
    rw [h2]
    by_cases hji : j = i
    · subst hji
      rw [List.getElem?_set_self (by rw [restL_len]; exact hj), e1, if_pos (by simp)]
    · rw [List.getElem?_set_ne (fun e => hji e.symm)]
      have h3 : (restL T W ys k)[j]? = some (if j ∈ ys.take k then (-1 : Int) else (((rtsL T W).getD j 0 : Nat) : Int)) := by simp [restL, hj]
      rw [h3, e1]
      simp [hji]
  · rw [List.getElem?_eq_none (by rw [List.length_set, restL_len]; omega), List.getElem?_eq_none (by rw [restL_len]; omega)]
/-- The greatest rest, the first of such, is the next one of the order. -/
theorem pick_next {T : Nat} {W ys : List Nat} {m j : Nat} (hp : ys.Perm (List.range W.length)) (hs : Srtd (keyL (rtsL T W)) ys) (hm : m < W.length) (h : MostAt (restL T W ys m) W.length j) : ys[m]? = some j := by
  have hl : ys.length = W.length := by rw [hp.length_eq]; simp
  have hml : m < ys.length := by omega
  have hj := h.1
  have hnd : ys.Nodup := hp.nodup_iff.2 List.nodup_range
  have e0 : ys.take m ++ ys[m] :: ys.drop (m + 1) = ys := by rw [← List.drop_eq_getElem_cons hml, List.take_append_drop]
  obtain ⟨i, hi⟩ : ∃ i, i = ys[m] := ⟨_, rfl⟩
  rw [← hi] at e0
  have hin : i < W.length := by rw [hi]; exact List.mem_range.1 (hp.mem_iff.1 (List.getElem_mem _))
  have hnd2 := hnd
  rw [← e0, List.nodup_append] at hnd2
  have hni : i ∉ ys.take m := fun h' => hnd2.2.2 i h' i (by simp) rfl
  have hg := h.2 i hin
  rw [restL_get hin, restL_get hj, if_neg hni] at hg
  have hnj : j ∉ ys.take m := fun h' => by
    rw [if_pos h'] at hg
    have := hg.1
    omega
  rw [if_neg hnj] at hg
  have hjm : j ∈ ys := hp.mem_iff.2 (List.mem_range.2 hj)
  rw [← e0] at hjm
  rcases List.mem_append.1 hjm with h' | h'
  · exact absurd h' hnj
  · rcases List.mem_cons.1 h' with h' | h'
    · rw [h', hi]; exact List.getElem?_eq_getElem hml
    · have hs2 := hs
      rw [← e0] at hs2
      have hlx := (List.pairwise_cons.1 (List.pairwise_append.1 hs2).2.1).1 j h'
      unfold Lx keyL at hlx
      rcases hlx with hlx | ⟨hlx, hij⟩
      · have := hg.1; omega
      · have := hg.2 (by rw [hlx]); omega

def iA (xs : List Int) : Array Value := (xs.map (Value.int .i64)).toArray
theorem iA_set (xs : List Int) (i : Nat) (y : Int) : (iA xs).setIfInBounds i (.int .i64 y) = iA (xs.set i y) := by unfold iA; simp [List.map_set]
theorem iA_nat (xs : List Nat) : iA (natI xs) = nums xs := by simp [iA, natI, nums, List.map_map, Function.comp_def]
/-- How the two blocks lie. -/
structure RL (bp br n : Nat) (w : World) (P : List Nat) (R : List Int) : Prop where
  p : w.heap[bp]? = some (.cells (nums P) 2 (0, 0))
  r : w.heap[br]? = some (.cells (iA R) 2 (0, 0))
  lp : P.length = n
  lr : R.length = n
section
variable {bp br n : Nat} {w : World} {P : List Nat} {R : List Int}
theorem RL.pcell (h : RL bp br n w P R) {i x : Nat} (hx : P[i]? = some x) : w.cell? ⟨bp, i, none⟩ = some (.int .i64 (x : Int)) := by simp [World.cell?, h.p, nums, hx]
theorem RL.rcell (h : RL bp br n w P R) {i : Nat} {x : Int} (hx : R[i]? = some x) : w.cell? ⟨br, i, none⟩ = some (.int .i64 x) := by simp [World.cell?, h.r, iA, hx]
theorem RL.free (h : RL bp br n w P R) (i : Nat) : w.frozen? ⟨bp, i, none⟩ = false ∧ w.frozen? ⟨br, i, none⟩ = false := by
  refine ⟨?_, ?_⟩ <;> simp [World.frozen?, h.p, h.r]
theorem RL.drewN (h : RL bp br n w P R) (k : Nat) : RL bp br n (w.drewN k) P R := ⟨h.p, h.r, h.lp, h.lr⟩
theorem RL.setP (h : RL bp br n w P R) (h1 : br ≠ bp) (i y : Nat) : RL bp br n (w.setCell ⟨bp, i, none⟩ (.int .i64 (y : Int))) (P.set i y) R :=
  ⟨by rw [heap_set h.p, nums_set], by rw [Below.heap_setCell _ _ _ _ h1]; exact h.r, by simp [h.lp], h.lr⟩
theorem RL.setR (h : RL bp br n w P R) (h1 : bp ≠ br) (i : Nat) (y : Int) : RL bp br n (w.setCell ⟨br, i, none⟩ (.int .i64 y)) P (R.set i y) :=
  ⟨by rw [Below.heap_setCell _ _ _ _ h1]; exact h.p, by rw [heap_set h.r, iA_set], h.lp, by simp [h.lr]⟩
end

theorem preI_set {l : List Nat} {k n x : Nat} (hl : l.length = n) (hx : l[k]? = some x) (hk : k < n) : (natI (l.take k ++ List.replicate (n - k) 0)).set k (x : Int) = natI (l.take (k + 1) ++ List.replicate (n - (k + 1)) 0) := by
  rw [← pre_set hl hx hk]
  unfold natI
  rw [List.map_set]
theorem preI_get {l : List Nat} {k n : Nat} (hl : l.length = n) (hk : k < n) : (natI (l.take k ++ List.replicate (n - k) 0))[k]? = some 0 := by
  have := pre_get (l := l) hl hk
  unfold natI
  rw [List.getElem?_map, this]; rfl

def RefPost (T : Nat) (W : List Nat) (w : World) (e : Ending) (w' : World) : Prop := ∃ u out, e = .returned u ∧ IsSplit T W out ∧ Parts w w' u out ∧ Below w.heap.size w w'

set_option maxRecDepth 100000 in
set_option maxHeartbeats 8000000 in
theorem refsplit_any (T : Nat) (ao : Option Addr) (n cap : Nat) (W : List Nat) (w : World) (h : Ints w (.slice ao n cap) (natI W)) (hn : n = W.length) (hwr : wrongN T (natI W) = 0) :
    Calls Try.prog 35 #[.int .i64 (T : Int), .slice ao n cap] w (RefPost T W w) := by
  obtain ⟨T', W', e1, e2, hT, h0, hnb, hw, hSS⟩ := wrong_ok hwr
  obtain rfl : T = T' := by omega
  obtain rfl : W = W' := by
    have := congrArg (List.map Int.toNat) e2
    simpa [natI, List.map_map, Function.comp_def] using this
  rw [← hn] at h0 hnb
  obtain ⟨ys, py, sy⟩ := order_exists (keyL (rtsL T W)) W.length
  have HY := Lib.hid (And.intro py sy)
  have H := Lib.hid h
  have HN := Lib.hid hn
  have HW := Lib.hid hw
  have HSS := Lib.hid hSS
  have HT := Lib.hid hT
  have MK1 : ∀ w, (Instr.makeSlice 23 (.int .i64 (n : Int)) (.int .i64 (n : Int))).run Try.prog w = .ok (.slice (some ⟨w.heap.size, 0, none⟩) n n) (w.alloc (.cells (nums (List.replicate n 0)) 2)) := fun w => by
    rw [← made_nums]; exact run_make_row' _ _ _ 8 Try.underlying23 Try.infoI64 rfl _ _ n (by omega) (by omega) w
  clear hwr e1 e2 py sy h hn hw hSS hT
  go_enter Try.func35, Try.ntmps35
  go_wp2_with fail
  obtain ⟨wz, hwz⟩ : ∃ wz : World, Hid (wz = (w.alloc (.cells (nums (List.replicate n 0)) 2)).alloc (.cells (nums (List.replicate n 0)) 2)) := ⟨_, rfl⟩
  rw [← hwz.out]
  have HLZ := Lib.hid (show RL w.heap.size (w.heap.size + 1) n wz (List.replicate n 0) (natI (List.replicate n 0)) from by
    rw [hwz.out]
    refine ⟨?_, ?_, by simp, by simp [natI]⟩
    · rw [Below.heap_alloc _ _ _ (by simp)]
      exact heap_alloc_new _ _
    · rw [iA_nat]
      have := heap_alloc_new (w.alloc (.cells (nums (List.replicate n 0)) 2)) (.cells (nums (List.replicate n 0)) 2)
      simpa using this)
  have HBZ := Lib.hid (show Below w.heap.size w wz from by
    rw [hwz.out]
    exact ((Below.refl _ _).alloc (Nat.le_refl _) _).alloc (by simp) _)
  obtain ⟨bp, hbp⟩ : ∃ x, Hid (x = w.heap.size) := ⟨_, rfl⟩
  obtain ⟨br, hbr⟩ : ∃ x, Hid (x = w.heap.size + 1) := ⟨_, rfl⟩
  rw [← hbr.out, ← hbp.out] at HLZ ⊢
  have n1 : ¬ bp = br := by have h1 := hbp.out; have h2 := hbr.out; omega
  have n2 : ¬ br = bp := by omega
  have HBS := Lib.hid (show w.heap.size ≤ bp ∧ w.heap.size ≤ br by have h1 := hbp.out; have h2 := hbr.out; omega)
  have HIZ := Lib.hid (H.out.below HBZ.out)
  obtain ⟨b1, o1, e, _, hc1⟩ := H.out.get (by simp [natI]; exact HN.out) h0
  cases e
  obtain ⟨b1', o1', e, hb1z, hc1z⟩ := HIZ.out.get (by simp [natI]; exact HN.out) h0
  cases e
  have HC1 := Lib.hid hc1z
  clear hwz hbp hbr MK1 hc1 hc1z
  go_loop [7, 8] (fun sm i => ∃ k t : Nat, k ≤ n ∧ i = .int .i64 (k : Int) ∧ sm = .int .i64 (t : Int) ∧ Hid (t = (W.take k).sum)) (fun _ i => n - (intOf i).toNat)
  case atStart => exact ⟨0, 0, Nat.zero_le _, rfl, rfl, Lib.hid (by simp)⟩
  case round =>
  obtain ⟨k, t, hk, rfl, rfl, ht⟩ := hrel
  by_cases hlt : k < n
  · have c1 := HC1.out k hlt
    rw [nat_get] at c1
    have g2 := take_sum_step (W := W) (k := k) (by rw [← HN.out]; exact hlt)
    have g4 : (W.take (k + 1)).sum ≤ 4503599627370496 := sum_bd2 (fun x hx => HW.out x (List.mem_of_mem_take hx)) (by rw [List.length_take]; omega)
    have ht' := ht.out
    obtain ⟨t2, ht2⟩ : ∃ t2, t2 = t + W.getD k 0 := ⟨_, rfl⟩
    have E2 : IntKind.i64.wrap ((t : Int) + (W.getD k 0 : Nat)) = (t2 : Int) := i64_eq (by omega) (by omega)
    have HX := Lib.hid (show t2 = (W.take (k + 1)).sum by omega)
    generalize W.getD k 0 = x at *
    clear g2 g4 ht' ht2
    go_wp2
    go_round
    case rel => exact ⟨k + 1, t2, by omega, by go_num, rfl, Lib.hid HX.out⟩
    case measure => simp [intOf]; omega
  · obtain rfl : n = k := by omega
    have HTS := Lib.hid (show t = W.sum by have := ht.out; rwa [List.take_of_length_le (by rw [← HN.out]; omega)] at this)
    have HTB := Lib.hid (show t ≤ 4503599627370496 by rw [HTS.out]; exact sum_bd2 HW.out (by rw [← HN.out]; omega))
    clear ht hk hlt
    by_cases ht0 : t = 0
    · have hT0 : T = 0 := by
        rcases Nat.eq_zero_or_pos T with g | g
        · exact g
        · have := HSS.out g; have := HTS.out; omega
      have HOUT := Lib.hid (show IsSplit T W (List.replicate n 0) by rw [hT0, HN.out]; exact split_zero W)
      subst ht0
      clear hT0
      go_wp2
      go_ret
      exact ⟨_, _, rfl, HOUT.out, ⟨bp, by simp, HLZ.out.p, HBS.out.1⟩, HBZ.out⟩
    · have d5 : ((t : Int) == 0) = false := by rw [beq_eq_false_iff_ne]; omega
      have S0 : 0 < W.sum := by rw [← HTS.out]; omega
      have HS0 := Lib.hid S0
      clear S0
      go_wp2_with fail
      go_loopw [9, 10] (fun lf i wr => ∃ (k l : Nat), k ≤ n ∧ i = .int .i64 (k : Int) ∧ lf = .int .i64 (l : Int) ∧ Hid (l + ((ptsL T W).take k).sum = T) ∧ Hid (RL bp br n wr ((ptsL T W).take k ++ List.replicate (n - k) 0) (natI ((rtsL T W).take k ++ List.replicate (n - k) 0))) ∧ Hid (Below w.heap.size w wr)) (fun _ i _ => n - (intOf i).toNat)
      case atStart => exact ⟨0, T, Nat.zero_le _, rfl, rfl, Lib.hid (by simp), Lib.hid (by simpa using HLZ.out), HBZ⟩
      case round =>
      clear HLZ HBZ
      obtain ⟨k, l, hk, rfl, rfl, hl, hlay, hbel⟩ := hrel
      by_cases hlt : k < n
      · obtain ⟨b1', o1', e, hb1z, hc1⟩ := (H.out.below hbel.out).get (by simp [natI]; exact HN.out) h0
        cases e
        have c1 := hc1 k hlt
        rw [nat_get] at c1
        have lp : (ptsL T W).length = n := by rw [HN.out]; simp [ptsL]
        have lr : (rtsL T W).length = n := by rw [HN.out]; simp [rtsL]
        have hkW : k < W.length := by rw [← HN.out]; exact hlt
        have hxS := getD_le_sum W k
        have hT := HT.out
        have htb := HTB.out
        have hts := HTS.out
        obtain ⟨x, hx⟩ : ∃ x, x = W.getD k 0 := ⟨_, rfl⟩
        rw [← hx] at c1 hxS
        have hq : T * x / t ≤ T := pt_le (by omega) (by omega)
        have HTM := Lib.hid (fun w => times_any T x t (by omega) (by omega) (by omega) (by omega) (by omega) w)
        obtain ⟨pt, hpt⟩ : ∃ pt, pt = T * x / t := ⟨_, rfl⟩
        obtain ⟨rt, hrt⟩ : ∃ rt, rt = T * x % t := ⟨_, rfl⟩
        have gp : (ptsL T W)[k]? = some pt := by unfold ptsL; rw [hpt, hx, hts]; simp [hkW]
        have gr : (rtsL T W)[k]? = some rt := by unfold rtsL; rw [hrt, hx, hts]; simp [hkW]
        rw [← hpt, ← hrt] at HTM
        rw [← hpt] at hq
        obtain ⟨l2, hl2⟩ : ∃ l2, l = l2 + pt := by
          have h1 := hl.out
          have h2 : ((ptsL T W).take (k + 1)).sum ≤ T := pts_take T W HS0.out _
          obtain ⟨g1, g2⟩ := List.getElem?_eq_some_iff.1 gp
          rw [List.take_succ_eq_append_getElem g1, List.sum_append, g2] at h2
          simp at h2
          exact ⟨l - pt, by omega⟩
        have hll : l ≤ T := by have := hl.out; omega
        have HL2 := Lib.hid (show l2 + ((ptsL T W).take (k + 1)).sum = T by
          obtain ⟨g1, g2⟩ := List.getElem?_eq_some_iff.1 gp
          rw [List.take_succ_eq_append_getElem g1, List.sum_append, g2]
          have := hl.out; simp; omega)
        have E3 : IntKind.i64.wrap ((l : Int) - (pt : Int)) = (l2 : Int) := i64_eq (by omega) (by omega)
        have a0 := hlay.out.pcell (pre_get lp hlt)
        have a1 := hlay.out.rcell (preI_get lr hlt)
        obtain ⟨a4, a5⟩ := hlay.out.free k
        have HPS := Lib.hid (And.intro (pre_set lp gp hlt) (preI_set lr gr hlt))
        have l1 : (k : Int) < (n : Int) := by omega
        clear hc1 hx lp lr hkW hxS hT htb hts hq hpt hrt gp gr hl2 hll
        go_wp2_with fail
        refine (HTM.out _).mono ?_
        rintro e w3 ⟨rfl, rfl⟩
        have HR := Lib.hid (And.intro hlay.out hbel.out)
        clear hlay hbel
        go_wp2
        refine ⟨⟨k + 1, l2, by omega, by go_num, rfl, Lib.hid HL2.out, Lib.hid ?_, Lib.hid ((HR.out.2.setCell (p := ⟨bp, k, none⟩) HBS.out.1 _).setCell (p := ⟨br, k, none⟩) HBS.out.2 _)⟩, by simp [intOf]; omega⟩
        have := (HR.out.1.setP n2 k pt).setR n1 k (rt : Int)
        rw [HPS.out.1, HPS.out.2] at this
        exact this
      · obtain rfl : n = k := by omega
        have lp : (ptsL T W).length = n := by rw [HN.out]; simp [ptsL]
        have lr : (rtsL T W).length = n := by rw [HN.out]; simp [rtsL]
        have hl' := hlay.out
        rw [Nat.sub_self, List.replicate_zero, List.append_nil, List.append_nil, List.take_of_length_le (by omega), List.take_of_length_le (by omega), ← outL_zero T W ys, ← restL_zero T W ys] at hl'
        have hlf : l = leftL T W := by have := hl.out; rw [List.take_of_length_le (by omega)] at this; unfold leftL; omega
        have HRL := Lib.hid hl'
        have HLF := Lib.hid (show 0 + l = leftL T W by omega)
        have HLN := Lib.hid (left_lt T W HS0.out)
        clear hl' hlf lp lr hl hlay hk hlt
        go_wp2_with fail
        go_loopw [9] (fun lf wr => ∃ (m l : Nat), lf = .int .i64 (l : Int) ∧ Hid (m + l = leftL T W) ∧ Hid (RL bp br n wr (outL T W ys m) (restL T W ys m)) ∧ Hid (Below w.heap.size w wr)) (fun lf _ => (intOf lf).toNat)
        case atStart => exact ⟨0, l, rfl, HLF, HRL, hbel⟩
        case round =>
        clear HRL HLF hbel
        obtain ⟨m, l, rfl, hml, hrl, hbel⟩ := hrel
        by_cases hl0 : 0 < l
        · have hm := hml.out
          have hmn := HLN.out
          rw [← HN.out] at hmn
          have HMW := Lib.hid (show m < W.length by rw [← HN.out]; omega)
          have n0 : 1 ≤ n := by omega
          have dl : decide ((0 : Int) < (l : Int)) = true := by rw [decide_eq_true_iff]; omega
          obtain ⟨wo, hwo⟩ : ∃ wo : World, wo = wr := ⟨_, rfl⟩
          subst hwo
          clear hm hmn
          go_wp2_with fail
          go_loopw [11, 12] (fun bst i wr => ∃ (j k : Nat), k ≤ n ∧ i = .int .i64 (k : Int) ∧ bst = .int .i64 (j : Int) ∧ Hid (MostAt (restL T W ys m) k j) ∧ Hid (∃ q, wr = wo.drewN q)) (fun _ i _ => n - (intOf i).toNat)
          case atStart => exact ⟨0, 1, n0, rfl, rfl, Lib.hid (most_first _), Lib.hid ⟨0, rfl⟩⟩
          case round =>
          obtain ⟨j, k, hk, rfl, rfl, hj, hw⟩ := hrel
          have hlay : RL bp br n wr (outL T W ys m) (restL T W ys m) := by obtain ⟨q, e⟩ := hw.out; rw [e]; exact hrl.out.drewN q
          by_cases hlt : k < n
          · have hjk := hj.out.1
            obtain ⟨x, hx⟩ : ∃ x, x = (restL T W ys m).getD k 0 := ⟨_, rfl⟩
            obtain ⟨y, hy⟩ : ∃ y, y = (restL T W ys m).getD j 0 := ⟨_, rfl⟩
            have gx : (restL T W ys m)[k]? = some x := by rw [hx]; simp [show k < (restL T W ys m).length by rw [restL_len, ← HN.out]; exact hlt]
            have gy : (restL T W ys m)[j]? = some y := by rw [hy]; simp [show j < (restL T W ys m).length by rw [restL_len, ← HN.out]; omega]
            have c1 := hlay.rcell gx
            have c2 := hlay.rcell gy
            have l1 : (k : Int) < (n : Int) := by omega
            have l2 : (j : Int) < (n : Int) := by omega
            have HG := Lib.hid (fun (g : y < x) => most_more hj.out (by rw [← hx, ← hy]; exact g))
            have HH := Lib.hid (fun (g : ¬ y < x) => most_same hj.out (by rw [← hx, ← hy]; exact g))
            clear gx gy hx hy hlay hjk
            by_cases hg : y < x
            · have HJ := Lib.hid (HG.out hg)
              have d3 : decide (y < x) = true := by simpa using hg
              clear HG HH
              go_wp2_with fail
              go_quiet (fail)
              go_wp2
              go_roundw
              case rel => exact ⟨k, k + 1, by omega, by go_num, rfl, Lib.hid HJ.out, Lib.hid (by obtain ⟨q, e⟩ := hw.out; exact ⟨_, by rw [e, World.drewN_drewN]⟩)⟩
              case measure => simp [intOf]; omega
            · have HJ := Lib.hid (HH.out hg)
              have d3 : decide (y < x) = false := by simpa using hg
              clear HG HH
              go_wp2_with fail
              go_quiet (fail)
              go_wp2
              go_roundw
              case rel => exact ⟨j, k + 1, by omega, by go_num, rfl, Lib.hid HJ.out, Lib.hid (by obtain ⟨q, e⟩ := hw.out; exact ⟨_, by rw [e, World.drewN_drewN]⟩)⟩
              case measure => simp [intOf]; omega
          · obtain rfl : n = k := by omega
            have hpk : ys[m]? = some j := pick_next HY.out.1 HY.out.2 HMW.out (by rw [← HN.out]; exact hj.out)
            have hjn : j < W.length := by rw [← HN.out]; exact hj.out.1
            obtain ⟨x, hx⟩ := get_some (xs := outL T W ys m) (i := j) (by simpa [outL] using hjn)
            obtain ⟨y, hy⟩ : ∃ y, (restL T W ys m)[j]? = some y := ⟨_, List.getElem?_eq_getElem (by rw [restL_len]; exact hjn)⟩
            have c1 := hlay.pcell hx
            have c2 := hlay.rcell hy
            obtain ⟨c3, c4⟩ := hlay.free j
            have hxT := outL_le HS0.out hx
            have hT := HT.out
            have e1 := outL_step' HY.out.1 hpk hx
            have e2 := restL_step (T := T) HY.out.1 hpk
            have HST := Lib.hid (And.intro e1 e2)
            have E1 : IntKind.i64.wrap ((x : Int) + 1) = ((x + 1 : Nat) : Int) := i64_eq (by omega) (by omega)
            obtain ⟨l2, hl2⟩ : ∃ l2, l = l2 + 1 := ⟨l - 1, by omega⟩
            have hlT : l ≤ T := by have := hml.out; unfold leftL at this; omega
            have E2 : IntKind.i64.wrap ((l : Int) - 1) = (l2 : Int) := i64_eq (by omega) (by omega)
            have HLL := Lib.hid (show m + 1 + l2 = leftL T W by have := hml.out; omega)
            have l1 : (j : Int) < (n : Int) := by rw [← HN.out] at hjn; omega
            have HL2 := Lib.hid hl2
            have HLAY := Lib.hid hlay
            have HBW := Lib.hid (show Below w.heap.size w wr by obtain ⟨q, e⟩ := hw.out; rw [e]; exact below_drewN hbel.out q)
            clear hpk hjn hx hy hxT hT e1 e2 hl2 hlT hlay hrl hbel hj
            go_wp2
            have hres : RL bp br n ((wr.setCell ⟨bp, j, none⟩ (.int .i64 ((x + 1 : Nat) : Int))).setCell ⟨br, j, none⟩ (.int .i64 (-1))) (outL T W ys (m + 1)) (restL T W ys (m + 1)) := by
              have := (HLAY.out.setP n2 j (x + 1)).setR n1 j (-1)
              rw [HST.out.1, HST.out.2] at this
              exact this
            refine ⟨⟨m + 1, l2, rfl, Lib.hid HLL.out, Lib.hid hres, Lib.hid ((HBW.out.setCell (p := ⟨bp, j, none⟩) HBS.out.1 _).setCell (p := ⟨br, j, none⟩) HBS.out.2 _)⟩, ?_⟩
            have := HL2.out; simp [intOf]; omega
        · obtain rfl : l = 0 := by omega
          have HOUT := Lib.hid (show IsSplit T W (outL T W ys m) from ⟨ys, HY.out.1, HY.out.2, by have := hml.out; rw [← show m = leftL T W by omega]⟩)
          have HPP := Lib.hid (show Parts w wr (.slice (some ⟨bp, 0, none⟩) n n) (outL T W ys m) from ⟨bp, by rw [hrl.out.lp], hrl.out.p, HBS.out.1⟩)
          go_wp2
          go_ret
          exact ⟨_, _, rfl, HOUT.out, HPP.out, hbel.out⟩
end Go.Proofs.Ytoaopgamfndfgaa
