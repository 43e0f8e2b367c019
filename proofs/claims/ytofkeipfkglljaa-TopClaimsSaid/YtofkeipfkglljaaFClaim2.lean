/-
  File.Claim, walked.
-/
import Derived.Test.YtofkeipfkglljaaFClaim
namespace Go.Proofs.Ytofkeipfkglljaa
open Go Go.RowKit
set_option linter.unusedVariables false
set_option linter.unusedSimpArgs false

set_option maxRecDepth 100000 in
set_option maxHeartbeats 8000000 in
theorem claim_any (w : World) (b : Nat) (v : Value) (f : Fi) (u : ByteArray) (o : Po) (h : IsFi w b v f) (hl : f.L.length < 100) (hi : Ints w o.cv o.zs) :
    Calls Try.prog 7 #[.pointer (some ⟨b, 0, none⟩), .string u, o.val] w fun e w' => ∃ v', e = .returned (.tuple #[.int .i64 (f.claim u o).2.1, .int .i64 (f.claim u o).2.2]) ∧ IsFi w' b v' (f.claim u o).1 ∧ Keep b v w v' w' := by
  have HBa := Lib.hid ((Below.refl w.heap.size w).alloc (Nat.le_refl _) (.cells #[.string u] 9))
  have HBb := Lib.hid (HBa.out.alloc HBa.out.size (.cells (Po.cells o).toArray 33))
  have HM := Lib.hid (may_o o _ (hi.below HBb.out))
  have HTb := Lib.hid (fun w3 hb => two_box (w := w) (w3 := w3) (u := u) (cs := (Po.cells o).toArray) (t1 := 9) (t2 := 33) hb)
  obtain ⟨r, hr⟩ : ∃ r, r = f.claim u o := ⟨_, rfl⟩
  rw [← hr]
  have HRc := Lib.hid hr
  unfold Fi.claim at hr
  have HPy := Lib.hid (fun w hi hm => pays_ok o f.loss.toNat f.value.toNat w hi hm)
  have HIn := Lib.hid hi
  obtain ⟨i, fr, t, sum, own, ao, n, cap, first, last, share, e, hn, _⟩ := Po.apart hi
  have HO := Lib.hid e
  rw [e] at HM HTb HBb HPy
  unfold Po.val at HM
  rw [show o.val = .agg #[.string i, .string fr, .string t, .int .i64 sum, .int .i64 own, .slice ao n cap, .int .i64 first, .int .i64 last, .int .i64 share] by rw [e]; rfl]
  unfold Po.cells at HM HBb HTb
  dsimp only at HM HBb HTb
  have hoi : o.i = i := by rw [e]
  rw [hoi] at hr
  have HFi := Lib.hid h
  rw [← e] at HM HPy
  clear hi hn e h hoi
  cases g1 : o.may with
  | false =>
    rw [if_pos g1] at hr
    rw [g1] at HM
    subst hr
    clear g1
    go_enter Try.func7, Try.ntmps7
    go_wp2_with fail
    refine HM.out.mono ?_
    rintro e w3 ⟨rfl, hb⟩
    obtain ⟨-, -, hb3⟩ := HTb.out w3 hb
    have HB3 := Lib.hid hb3
    clear hb hb3
    go_wp2
    go_ret2
    exact ⟨v, rfl, HFi.out.below HB3.out, Keep.of_below HB3.out⟩
  | true =>
    rw [if_neg (by rw [g1]; simp)] at hr
    rw [g1] at HM
    by_cases g2 : u = i
    · rw [if_neg (by simpa using g2)] at hr
      subst g2
      have HL := Lib.hid (fun w h => left_any w b v f h)
      obtain ⟨av, cv, e, q1, q2⟩ := HFi.out.shape
      obtain ⟨nL, hnL⟩ : ∃ n, n = f.L.length := ⟨_, rfl⟩
      rw [← hnL] at e
      have HNL := Lib.hid hnL
      subst e
      have hn100 : nL < 100 := by omega
      have d4 : decide ((4096 : Int) ≤ (nL : Int)) = false := by rw [decide_eq_false_iff_not]; omega
      have HHas := Lib.hid (fun w c hp hc => has_pm av nL cv c u f.L w hp hnL (by omega) hc)
      have hk : ∀ w3, Below w.heap.size w w3 → w3.cell? ⟨b, 2, none⟩ = some (.slice av nL cv) ∧ w3.cell? ⟨b, 0, none⟩ = some (.int .i64 f.loss) ∧ w3.cell? ⟨b, 1, none⟩ = some (.int .i64 f.value) := fun w3 hb => ⟨(HFi.out.below hb).cell 2, (HFi.out.below hb).cell 0, (HFi.out.below hb).cell 1⟩
      have HK := Lib.hid hk
      clear q1 q2 hk hnL
      cases g3 : hasF f.L u with
      | true =>
        rw [if_pos g3] at hr
        rw [g3] at HHas
        subst hr
        clear g1 g3
        go_enter Try.func7, Try.ntmps7
        go_wp2_with fail
        refine HM.out.mono ?_
        rintro e w3 ⟨rfl, hb⟩
        obtain ⟨ku, kp, hb3⟩ := HTb.out w3 hb
        have p0 := kp 0 _ rfl
        have HB3 := Lib.hid hb3
        obtain ⟨m2, m0, m1⟩ := HK.out w3 hb3
        have HH3 := Lib.hid (HHas.out w3 w.heap.size (by have := (HFi.out.below hb3).pms; exact this) ku)
        clear hb hb3 kp
        go_wp2_with fail
        refine HH3.out.mono ?_
        rintro e w4 ⟨rfl, hb⟩
        have HB4 := Lib.hid (bt HB3.out hb)
        clear hb
        go_wp2
        go_ret2
        exact ⟨_, rfl, HFi.out.below HB4.out, Keep.of_below HB4.out⟩
      | false =>
        rw [if_neg (by rw [g3]; simp)] at hr
        rw [g3] at HHas
        have hok := ok_bd HFi.out.ok
        have hv0 := HFi.out.v0
        have hnb := (pays_bd g1 (loss := f.loss.toNat) (value := f.value.toNat) (by omega)).1
        have HPy2 := Lib.hid (fun w hi => HPy.out w hi g1 (by omega) (by omega) (by omega))
        rw [show ((f.loss.toNat : Nat) : Int) = f.loss by omega, show ((f.value.toNat : Nat) : Int) = f.value by omega] at HPy2
        have HPy3 := Lib.hid (show ∀ w3, Below w.heap.size w w3 → Calls Try.prog 16 #[.agg #[.string u, .string fr, .string t, .int .i64 sum, .int .i64 own, .slice ao n cap, .int .i64 first, .int .i64 last, .int .i64 share], .int .i64 f.loss, .int .i64 f.value] w3 fun e w' => e = .returned (.tuple #[.int .i64 (o.paysN f.loss.toNat f.value.toNat : Int), .bool true]) ∧ Below w3.heap.size w3 w' from fun w3 hb => by
          have h1 := HPy2.out w3 (by have := HIn.out.below hb; rw [HO.out] at this; rw [HO.out]; exact this)
          rw [HO.out] at h1
          rw [HO.out]
          exact h1)
        obtain ⟨NP, hNP⟩ : ∃ N, N = o.paysN f.loss.toNat f.value.toNat := ⟨_, rfl⟩
        rw [← hNP] at hr hnb HPy3
        have HOk2 := Lib.hid (addF_ok HFi.out.ok u (n := (NP : Int)) (by omega))
        have HLn := Lib.hid (show (addF f u (NP : Int)).L.length ≤ 100 by simp [addF]; omega)
        have HV0 := Lib.hid hv0
        obtain ⟨M, hM⟩ : ∃ M, M = min (NP : Int) (leftF f) := ⟨_, rfl⟩
        rw [← hM] at hr
        have HL2 := Lib.hid (show (addF f u (NP : Int)).L = f.L ++ [⟨u, M, 0⟩] by rw [hM]; rfl)
        have HM2 := hM.symm
        clear hok hv0 hnb HPy HPy2 hNP hM HO HIn
        subst hr
        generalize leftF f = LF at *
        clear g1 g3
        go_enter Try.func7, Try.ntmps7
        go_wp2_with fail
        refine HM.out.mono ?_
        rintro e w3 ⟨rfl, hb⟩
        obtain ⟨ku, kp, hb3⟩ := HTb.out w3 hb
        have p0 := kp 0 _ rfl
        have KP := Lib.hid kp
        have HB3 := Lib.hid hb3
        obtain ⟨m2, m0, m1⟩ := HK.out w3 hb3
        have HH3 := Lib.hid (HHas.out w3 w.heap.size (by have := (HFi.out.below hb3).pms; exact this) ku)
        have KU := Lib.hid ku
        clear hb hb3 kp
        go_wp2_with fail
        refine HH3.out.mono ?_
        rintro e w4 ⟨rfl, hb⟩
        have ku := cell_later hb KU.out
        have p0 := cell_later hb (KP.out 0 _ rfl)
        have p1 := cell_later hb (KP.out 1 _ rfl)
        have p2 := cell_later hb (KP.out 2 _ rfl)
        have p3 := cell_later hb (KP.out 3 _ rfl)
        have p4 := cell_later hb (KP.out 4 _ rfl)
        have p5 := cell_later hb (KP.out 5 _ rfl)
        have p6 := cell_later hb (KP.out 6 _ rfl)
        have p7 := cell_later hb (KP.out 7 _ rfl)
        have p8 := cell_later hb (KP.out 8 _ rfl)
        have hb4 := bt HB3.out hb
        obtain ⟨m2, m0, m1⟩ := HK.out w4 hb4
        have HB4 := Lib.hid hb4
        have HP4 := Lib.hid (HPy3.out w4.drew (hb4.drew))
        obtain ⟨bu, hbu⟩ : ∃ x, x = w.heap.size := ⟨_, rfl⟩
        clear hb hb4 HH3 KP KU HB3 HPy3 HHas HM HTb HBa HBb
        go_wp2_with fail
        go_region_with (go_at_call 16; refine HP4.out.mono ?_; rintro e w5 ⟨rfl, hb5⟩; have KU5 := Lib.hid (cell_later hb5 ku); have m0 := cell_later hb5 m0; have m1 := cell_later hb5 m1; have HB5 := Lib.hid (bt HB4.out.drew hb5); clear hb5)
        all_goals
          clear m0 m1 p0 p1 p2 p3 p4 p5 p6 p7 p8 m2 ku
          have HL5 := Lib.hid (HL.out _ (HFi.out.below HB5.out))
          go_wp2_with fail
          refine HL5.out.mono ?_
          rintro e w6 ⟨rfl, hb6⟩
          have hf6 := HFi.out.below (bt HB5.out hb6)
          have HF6 := Lib.hid hf6
          have ku := cell_later hb6 KU5.out
          have m2 : w6.cell? ⟨b, 2, none⟩ = some (.slice av nL cv) := hf6.cell 2
          have f2 : w6.frozen? ⟨b, 2, none⟩ = false := hf6.free 2
          have HB6 := Lib.hid (bt HB5.out hb6)
          have bl6 := hf6.lt
          have HA := Lib.hid ((Below.refl w6.heap.size w6).alloc (Nat.le_refl _) (.cells #[.string u, .int .i64 M, .int .i64 0] 64))
          have HO6 := Lib.hid ((hf6.row.alloc (.cells #[.string u, .int .i64 M, .int .i64 0] 64)).drew)
          rw [← HNL.out] at HO6
          have n2 := cell_later HA.out m2
          have nu := cell_later HA.out ku
          have L1 : nL + 1 ≤ maxLen := by unfold maxLen; omega
          have L2 : (nL + 1) * 32 ≤ 140737488355328 := by omega
          have Z3 : 0 < 3 := by decide
          have HNe := Lib.hid hf6.ne
          obtain ⟨i0, hi0, hz0, hz1, hz2⟩ := info_parts Try.infoPm
          clear hf6 hb6 HL5
          go_wp2_with fail
          go_region_law (refine step_own rfl (.tmp 54) (.tmp 58) 58 rfl 64 i0 _ 3 32 Try.underlying58 hi0 hz0 hz1 hz2 rfl Z3 _ _ _ rfl HO6.out ⟨w6.heap.size, 0, none⟩ 1 1 [.string u, .int .i64 M, .int .i64 0] rfl rfl (new_cells _ _ _) (one_pm ⟨u, M, 0⟩) L1 L2 ?_; intro v7 w7 hown7 hg7 hn7; obtain ⟨ao7, cap7, rfl⟩ := own_shape hown7; have q2 := (grown_heap hg7 (k := b) (by simp; omega) HNe.out).trans (by rw [show ((w6.alloc (.cells #[.string u, .int .i64 M, .int .i64 0] 64)).drew).heap[b]? = (w6.alloc (.cells #[.string u, .int .i64 M, .int .i64 0] 64)).heap[b]? from rfl, Below.heap_alloc _ _ _ bl6]); have q0 : w7.cell? ⟨b, 2, none⟩ = some (.slice av nL cv) := (heap_cell q2).trans m2; have q1 : w7.frozen? ⟨b, 2, none⟩ = false := (World.frozen?_of_block q2).trans f2; have Q := Lib.hid (And.intro q2 (And.intro hown7 (And.intro hg7 hn7))); clear q2 hown7 hg7 hn7)
          all_goals
            go_wp2
            go_ret2
            obtain ⟨q2, hown7, hg7, hn7⟩ := Q.out
            have hne : (Value.slice ao7 (nL + 1) cap7).ownBlock ≠ some b := by
              intro e
              rcases hn7 b e with e | e
              · exact HNe.out e
              · simp at e; omega
            have hl7 : (addF f u (NP : Int)).L.length = nL + 1 := by rw [HL2.out, List.length_append, ← HNL.out]; rfl
            have hc7 : (addF f u (NP : Int)).L.flatMap Pm.cells = f.L.flatMap Pm.cells ++ [.string u, .int .i64 M, .int .i64 0] := by rw [HL2.out, List.flatMap_append]; rfl
            refine ⟨_, rfl, IsFi.put (f := f) (q2.trans HF6.out.blk) (by rw [hl7, hc7]; exact hown7) hne rfl HOk2.out HLn.out HV0.out, ?_⟩
            exact (Keep.of_below HB6.out).trans ⟨((((Touch.refl _ _).alloc _).drew).grown hg7 (fun k e => .inl (.inr e))).setCell (.inl (.inl rfl)) _, fun k e => (hn7 k e).imp id (fun h => by simp at h; omega)⟩
    · rw [if_pos g2] at hr
      have b1 : (u.toList == i.toList) = false := (Lib.bytes_beq_false_iff _ _).2 g2
      have b2 : (u.toList != i.toList) = true := by simp [bne, b1]
      subst hr
      clear g1 g2
      go_enter Try.func7, Try.ntmps7
      go_wp2_with fail
      refine HM.out.mono ?_
      rintro e w3 ⟨rfl, hb⟩
      obtain ⟨ku, kp, hb3⟩ := HTb.out w3 hb
      have p0 := kp 0 _ rfl
      have HB3 := Lib.hid hb3
      clear hb hb3 kp
      go_wp2
      go_ret2
      exact ⟨v, rfl, HFi.out.below HB3.out, Keep.of_below HB3.out⟩
end Go.Proofs.Ytofkeipfkglljaa
