/-
  maps.Values over the slots' map: each load comes once, in some order.
-/
import Derived.Test.YtllaahdbngjigaaDoorStk
import Derived.Sort.MapsRangeIn
import Derived.RangeFuncGives
import Derived.LoopNIn
import Derived.LoopIn
import Derived.TacticsInMore
import Derived.RegionIn
namespace Go.Proofs.YtllaahdbngjigaaDoor
open Go Go.RowKit Go.Maps Go.MapKept
set_option linter.unusedVariables false
set_option linter.unusedSimpArgs false

/-- Block b is a map of these entries. -/
def ME (w : World) (b : Nat) (es : Array MapEntry) (c : Nat) : Prop := w.heap[b]? = some (.map es c) ∧ Stamped es c
/-- An iterator over it: what has been seen. -/
def IT (w : World) (b r c : Nat) (seen : Array Nat) : Prop := w.heap[r]? = some (.mapIter (some b) c seen c)
theorem IT.left {w : World} {b r c : Nat} {seen : Array Nat} {es : Array MapEntry} (h : IT w b r c seen) (hm : ME w b es c) : w.rangeLeft b r = (leftOf es seen).size := by
  unfold World.rangeLeft
  rw [hm.1, show w.heap[r]? = _ from h]
theorem ME.keep {w w' : World} {b : Nat} {es : Array MapEntry} {c : Nat} (h : ME w b es c) (hk : KeepsWalks w w') : ME w' b es c := ⟨hk.same b _ h.1 rfl, h.2⟩
theorem IT.keep {w w' : World} {b r c : Nat} {seen : Array Nat} (h : IT w b r c seen) (hk : KeepsWalks w w') : IT w' b r c seen := hk.same r _ h rfl

section
variable {F : Fence} {n : Nat} {P : Program} (w : World) {ops : Array Oper} {rest : List Oper} {o : Oper} {a : Act} {Q : Exit → Act → World → Prop}
theorem wpListIn_range_me (hg : o.guard = none) (m : Operand) (t k e : TypeId) (hop : o.op = Op.range t m) (ht : P.underlying t = some (.map k e)) (b : Nat) (es : Array MapEntry) (c : Nat) (hm : a.eval m = .map (some b)) (h : ME w b es c)
    (hK : wpListIn F n P ops Q rest (a.put o.dst (.pointer (some ⟨w.heap.size, 0, none⟩))) (w.alloc (.mapIter (some b) c #[] c))) :
    wpListIn F n P ops Q (o :: rest) a w := by
  refine wpListIn_plain hg fun K' hK' => ?_
  have hrun := run_range_map (P := P) w t k e b es c ht h.1
  unfold Oper.wpIn
  refine ⟨by simp [Oper.about, hop], ?_⟩
  rw [Oper.semAt_plain F _ _ (by rw [hop]; intro c hc'; cases hc')]
  simp [execOp, hop, hm, hrun, Result.andThen]
  exact hK' _ _ hK
theorem wpListIn_next_me (hg : o.guard = none) (it : Operand) (hop : o.op = Op.next it false) (b r c : Nat) (es : Array MapEntry) (seen : Array Nat) (hit : a.eval it = .pointer (some ⟨r, 0, none⟩)) (hI : IT w b r c seen) (hM : ME w b es c)
    (hDone : (leftOf es seen).size = 0 → wpListIn F n P ops Q rest (a.put o.dst (.tuple #[.bool false])) w)
    (hMore : ∀ e ∈ (leftOf es seen).toList, ∀ w', IT w' b r c (seen.push e.born) → ME w' b es c → w.grownBy w' (some r) → (Instr.entry (.pointer (some ⟨r, 0, none⟩))).run P w' = .ok (.tuple #[e.key, e.val]) w' →
      wpListIn F n P ops Q rest (a.put o.dst (.tuple #[.bool true, e.key, e.val])) w') :
    wpListIn F n P ops Q (o :: rest) a w := by
  refine wpListIn_plain hg fun K' hK' => ?_
  unfold Oper.wpIn
  refine ⟨by simp [Oper.about, hop], ?_⟩
  rw [Oper.semAt_plain F _ _ (by rw [hop]; intro c hc'; cases hc')]
  have hst := (stamped_iff es c).1 hM.2
  rcases run_next_at (P := P) w o.type r b c c seen es c hI hM.1 hst.1 (Nat.le_refl _) with ⟨h0, hrun⟩ | ⟨e, he, w1, hw1, hrun⟩
  · simp [execOp, hop, hit, hrun, Result.andThen]
    exact hK' _ _ (hDone h0)
  · have hh : w1.heap = w.heap ∧ w1.os = w.os ∧ w1.tape = w.tape ∧ w1.output = w.output := by
      rcases hw1 with rfl | rfl
      · exact ⟨rfl, rfl, rfl, rfl⟩
      · exact ⟨rfl, rfl, rfl, rfl⟩
    have hl1 : r < w1.heap.size := by rw [hh.1]; exact lt_of_block hI
    have st := set_touch2 w1 r (.mapIter (some b) c (seen.push e.born) c) hl1
    have hne : ¬ b = r := fun e1 => by
      have h1 := hM.1
      have h2 : w.heap[r]? = _ := hI
      rw [e1, h2] at h1
      cases h1
    have hM2 : ME (ChangeMaps.setBlock w1 r (.mapIter (some b) c (seen.push e.born) c)) b es c := ⟨(st.1.block b (by rw [hh.1]; exact lt_of_block hM.1) hne).trans (by rw [hh.1]; exact hM.1), hM.2⟩
    have he1 : e ∈ es.toList := (mem_left he).1
    simp [execOp, hop, hit, hrun, Result.andThen]
    refine hK' _ _ (hMore e he _ st.2 hM2 ⟨?_, ?_, ?_, ?_, fun i hi hr => ?_⟩ (run_entry_at _ r b c seen es c e st.2 hM2.1 he1 hst.2.1))
    · exact st.1.os.trans hh.2.1
    · exact st.1.tape.trans hh.2.2.1
    · exact st.1.output.trans hh.2.2.2
    · rw [← hh.1]; exact st.1.size
    · rw [st.1.block i (by rw [hh.1]; exact hi) (fun e => hr (by rw [e])), hh.1]
end

/-- What a load's value was made of. -/
def unval : Value → Ld
  | .agg cs => match cs.toList with
    | [.int _ b, .int _ r, .int _ t, .string m, .int _ u, .int _ c, .int _ p] => ⟨b, r, t, m, u, c, p⟩
    | _ => zLd
  | _ => zLd
theorem unval_val (x : Ld) : unval x.val = x := rfl
/-- What has come, of a map's entries. -/
def Col (es : Array MapEntry) (seen : Array Nat) (pre : List Ld) : Prop :=
  ∃ ps : List MapEntry, seen.toList = ps.map (·.born) ∧ (∀ e ∈ ps, e ∈ es.toList) ∧ ps.Nodup ∧ ps.map (·.val) = pre.map Ld.val
theorem Col.start (es : Array MapEntry) : Col es #[] [] := ⟨[], rfl, by simp, by simp, rfl⟩
theorem Col.step {es : Array MapEntry} {seen : Array Nat} {pre : List Ld} {e : MapEntry} {x : Ld} (h : Col es seen pre) (he : e ∈ (leftOf es seen).toList) (hx : e.val = x.val) : Col es (seen.push e.born) (pre ++ [x]) := by
  obtain ⟨ps, h1, h2, h3, h4⟩ := h
  obtain ⟨k1, k2⟩ := mem_left he
  refine ⟨ps ++ [e], by simp [h1], fun z hz => ?_, ?_, by simp [h4, hx]⟩
  · rcases List.mem_append.1 hz with hz | hz
    · exact h2 z hz
    · simp at hz; subst hz; exact k1
  · refine List.nodup_append.2 ⟨h3, by simp, fun a ha b hb => ?_⟩
    simp at hb
    subst hb
    rintro rfl
    have : a.born ∈ seen.toList := by rw [h1]; exact List.mem_map.2 ⟨a, ha, rfl⟩
    have k3 : seen.contains a.born = true := by simpa using this
    rw [k3] at k2; cases k2
theorem Col.done {es : Array MapEntry} {seen : Array Nat} {pre : List Ld} {c : Nat} {L : List Ld} (h : Col es seen pre) (hs : Stamped es c) (h0 : (leftOf es seen).size = 0) (hL : es.toList.map (·.val) = L.map Ld.val) : pre.Perm L := by
  obtain ⟨ps, h1, h2, h3, h4⟩ := h
  have hb := ((stamped_iff es c).1 hs).2.1
  have hnd : es.toList.Nodup := by
    refine List.Pairwise.imp ?_ (List.pairwise_map.1 hb)
    intro a b hab e
    exact hab (by rw [e])
  have hp : ps.Perm es.toList := by
    refine (List.perm_ext_iff_of_nodup h3 hnd).2 fun e => ⟨h2 e, fun he => ?_⟩
    have hk := all_seen es seen h0 e he
    have : e.born ∈ seen.toList := by simpa using hk
    rw [h1] at this
    obtain ⟨q, hq, hqb⟩ := List.mem_map.1 this
    have : q = e := by
      have hq2 := h2 q hq
      obtain ⟨i, hi, e1⟩ := List.mem_iff_getElem.1 hq2
      obtain ⟨j, hj, e2⟩ := List.mem_iff_getElem.1 he
      have hpw := List.pairwise_iff_getElem.1 (List.pairwise_map.1 hb)
      rcases Nat.lt_trichotomy i j with hlt | he' | hlt
      · exact absurd (by rw [e1, e2]; exact hqb) (hpw i j hi hj hlt)
      · subst he'; rw [← e1, ← e2]
      · exact absurd (by rw [e1, e2]; exact hqb.symm) (hpw j i hj hi hlt)
    rw [← this]; exact hq
  have h5 := hp.map (·.val)
  rw [h4, hL] at h5
  have h6 := h5.map unval
  simpa [List.map_map, Function.comp_def, unval_val] using h6
theorem Col.len {es : Array MapEntry} {seen : Array Nat} {pre : List Ld} {e : MapEntry} (h : Col es seen pre) (he : e ∈ (leftOf es seen).toList) : pre.length < es.size := by
  obtain ⟨ps, h1, h2, h3, h4⟩ := h
  obtain ⟨k1, k2⟩ := mem_left he
  have hl : pre.length = ps.length := by have := congrArg List.length h4; simpa using this.symm
  have hn : (ps ++ [e]).Nodup := by
    refine List.nodup_append.2 ⟨h3, by simp, fun a ha b hb => ?_⟩
    simp at hb
    subst hb
    rintro rfl
    have : a.born ∈ seen.toList := by rw [h1]; exact List.mem_map.2 ⟨a, ha, rfl⟩
    have k3 : seen.contains a.born = true := by simpa using this
    rw [k3] at k2; cases k2
  have hsub : ∀ z ∈ ps ++ [e], z ∈ es.toList := by
    intro z hz
    rcases List.mem_append.1 hz with hz | hz
    · exact h2 z hz
    · simp at hz; subst hz; exact k1
  have hle := hn.length_le_of_subset hsub
  simp at hle
  omega

set_option maxRecDepth 100000 in
set_option maxHeartbeats 1000000 in
/-- The iterator, for every round that goes on. -/
theorem vals1_in (F : Fence) (n : Nat) (hf : F.fn 73) (hro : F.round = none) (hn : 1 ≤ n) (l Bm b : Nat) (es : Array MapEntry) (c : Nat) (L : List Ld) (J : List Ld → World → Prop)
    (hY : ∀ pre x W, J pre W → pre.length < es.size → YieldAt F (n - 1) Tryd.prog l #[Ld.val x] W fun e W' => e = .returned (.bool true) ∧ J (pre ++ [x]) W' ∧ KeepsWalks W W')
    (W : World) (hJ : AbidesFrom W.heap.size J) (hm : W.cell? ⟨Bm, 0, none⟩ = some (.map (some b))) (hM : ME W b es c) (hL : es.toList.map (·.val) = L.map Ld.val) (h0 : J [] W) :
    CallsIn F n Tryd.prog 73 #[.func (.yield l) #[] #[], .pointer (some ⟨Bm, 0, none⟩)] W fun e W' => (∃ v, e = .returned v) ∧ ∃ xs : List Ld, xs.Perm L ∧ J xs W' := by
  refine callsIn_of_wp Tryd.func73 rfl hf ?_ hro
  simp only [Tryd.ntmps73, List.size_toArray, List.length_cons, List.length_nil, Nat.reduceAdd, Nat.reduceSub, Array.replicate_succ, Array.replicate_zero, List.push_toArray, List.append_toArray, List.nil_append, List.cons_append]
  gi_wp2_with (first
    | (gi_at_range; refine wpListIn_range_me _ rfl _ 75 35 37 rfl Tryd.underlying75 b es c rfl hM ?_)
    | gi_in)
  go_frame
  have hM0 : ME (W.alloc (.mapIter (some b) c #[] c)) b es c := hM.keep (KeepsWalks.alloc _ _)
  have hI0 : IT (W.alloc (.mapIter (some b) c #[] c)) b W.heap.size c #[] := heap_alloc_new _ _
  have hJ0 : J [] (W.alloc (.mapIter (some b) c #[] c)) := hJ [] W _ none h0 (World.grownBy_alloc _ _ _) (fun r e => by cases e)
  gi_loopw [4] (fun _ wr => ∃ (seen : Array Nat) (ps : List Ld), IT wr b W.heap.size c seen ∧ ME wr b es c ∧ Hid (Col es seen ps) ∧ J ps wr)
    (fun _ wr => wr.rangeLeft b W.heap.size)
  case atStart =>
    exact ⟨#[], [], hI0, hM0, Lib.hid (Col.start es), hJ0⟩
  case round =>
    obtain ⟨seen, ps, hI, hMr, hC, hJs⟩ := hrel
    gi_wp2_with (first
      | (gi_at_next; refine wpListIn_next_me _ rfl _ rfl b W.heap.size c es seen rfl hI hMr ?_ ?_)
      | gi_in)
    · intro h0
      gi_wp2
      go_end0
      exact ⟨⟨_, rfl⟩, ps, hC.out.done hM.2 (by rw [h0]; rfl) hL, hJs⟩
    · intro e he w2 hI2 hM2 hg2 hen
      have he : e ∈ (leftOf es seen).toList := by simpa using he
      obtain ⟨x, hx, hxe⟩ : ∃ x, x ∈ L ∧ x.val = e.val := by
        have : e.val ∈ es.toList.map (·.val) := List.mem_map.2 ⟨e, (mem_left he).1, rfl⟩
        rw [hL] at this
        exact List.mem_map.1 this
      have hC2 := Lib.hid (hC.out.step he hxe.symm)
      have hsz := Lib.hid (left_shrinks es seen e he)
      have hW2 := Lib.hid (hI.left hMr)
      have hJ2 : J ps w2 := hJ ps wr w2 (some W.heap.size) hJs hg2 (fun r e => by cases e; exact ⟨Nat.le_refl _, _, hI, rfl⟩)
      have hJ3 : J ps (w2.alloc (.cells #[.int .i64 x.b, .int .i64 x.r, .int .i64 x.t, .string x.nm, .int .i64 x.wt, .int .i64 x.cl, .int .i64 x.pt] 37)) := hJ ps w2 _ none hJ2 (World.grownBy_alloc _ _ _) (fun r e => by cases e)
      have hI3 := hI2.keep (KeepsWalks.alloc w2 (.cells #[.int .i64 x.b, .int .i64 x.r, .int .i64 x.t, .string x.nm, .int .i64 x.wt, .int .i64 x.cl, .int .i64 x.pt] 37))
      have hM3 := hM2.keep (KeepsWalks.alloc w2 (.cells #[.int .i64 x.b, .int .i64 x.r, .int .i64 x.t, .string x.nm, .int .i64 x.wt, .int .i64 x.cl, .int .i64 x.pt] 37))
      obtain ⟨fn, tmps, assign, body, hy, hR⟩ := hY ps x _ hJ3 (hC.out.len he)
      rw [← hxe] at hen ⊢
      unfold Ld.val at hen hy ⊢
      have HI3 := Lib.hid (And.intro hI3 hM3)
      clear hI hMr hJs hI2 hM2 hg2 hJ2 hJ3 he hxe hC hI3 hM3
      gi_wp2
      refine hR.mono ?_
      rintro e2 W3 ⟨rfl, hJ4, hk4⟩
      gi_wp2
      have hI4 := HI3.out.1.keep hk4
      have hM4 := HI3.out.2.keep hk4
      go_roundw
      case rel => exact ⟨_, ps ++ [x], hI4, hM4, hC2, hJ4⟩
      case measure => rw [hI4.left hM4, hW2.out]; exact hsz.out
end Go.Proofs.YtllaahdbngjigaaDoor
