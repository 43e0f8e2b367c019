/-
  slices.AppendSeq, slices.Collect of loads, against an iterator that gives them.
-/
import Derived.Test.YtllaahdbngjigaaDoorVal
import Derived.Test.YtllaahdbngjigaaDoorMSby
import Derived.Maps.AppendAt
import Derived.Shelf.SlIter.Collect
namespace Go.Proofs.YtllaahdbngjigaaDoor
open Go Go.RowKit Go.Maps Go.MapKept Go.Proofs
set_option linter.unusedVariables false
set_option linter.unusedSimpArgs false

theorem vals_gives (F : Fence) (n : Nat) (hf : F.fn 73) (hro : F.round = none) (hn : 1 ≤ n) (Bm b : Nat) (es : Array MapEntry) (c : Nat) (L : List Ld) (w : World) (hBm : Bm < w.heap.size)
    (hm : w.cell? ⟨Bm, 0, none⟩ = some (.map (some b))) (hM : ME w b es c) (hL : es.toList.map (·.val) = L.map Ld.val) :
    SeqGives F n Tryd.prog 73 #[.pointer (some ⟨Bm, 0, none⟩)] Ld.val (fun xs => xs.Perm L) es.size w := fun l J W hW hJ hY h0 =>
  vals1_in F n hf hro hn l Bm b es c L J hY W hJ ((hW.cell (p := ⟨Bm, 0, none⟩) hBm).trans hm) ⟨(hW.block b (lt_of_block hM.1)).trans hM.1, hM.2⟩ hL h0

/-- The two codes of the first range over a function. -/
def rfAB : Code → Option (Code × Code)
  | .rangeFunc _ _ a b => some (a, b)
  | .seq a b => match rfAB a with
    | some c => some c
    | none => rfAB b
  | .block _ c => rfAB c
  | .scope c => rfAB c
  | _ => none
noncomputable def apAssign : Code := ((Tryd.f95.body.bind rfAB).map (·.1)).getD .skip
noncomputable def apBody : Code := ((Tryd.f95.body.bind rfAB).map (·.2)).getD .skip
noncomputable def apRec (fn : FuncId) (sv : Value) (Bs D : Nat) (st : LoopState) (pend : Option Code) : Loop :=
  { state := st, pending := pend, fn, tmps := #[.slice none 0 0, sv, .pointer (some ⟨Bs, 0, none⟩), undef, .slice none 0 0, undef, sv, undef, undef, undef, undef, undef, undef], params := #[7], assign := apAssign, body := apBody, defers := D }

/-- Between two rounds. -/
structure ApAt (w0 : World) (fn : FuncId) (sv : Value) (Bs l D : Nat) (ss : List Ld) (W : World) : Prop where
  box : ∃ v, W.heap[Bs]? = some (.cells #[v] 28 (0, 0)) ∧ W.ownsRow w0.heap.size 37 7 v ss.length (ss.flatMap Ld.cells)
  L : W.heap[l]? = some (.loop (apRec fn sv Bs D .ready none))
  K : W.heap[D]? = some (.deferred (some []))
  below : Below w0.heap.size w0 W
theorem ap_abides (w0 : World) (fn : FuncId) (sv : Value) (Bs l D B : Nat) (hB : w0.heap.size ≤ B) : AbidesFrom B (ApAt w0 fn sv Bs l D) := fun s W W' row h hg hrow => by
  have hrow' : ∀ r, row = some r → ∃ o : Obj, W.heap[r]? = some o ∧ o.isWalk = true := fun r e => (hrow r e).2
  obtain ⟨v, hv, hr⟩ := h.box
  exact ⟨⟨v, (grownBy_keeps hg hrow' hv rfl).trans hv, ownsRow_abides_a hr hg hrow'⟩, (grownBy_keeps hg hrow' h.L rfl).trans h.L, (grownBy_keeps hg hrow' h.K rfl).trans h.K,
    h.below.grown hg h.below.size (fun k e => Nat.le_trans hB (hrow k e).1)⟩

set_option maxRecDepth 100000 in
set_option maxHeartbeats 4000000 in
theorem apYield (F : Fence) (m : Nat) (w0 : World) (fn : FuncId) (hfn : F.fn fn) (sv : Value) (Bs l D : Nat) (hBl : Bs ≠ l) (hDl : D ≠ l) (hDB : D ≠ Bs) (h0B : w0.heap.size ≤ Bs) (h0l : w0.heap.size ≤ l)
    (N : Nat) (hN : N ≤ 100) (ss : List Ld) (x : Ld) (W : World) (h : ApAt w0 fn sv Bs l D ss W) (hlen : ss.length < N) :
    YieldAt F m Tryd.prog l #[Ld.val x] W fun e W' => e = .returned (.bool true) ∧ ApAt w0 fn sv Bs l D (ss ++ [x]) W' ∧ KeepsWalks W W' := by
  have hne : (28 : TypeId) ≠ 37 := by decide
  obtain ⟨i0, hi, hz0, hz1, hz2⟩ := info_parts infoLd
  obtain ⟨v, hv, hrow⟩ := h.box
  refine ⟨fn, #[.slice none 0 0, sv, .pointer (some ⟨Bs, 0, none⟩), undef, .slice none 0 0, undef, sv, Ld.val x, undef, undef, undef, undef, undef], apAssign, apBody, by simpa [apRec] using run_yield (P := Tryd.prog) (args := #[Ld.val x]) h.L rfl, roundIn_of_wpIn hfn ?_⟩
  have hl : l < W.heap.size := (Array.getElem?_eq_some_iff.1 h.L).1
  have hBlt : Bs < W.heap.size := (Array.getElem?_eq_some_iff.1 hv).1
  have hDlt : D < W.heap.size := (Array.getElem?_eq_some_iff.1 h.K).1
  have hbs := h.below.size
  obtain ⟨W1, hW1⟩ : ∃ W1, W1 = W.alloc (.cells #[.int .i64 x.b, .int .i64 x.r, .int .i64 x.t, .string x.nm, .int .i64 x.wt, .int .i64 x.cl, .int .i64 x.pt] 37) := ⟨_, rfl⟩
  have hs1 : W1.heap.size = W.heap.size + 1 := by rw [hW1]; simp
  have hold1 : ∀ k, k < W.heap.size → W1.heap[k]? = W.heap[k]? := fun k hk => by rw [hW1]; exact Below.heap_alloc _ _ k hk
  have hq1 : W1.heap[W.heap.size]? = some (.cells #[.int .i64 x.b, .int .i64 x.r, .int .i64 x.t, .string x.nm, .int .i64 x.wt, .int .i64 x.cl, .int .i64 x.pt] 37 (0, 0)) := by rw [hW1]; exact heap_alloc_new W _
  have hL1 : W1.heap[l]? = some (.loop (apRec fn sv Bs D .ready none)) := (hold1 l hl).trans h.L
  have hbr := run_beginRound (P := Tryd.prog) hL1 rfl
  obtain ⟨W3, hW3⟩ : ∃ W3, W1.putObj l (.loop { apRec fn sv Bs D .ready none with state := .busy }) = W3 := ⟨_, rfl⟩
  rw [hW3] at hbr
  rw [hW1] at hbr
  have hg3 : W1.grownBy W3 (some l) := by rw [← hW3]; exact grownBy_putObj_a _ _ _
  have hs3 : W3.heap.size = W.heap.size + 1 := by rw [← hW3]; simp [hs1]
  have hq3 : LdAt W3 W.heap.size x := by
    refine LdAt.of_block (t := 37) (fz := (0, 0)) ?_
    rw [← hW3]; exact (World.putObj_heap_other (by omega)).trans hq1
  have hv3 : W3.heap[Bs]? = some (.cells #[v] 28 (0, 0)) := by rw [← hW3]; exact (World.putObj_heap_other hBl).trans ((hold1 Bs hBlt).trans hv)
  have hK3 : W3.heap[D]? = some (.deferred (some [])) := by rw [← hW3]; exact (World.putObj_heap_other hDl).trans ((hold1 D hDlt).trans h.K)
  have hL3 : W3.heap[l]? = some (.loop { apRec fn sv Bs D .ready none with state := .busy }) := by rw [← hW3]; exact World.putObj_heap_same (by omega)
  have hrow1 : W1.ownsRow w0.heap.size 37 7 v ss.length (ss.flatMap Ld.cells) := by rw [hW1]; exact hrow.alloc _
  have hrow3 : W3.ownsRow w0.heap.size 37 7 v ss.length (ss.flatMap Ld.cells) := hrow1.kept hg3 (ownsRow_ne_a hrow1 hL1 (fun cur e => by cases e))
  have hb1 : Below w0.heap.size w0 W1 := by rw [hW1]; exact h.below.alloc hbs _
  have hb3 : Below w0.heap.size w0 W3 := hb1.grown hg3 hb1.size (fun k e => by cases e; exact h0l)
  have hk3 : KeepsWalks W W3 := (show KeepsWalks W W1 by rw [hW1]; exact KeepsWalks.alloc _ _).trans (by rw [← hW3]; exact KeepsWalks.putObj _ hL1 rfl)
  obtain ⟨hc3, hf3⟩ := cell_of_box_a hv3
  obtain ⟨q0, q1, q2, q3, q4, q5, q6⟩ := hq3
  have ne_of : ∀ {j : Nat} {o : Obj}, W3.heap[j]? = some o → (∀ cur, o ≠ .cells cur 37 (0, 0)) → some j ≠ v.ownBlock := fun hj hno => by
    rcases ownsRow_ne_a hrow3 hj hno with e | e
    · rw [e]; simp
    · exact fun e' => e e'.symm
  have HX := Lib.hid (ld_one x)
  have h1m : ss.length + 1 ≤ maxLen := by unfold maxLen; omega
  have h2m : (ss.length + 1) * 64 ≤ 140737488355328 := by omega
  have h3m : w0.heap.size ≤ (W3.alloc (.cells #[.int .i64 x.b, .int .i64 x.r, .int .i64 x.t, .string x.nm, .int .i64 x.wt, .int .i64 x.cl, .int .i64 x.pt] 37)).heap.size := by simp; omega
  have HM := Lib.hid (And.intro hb3 (And.intro hk3 (And.intro hL3 (And.intro hK3 hv3))))
  have HNe := Lib.hid (And.intro (ne_of hL3 (fun cur e => by cases e)) (And.intro (ne_of hK3 (fun cur e => by cases e)) (ne_of hv3 (fun cur e => by cases e))))
  clear hW1 hW3 ne_of hold1 hK3 hL3 hv3 hb3 hk3 hq1 hL1 hrow1 hb1 hg3 hv hrow h hne hs1
  have HNC := Lib.hid (show ∀ j u, ([.int .i64 x.b, .int .i64 x.r, .int .i64 x.t, .string x.nm, .int .i64 x.wt, .int .i64 x.cl, .int .i64 x.pt] : List Value)[j]? = some u → (W3.alloc (.cells #[.int .i64 x.b, .int .i64 x.r, .int .i64 x.t, .string x.nm, .int .i64 x.wt, .int .i64 x.cl, .int .i64 x.pt] 37)).cell? ((⟨W.heap.size + 1, 0, none⟩ : Addr).add j) = some u from by
    rw [← hs3]; exact new_cells W3 #[.int .i64 x.b, .int .i64 x.r, .int .i64 x.t, .string x.nm, .int .i64 x.wt, .int .i64 x.cl, .int .i64 x.pt] 37)
  have HRow := Lib.hid hrow3
  clear hrow3
  simp only [apAssign, apBody, Tryd.f95, rfAB, Option.bind_some, Option.map_some, Option.getD_some]
  unfold Ld.val
  gi_wp2_with (first
    | (gi_at_builtin; refine wpListIn_append_own _ rfl _ _ 28 rfl w0.heap.size 37 i0 zLd.val 7 64 Tryd.underlying28 hi hz0 hz1 hz2 rfl (by decide) _ _ _ rfl (HRow.out.alloc _) ⟨W.heap.size + 1, 0, none⟩ 1 1 [.int .i64 x.b, .int .i64 x.r, .int .i64 x.t, .string x.nm, .int .i64 x.wt, .int .i64 x.cl, .int .i64 x.pt] rfl rfl HNC.out HX.out h1m h2m h3m ?_; intro v' w5 hown' hg5 hnil5
       obtain ⟨g', cap', cur', rfl, hbase', hgb', hr1, hr2, hr3, hr4⟩ : ∃ g' cap' cur', v' = .slice (some ⟨g', 0, none⟩) (ss.length + 1) cap' ∧ w0.heap.size ≤ g' ∧ w5.heap[g']? = some (.cells cur' 37 (0, 0)) ∧ ss.length + 1 ≤ cap' ∧ cap' ≤ maxLen ∧ cur'.size = cap' * 7 ∧ cur'.toList.take ((ss.length + 1) * 7) = ss.flatMap Ld.cells ++ [.int .i64 x.b, .int .i64 x.r, .int .i64 x.t, .string x.nm, .int .i64 x.wt, .int .i64 x.cl, .int .i64 x.pt] := by
         rcases hown'.2 with ⟨_, h0⟩ | h'
         · exact absurd h0 (by omega)
         · exact h'
       have hv5 : w5.heap[Bs]? = some (.cells #[v] 28 (0, 0)) := (hg5.block Bs (by simp; omega) HNe.out.2.2).trans ((Below.heap_alloc _ _ Bs (by omega)).trans HM.out.2.2.2.2)
       obtain ⟨hc5, hf5⟩ := cell_of_box_a hv5
       have HV5 := Lib.hid (And.intro hown' (And.intro hg5 hv5))
       clear hown' hg5 hnil5 hv5 hgb' hr4 hr3
       go_frame)
    | (rw [Oper.semAt_eq _ _ _ (fun c h => by cases h)]; go_simp; try go_bits))
  obtain ⟨hb3, hk3, hL3, hK3, hv3⟩ := HM.out
  obtain ⟨hown', hg5, hv5⟩ := HV5.out
  have hL5 : w5.heap[l]? = some (.loop { apRec fn sv Bs D .ready none with state := .busy }) := (hg5.block l (by simp; omega) HNe.out.1).trans ((Below.heap_alloc _ _ l (by omega)).trans hL3)
  have hK5 : w5.heap[D]? = some (.deferred (some [])) := (hg5.block D (by simp; omega) HNe.out.2.1).trans ((Below.heap_alloc _ _ D (by omega)).trans hK3)
  have hs5 : W3.heap.size ≤ w5.heap.size := by have := hg5.size; simp at this; omega
  obtain ⟨w6, hw6⟩ : ∃ w6, w5.setCell ⟨Bs, 0, none⟩ (.slice (some ⟨g', 0, none⟩) (ss.length + 1) cap') = w6 := ⟨_, rfl⟩
  rw [hw6]
  have hg6 : w5.grownBy w6 (some Bs) := by rw [← hw6]; exact grownBy_setCell0_a _ _ _
  have hv6 : w6.heap[Bs]? = some (.cells #[.slice (some ⟨g', 0, none⟩) (ss.length + 1) cap'] 28 (0, 0)) := by rw [← hw6]; exact heap_setCell_box_a _ hv5
  have hL6 : w6.heap[l]? = some (.loop { apRec fn sv Bs D .ready none with state := .busy }) := (hg6.block l (by omega) (fun e => hBl (by cases e; rfl))).trans hL5
  have hK6 : w6.heap[D]? = some (.deferred (some [])) := (hg6.block D (by omega) (fun e => hDB (by cases e; rfl))).trans hK5
  have hrow6 := hown'.kept hg6 (ownsRow_ne_a hown' hv5 (fun cur e => by cases e))
  have hbA : Below w0.heap.size w0 (W3.alloc (.cells #[.int .i64 x.b, .int .i64 x.r, .int .i64 x.t, .string x.nm, .int .i64 x.wt, .int .i64 x.cl, .int .i64 x.pt] 37)) := hb3.alloc hb3.size _
  have hb5 : Below w0.heap.size w0 w5 := hbA.grown hg5 hbA.size (fun k e => (HRow.out.lt k e).1)
  have hb6 : Below w0.heap.size w0 w6 := hb5.grown hg6 hb5.size (fun k e => by cases e; exact h0B)
  have hk6 : KeepsWalks W w6 := ((hk3.trans (KeepsWalks.alloc _ _)).trans (KeepsWalks.of_grownBy hg5 (ownsRow_not_walk_a (HRow.out.alloc _)))).trans (by rw [← hw6]; exact KeepsWalks.setCell _ _ _)
  clear hw6
  refine ⟨_, _, run_endRound none hL6, rfl, ⟨⟨_, (World.putObj_heap_other hBl).trans hv6, ?_⟩, World.putObj_heap_same (by have := (Array.getElem?_eq_some_iff.1 hL6).1; exact this), (World.putObj_heap_other hDl).trans hK6, hb6.grown (grownBy_putObj_a _ _ _) hb6.size (fun k e => by cases e; exact h0l)⟩, hk6.trans (KeepsWalks.putObj _ hL6 rfl)⟩
  have := hrow6.kept (grownBy_putObj_a w6 l (.loop { { apRec fn sv Bs D .ready none with state := .busy } with state := if (none : Option Code).isNone then .ready else .done, pending := none })) (ownsRow_ne_a hrow6 hL6 (fun cur e => by cases e))
  simpa [Ld.cells] using this

set_option maxRecDepth 100000 in
set_option maxHeartbeats 4000000 in
theorem appendSeq_in (F : Fence) (n : Nat) (h11 : F.fn 95) (hro : F.round = none) (hn : 2 ≤ n) (g : Nat) (lb : Array Value) (hFg : F.fn g) (eg : ∀ args w, (callFunc g args).run Tryd.prog w = .ok (.enter g args) w)
    (S : List Ld → Prop) (N : Nat) (hN : N ≤ 100) (w : World) (hseq : SeqGives F (n - 1) Tryd.prog g lb Ld.val S N w) :
    CallsIn F n Tryd.prog 95 #[.slice none 0 0, .func (.func g) #[] lb] w fun e w' => ∃ (v : Value) (ss : List Ld), e = .returned v ∧ S ss ∧ w'.ownsRow w.heap.size 37 7 v ss.length (ss.flatMap Ld.cells) ∧ Below w.heap.size w w' := by
  have h1 : 1 ≤ n := by omega
  refine callsIn_of_wp_marks Tryd.func95 rfl h11 ?_ hro
  simp only [Tryd.ntmps95, List.size_toArray, List.length_cons, List.length_nil, Nat.reduceAdd, Nat.reduceSub, Array.replicate_succ, Array.replicate_zero, List.push_toArray, List.append_toArray, List.nil_append, List.cons_append]
  gi_wp2
  refine wpIn_rangeFunc ?_
  intro fn hfn
  rw [hro]
  obtain ⟨W0, hW0⟩ : ∃ W0, w.alloc (.cells #[.slice none 0 0] 28) = W0 := ⟨_, rfl⟩
  have hs0 : W0.heap.size = w.heap.size + 1 := by rw [← hW0]; simp
  have hv0 : W0.heap[w.heap.size]? = some (.cells #[.slice none 0 0] 28 (0, 0)) := by rw [← hW0]; exact World.alloc_heap_new w _
  have hb0 : Below w.heap.size w W0 := by rw [← hW0]; exact (Below.refl _ w).alloc (Nat.le_refl _) _
  rw [hW0]
  obtain ⟨W1, hW1⟩ : ∃ W1, (W0.alloc (.deferred (some []))).alloc (.loop (apRec fn (.func (.func g) #[] lb) w.heap.size W0.heap.size .ready none)) = W1 := ⟨_, rfl⟩
  have hold : ∀ k, k < W0.heap.size → W1.heap[k]? = W0.heap[k]? := fun k hk => by
    rw [← hW1]; exact (Below.heap_alloc _ _ k (by simp; omega)).trans (Below.heap_alloc _ _ k hk)
  have hb1 : Below w.heap.size w W1 := by rw [← hW1]; exact (hb0.alloc hb0.size _).alloc (by have := hb0.size; simp; omega) _
  have hs1 : W1.heap.size = W0.heap.size + 2 := by rw [← hW1]; simp
  have hM : ApAt w fn (.func (.func g) #[] lb) w.heap.size (W0.heap.size + 1) W0.heap.size [] W1 :=
    ⟨⟨_, (hold w.heap.size (by omega)).trans hv0, ⟨rfl, .inl ⟨rfl, rfl⟩⟩⟩,
     by rw [← hW1]; have := World.alloc_heap_new (W0.alloc (.deferred (some []))) (.loop (apRec fn (.func (.func g) #[] lb) w.heap.size W0.heap.size .ready none)); rwa [World.size_alloc] at this,
     by rw [← hW1]; exact (Below.heap_alloc _ _ _ (by simp)).trans (World.alloc_heap_new W0 _), hb1⟩
  refine ⟨W0.heap.size + 1, [{ target := .collected W0.heap.size, args := #[] }], W1, { target := .fn (.func g) lb, args := #[.func (.yield (W0.heap.size + 1)) #[] #[]] }, W1, g,
    #[.func (.yield (W0.heap.size + 1)) #[] #[]] ++ lb, W1, ?_, ?_, ?_, ?_, fun _ => h1, ?_⟩
  · rw [← hW1]; exact run_enterLoop_outer _ _ _ _ _
  · simp [resolve, go_sem]
  · intro f' hf'; simp [Target.leads] at hf'; subst hf'; exact hFg
  · simp [invoke, go_sem, eg]
  · refine (hseq (W0.heap.size + 1) (ApAt w fn (.func (.func g) #[] lb) w.heap.size (W0.heap.size + 1) W0.heap.size) W1 hb1 (ap_abides _ _ _ _ _ _ _ hb1.size)
      (fun pre x W hJ hl => apYield F (n - 1 - 1) w fn hfn _ w.heap.size (W0.heap.size + 1) W0.heap.size (by omega) (by omega) (by omega) (Nat.le_refl _) (by omega) N hN pre x W hJ hl) hM).mono ?_
    rintro e W2 ⟨⟨v0, rfl⟩, ss, hS, h2⟩
    obtain ⟨v, hv, hrow⟩ := h2.box
    have hend := run_endLoop (P := Tryd.prog) h2.L (by simp [apRec])
    obtain ⟨W3, hW3⟩ : ∃ W3, W2.putObj (W0.heap.size + 1) (.loop { apRec fn (.func (.func g) #[] lb) w.heap.size W0.heap.size .ready none with state := .exhausted }) = W3 := ⟨_, rfl⟩
    rw [hW3] at hend
    have hg3 : W2.grownBy W3 (some (W0.heap.size + 1)) := by rw [← hW3]; exact grownBy_putObj_a _ _ _
    have hv3 : W3.heap[w.heap.size]? = some (.cells #[v] 28 (0, 0)) := by rw [← hW3]; exact (World.putObj_heap_other (by omega)).trans hv
    have hK3 : W3.heap[W0.heap.size]? = some (.deferred (some [])) := by rw [← hW3]; exact (World.putObj_heap_other (by omega)).trans h2.K
    have hrow3 := hrow.kept hg3 (ownsRow_ne_a hrow h2.L (fun cur e => by cases e))
    have hb3 : Below w.heap.size w W3 := h2.below.grown hg3 h2.below.size (fun k e => by cases e; omega)
    obtain ⟨hc3, hf3⟩ := cell_of_box_a hv3
    clear hW3
    refine ⟨none, W3, hend, ?_⟩
    gi_wp2
    rw [← hs0]
    refine ⟨by simp, .inl ⟨_, _, rfl, run_takeDeferred hK3, ?_⟩⟩
    exact ⟨_, results_tmp rfl _ _ _, v, ss, rfl, hS, hrow3.kept (grownBy_putObj_a _ _ _) (ownsRow_ne_a hrow3 hK3 (fun cur e => by cases e)), hb3.grown (grownBy_putObj_a _ _ _) hb3.size (fun k e => by cases e; omega)⟩

set_option maxHeartbeats 1000000 in
theorem collect_in (F : Fence) (n : Nat) (h8 : F.fn 71) (h11 : F.fn 95) (hro : F.round = none) (hn : 3 ≤ n) (g : Nat) (lb : Array Value) (hFg : F.fn g) (eg : ∀ args w, (callFunc g args).run Tryd.prog w = .ok (.enter g args) w)
    (S : List Ld → Prop) (N : Nat) (hN : N ≤ 100) (w : World) (hseq : SeqGives F (n - 1 - 1) Tryd.prog g lb Ld.val S N w) :
    CallsIn F n Tryd.prog 71 #[.func (.func g) #[] lb] w fun e w' => ∃ (v : Value) (ss : List Ld), e = .returned v ∧ S ss ∧ w'.ownsRow w.heap.size 37 7 v ss.length (ss.flatMap Ld.cells) ∧ Below w.heap.size w w' := by
  have h1 : 1 ≤ n := by omega
  have e11 : ∀ args w, (callFunc 95 args).run Tryd.prog w = .ok (.enter 95 args) w := enters_of Tryd.func95 (by kernel_rfl) rfl
  refine callsIn_of_wp Tryd.func71 rfl h8 ?_ hro
  simp only [Tryd.ntmps71, List.size_toArray, List.length_cons, List.length_nil, Nat.reduceAdd, Nat.reduceSub, Array.replicate_succ, Array.replicate_zero, List.push_toArray, List.append_toArray, List.nil_append, List.cons_append]
  gi_wp2_with (gi_at_call 95; refine (appendSeq_in F (n - 1) h11 hro (by omega) g lb hFg eg S N hN _ hseq).mono ?_; rintro e w' ⟨v, ss, rfl, hS, hrow, hb⟩)
  go_ret
  exact ⟨v, ss, rfl, hS, hrow, hb⟩
end Go.Proofs.YtllaahdbngjigaaDoor
