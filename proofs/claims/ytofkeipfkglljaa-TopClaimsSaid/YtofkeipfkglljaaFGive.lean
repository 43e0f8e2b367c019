/-
  File.Recover's closure.
-/
import Derived.Test.YtofkeipfkglljaaFClaim2
namespace Go.Proofs.Ytofkeipfkglljaa
open Go Go.RowKit
set_option linter.unusedVariables false
set_option linter.unusedSimpArgs false

theorem Try.infoEn : (Try.prog.info? 42).map (fun i => (i.zero, i.size, i.bytes)) = some (some (.agg #[.string ⟨#[]⟩, .string ⟨#[]⟩, .int .i64 0]), 3, 40) := by kernel_rfl
theorem one_en (p : En) : ∀ u ∈ p.cells, u.oneCell' = true := by
  intro u hu
  simp only [En.cells, List.mem_cons, List.not_mem_nil, or_false] at hu
  rcases hu with rfl | rfl | rfl <;> rfl

/-- How the file, what is left to come, and the entries lie, while something comes back. -/
structure GEnv (w0 : World) (b : Nat) (v : Value) (bs bg : Nat) (w : World) (f : Fi) (vg : Value) (r : RS) : Prop where
  fi : IsFi w b v f
  cs : w.cell? ⟨bs, 0, none⟩ = some (.int .i64 r.s)
  cg : w.cell? ⟨bg, 0, none⟩ = some vg
  fs : w.frozen? ⟨bs, 0, none⟩ = false
  fg : w.frozen? ⟨bg, 0, none⟩ = false
  row : w.ownsRow 0 42 3 vg r.D.length (r.D.flatMap En.cells)
  l0 : b < bs
  l1 : ∀ k, v.ownBlock = some k → k < bs
  l2 : bs < bg
  l3 : ∀ k, vg.ownBlock = some k → bg < k
  l4 : bg < w.heap.size
  lw : w0.heap.size = bs
  touch : Touch (Fp b v) w0 w
  s0 : 0 ≤ r.s
  s1 : r.s ≤ 1099511627776

theorem GEnv.later {w0 : World} {b bs bg : Nat} {v : Value} {w w' : World} {f : Fi} {vg : Value} {r : RS} (h : GEnv w0 b v bs bg w f vg r) (hx : Below w.heap.size w w') : GEnv w0 b v bs bg w' f vg r := by
  obtain ⟨fi, cs, cg, fs, fg, row, l0, l1, l2, l3, l4, lw, touch, s0, s1⟩ := h
  have hs := hx.size
  refine ⟨fi.below hx, cell_later hx cs, cell_later hx cg, ?_, ?_, ?_, l0, l1, l2, l3, by omega, lw, ?_, s0, s1⟩
  · rw [hx.frozen (by show bs < _; omega)]; exact fs
  · rw [hx.frozen (by show bg < _; omega)]; exact fg
  · exact own_touch row (Touch.of_below (S := fun _ => False) hx) (fun _ _ h => h)
  · exact touch.trans (Touch.of_below (S := fun _ => False) hx) (fun _ e => e.elim)
theorem GEnv.drew {w0 : World} {b bs bg : Nat} {v : Value} {w : World} {f : Fi} {vg : Value} {r : RS} (h : GEnv w0 b v bs bg w f vg r) : GEnv w0 b v bs bg w.drew f vg r := h.later ((Below.refl w.heap.size w).drew)

/-- An entry is appended, the slice written, and so much less is left. -/
theorem GEnv.app {w0 : World} {b bs bg : Nat} {v : Value} {w w1 : World} {f : Fi} {vg v' : Value} {r : RS} (h : GEnv w0 b v bs bg w f vg r) (d : En) (n : Int) (hn : 0 ≤ n ∧ n ≤ r.s)
    (hx : Touch (fun k => vg.ownBlock = some k) w w1) (hr : w1.ownsRow 0 42 3 v' (r.D.length + 1) (r.D.flatMap En.cells ++ d.cells)) (hv : ∀ k, v'.ownBlock = some k → vg.ownBlock = some k ∨ w.heap.size ≤ k) :
    GEnv w0 b v bs bg ((w1.setCell ⟨bg, 0, none⟩ v').setCell ⟨bs, 0, none⟩ (.int .i64 (r.s - n))) f v' ⟨r.s - n, r.D ++ [d]⟩ := by
  obtain ⟨fi, cs, cg, fs, fg, row, l0, l1, l2, l3, l4, lw, touch, s0, s1⟩ := h
  have hs := hx.size
  have hvb : ∀ k, v'.ownBlock = some k → bg < k := fun k e => (hv k e).elim (l3 k) (fun e => by omega)
  have t2 : Touch (fun k => vg.ownBlock = some k ∨ k = bg ∨ k = bs) w ((w1.setCell ⟨bg, 0, none⟩ v').setCell ⟨bs, 0, none⟩ (.int .i64 (r.s - n))) :=
    ((hx.mono (fun x e => .inl e)).setCell (p := ⟨bg, 0, none⟩) (.inl (.inr (.inl rfl))) _).setCell (p := ⟨bs, 0, none⟩) (.inl (.inr (.inr rfl))) _
  have q1 : w1.heap[bg]? = w.heap[bg]? := hx.block bg l4 (fun e => by have := l3 bg e; omega)
  have q2 : w1.heap[bs]? = w.heap[bs]? := hx.block bs (by omega) (fun e => by have := l3 bs e; omega)
  have c1 : w1.cell? ⟨bg, 0, none⟩ = some vg := (heap_cell q1).trans cg
  have c2 : w1.cell? ⟨bs, 0, none⟩ = some (.int .i64 r.s) := (heap_cell q2).trans cs
  have e1 : w1.frozen? ⟨bg, 0, none⟩ = false := (World.frozen?_of_block q1).trans fg
  have e2 : w1.frozen? ⟨bs, 0, none⟩ = false := (World.frozen?_of_block q2).trans fs
  refine ⟨?_, ?_, ?_, ?_, ?_, ?_, l0, l1, l2, hvb, ?_, lw, ?_, by show 0 ≤ r.s - n; omega, by show r.s - n ≤ _; omega⟩
  · refine fi.kept t2 ?_ ?_
    · rintro (e | e | e)
      · have := l3 b e; omega
      · omega
      · omega
    · rintro k hk (e | e | e)
      · have := l3 k e; have := l1 k hk; omega
      · have := l1 k hk; omega
      · have := l1 k hk; omega
  · have c3 : (w1.setCell ⟨bg, 0, none⟩ v').cell? ⟨bs, 0, none⟩ = some (.int .i64 r.s) := (heap_cell (Below.heap_setCell _ _ _ _ (by show bs ≠ bg; omega))).trans c2
    simp [go_sem, c3, e2]
  · have c3 : (w1.setCell ⟨bg, 0, none⟩ v').cell? ⟨bg, 0, none⟩ = some v' := by simp [go_sem, c1, e1]
    exact (heap_cell (Below.heap_setCell _ _ _ _ (by show bg ≠ bs; omega))).trans c3
  · have c3 : (w1.setCell ⟨bg, 0, none⟩ v').frozen? ⟨bs, 0, none⟩ = false := (World.frozen?_of_block (Below.heap_setCell _ _ _ _ (by show bs ≠ bg; omega))).trans e2
    have c4 : (w1.setCell ⟨bg, 0, none⟩ v').cell? ⟨bs, 0, none⟩ = some (.int .i64 r.s) := (heap_cell (Below.heap_setCell _ _ _ _ (by show bs ≠ bg; omega))).trans c2
    simp [go_sem, c4, c3]
  · have c3 : (w1.setCell ⟨bg, 0, none⟩ v').frozen? ⟨bg, 0, none⟩ = false := by simp [go_sem, c1, e1]
    exact (World.frozen?_of_block (Below.heap_setCell _ _ _ _ (by show bg ≠ bs; omega))).trans c3
  · have e3 : (r.D ++ [d]).length = r.D.length + 1 := by simp
    have e4 : (r.D ++ [d]).flatMap En.cells = r.D.flatMap En.cells ++ d.cells := by simp
    show World.ownsRow _ 0 _ 3 v' (r.D ++ [d]).length _
    rw [e3, e4]
    exact ownsRow_setCell_other (ownsRow_setCell_other hr (fun e => by have := hvb bg e; omega) _) (fun e => by have := hvb bs e; omega) _
  · simp [World.setCell]; omega
  · refine touch.trans t2 ?_
    rintro x (e | e | e)
    · have := l3 x e; exact .inr (by omega)
    · exact .inr (by omega)
    · exact .inr (by omega)

theorem GEnv.cells4 {w0 : World} {b bs bg : Nat} {v : Value} {w w4 : World} {f : Fi} {vg : Value} {r : RS} (h : GEnv w0 b v bs bg w f vg r) (hx : Touch (fun k => vg.ownBlock = some k) w w4) :
    w4.cell? ⟨bg, 0, none⟩ = some vg ∧ w4.cell? ⟨bs, 0, none⟩ = some (.int .i64 r.s) ∧ w4.frozen? ⟨bg, 0, none⟩ = false ∧ w4.frozen? ⟨bs, 0, none⟩ = false ∧ bs ≠ bg := by
  have q1 : w4.heap[bg]? = w.heap[bg]? := hx.block bg h.l4 (fun e => by have := h.l3 bg e; omega)
  have q2 : w4.heap[bs]? = w.heap[bs]? := hx.block bs (by have := h.l2; have := h.l4; omega) (fun e => by have := h.l3 bs e; have := h.l2; omega)
  exact ⟨(heap_cell q1).trans h.cg, (heap_cell q2).trans h.cs, (World.frozen?_of_block q1).trans h.fg, (World.frozen?_of_block q2).trans h.fs, by have := h.l2; omega⟩

set_option maxRecDepth 100000 in
set_option maxHeartbeats 4000000 in
theorem give_any (w0 : World) (b : Nat) (v : Value) (bs bg : Nat) (w : World) (f : Fi) (vg : Value) (r : RS) (t : ByteArray) (most : Int) (h : GEnv w0 b v bs bg w f vg r) (hm : 0 ≤ most) (hD : r.D.length ≤ 200) :
    Calls Try.prog 19 #[.string t, .int .i64 most, .pointer (some ⟨bs, 0, none⟩), .pointer (some ⟨bg, 0, none⟩)] w fun e w' => ∃ v', e = .returned (.int .i64 (giveN most r)) ∧ GEnv w0 b v bs bg w' f v' (giveS t most r) := by
  have H := Lib.hid h
  have k1 := h.cs
  have k2 := h.cg
  have f1 := h.fs
  have f2 := h.fg
  obtain ⟨N, hN⟩ : ∃ N, N = min r.s most := ⟨_, rfl⟩
  have HG := Lib.hid (show giveN most r = N by rw [hN]; rfl)
  have hN2 := hN.symm
  have s0 := h.s0
  have s1 := h.s1
  rw [HG.out]
  by_cases g : 0 < N
  · have HS := Lib.hid (show giveS t most r = ⟨r.s - N, r.D ++ [⟨t, ⟨#[]⟩, N⟩]⟩ by unfold giveS; rw [← hN, if_pos g])
    have d1 : decide (0 < N) = true := by rw [decide_eq_true_iff]; exact g
    have HNb := Lib.hid (show 0 ≤ N ∧ N ≤ r.s by omega)
    have v1 : IntKind.i64.wrap (r.s - N) = r.s - N := IntWalk.i64_in _ (by omega)
    obtain ⟨ag, cg, e⟩ := own_shape h.row
    subst e
    obtain ⟨m, hmD⟩ : ∃ m, m = r.D.length := ⟨_, rfl⟩
    have HA := Lib.hid ((Below.refl w.heap.size w).alloc (Nat.le_refl _) (.cells #[.string t, .string ⟨#[]⟩, .int .i64 N] 42))
    have HO := Lib.hid (h.row.alloc (.cells #[.string t, .string ⟨#[]⟩, .int .i64 N] 42))
    rw [← hmD] at HO k2 H
    have HMD := Lib.hid hmD
    have L1 : m + 1 ≤ maxLen := by unfold maxLen; omega
    have L2 : (m + 1) * 40 ≤ 140737488355328 := by omega
    have Z3 : 0 < 3 := by decide
    obtain ⟨i0, hi0, hz0, hz1, hz2⟩ := info_parts Try.infoEn
    clear h hm hD hN hmD s0 s1
    rw [HS.out]
    go_enter Try.func19, Try.ntmps19
    go_wp2_with (at_builtin; refine wpList_own rfl (.tmp 13) (.tmp 17) 38 rfl 42 i0 _ 3 40 Try.underlying38 hi0 hz0 hz1 hz2 rfl Z3 _ _ _ rfl HO.out ⟨w.heap.size, 0, none⟩ 1 1 [.string t, .string ⟨#[]⟩, .int .i64 N] rfl rfl (new_cells _ _ _) (one_en ⟨t, ⟨#[]⟩, N⟩) L1 L2 ?_; intro v4 w4 hown4 hg4 hn4; obtain ⟨ao4, cap4, rfl⟩ := own_shape hown4; have hT : Touch (fun k => (Value.slice ag m cg).ownBlock = some k) w w4 := ((Touch.refl _ w).alloc _).grown hg4 (fun k e => .inl e); obtain ⟨c1, c2, c3, c4, c5⟩ := H.out.cells4 hT; have Q := Lib.hid (And.intro hT (And.intro hown4 hn4)); clear hT hown4 hg4 hn4)
    go_ret
    obtain ⟨hT, hown4, hn4⟩ := Q.out
    exact ⟨_, rfl, H.out.app ⟨t, ⟨#[]⟩, N⟩ N HNb.out hT (by rw [← HMD.out]; exact hown4) (fun k e => (hn4 k e).imp id (fun h => by simp at h; omega))⟩
  · have HS := Lib.hid (show giveS t most r = r by unfold giveS; rw [← hN, if_neg g])
    have d1 : decide (0 < N) = false := by rw [decide_eq_false_iff_not]; exact g
    rw [HS.out]
    clear h hm hD hN s0 s1
    go_enter Try.func19, Try.ntmps19
    go_wp2
    go_ret
    exact ⟨rfl, vg, H.out⟩
end Go.Proofs.Ytofkeipfkglljaa
