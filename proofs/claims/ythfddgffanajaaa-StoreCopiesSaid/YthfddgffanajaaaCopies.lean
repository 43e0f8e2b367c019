/-
  StoreCopies: a copy stands as the store does, also its fuse; what is done to either isn't done to the other one.
-/
import Derived.Test.YthfddgffanajaaaPlays
namespace Go.Proofs.Ythfddgffanajaaa
open Go Go.RowKit Go.Deep
set_option linter.unusedVariables false
set_option linter.unusedSimpArgs false

/-- What a pair writes; what it reads. -/
def Wr (b bm : Nat) (v : Value) : Nat → Prop := fun k => k = b ∨ k = bm ∨ v.ownBlock = some k
def Rd (b bm : Nat) (v m : Value) : Nat → Prop := fun k => Wr b bm v k ∨ rblk m = some k

/-- What an act on a pair does. -/
structure Mv (b bm : Nat) (v m : Value) (wr : World) (v5 m5 : Value) (wF : World) : Prop where
  touch : Touch (Wr b bm v) wr wF
  row : ∀ k, v5.ownBlock = some k → v.ownBlock = some k ∨ wr.heap.size ≤ k
  rk : Rk wr m m5

theorem Play.mv {W wr w0 w5 wF : World} {b bm : Nat} {v v5 m5 : Value} {a : Option Addr} {c : Nat} {s : St} (h : Play W wr b bm v a c s) (h0 : Touch (fun _ => False) wr w0)
    (hst : Step b v (.agg (mcells a c s)) w0 v5 m5 w5) (ht : Touch (fun k => k = bm ∨ (wr.heap.size ≤ k ∧ k < w0.heap.size)) w5 wF) : Mv b bm v (.agg (mcells a c s)) wr v5 m5 wF := by
  have z0 := h0.size
  refine ⟨?_, fun k hk => (hst.keep.row k hk).imp id (fun e => by omega), fun k hk => (hst.rk k hk).imp id (fun e => by omega)⟩
  exact ((h0.mono (fun _ e => e.elim)).trans hst.keep.touch (fun x hx => hx.elim (fun e => .inl (.inl e)) (fun e => .inl (.inr (.inr e))))).trans ht (fun x hx => hx.elim (fun e => .inl (.inr (.inl e))) (fun e => .inr e.1))
theorem Mv.below {b bm : Nat} {v m v5 m5 : Value} {wr wF w' : World} (h : Mv b bm v m wr v5 m5 wF) (hb : Below wF.heap.size wF w') : Mv b bm v m wr v5 m5 w' :=
  ⟨h.touch.trans (Touch.of_below (S := fun _ => False) hb) (fun _ e => e.elim), h.row, h.rk⟩

theorem Play.rd_lt {W w : World} {b bm : Nat} {v : Value} {a : Option Addr} {c : Nat} {s : St} (h : Play W w b bm v a c s) : ∀ k, Rd b bm v (.agg (mcells a c s)) k → k < w.heap.size := by
  rintro k ((rfl | rfl | e) | e)
  · exact h.both.st.lt
  · exact lt_of_block h.blk
  · exact own_lt h.both.st.row e
  · exact h.both.rf.lt e
theorem Play.wr_lo {W w : World} {b bm : Nat} {v : Value} {a : Option Addr} {c : Nat} {s : St} (h : Play W w b bm v a c s) : ∀ k, Wr b bm v k → W.heap.size ≤ k := by
  rintro k (rfl | rfl | e)
  · exact h.lob
  · exact h.lom
  · exact h.lov k e
theorem Play.touch {S : Nat → Prop} {W w w' : World} {b bm : Nat} {v : Value} {a : Option Addr} {c : Nat} {s : St} (h : Play W w b bm v a c s) (ht : Touch S w w') (hn : ∀ k, S k → ¬ Rd b bm v (.agg (mcells a c s)) k) (hW : ∀ k, S k → W.heap.size ≤ k) : Play W w' b bm v a c s :=
  ⟨⟨h.both.st.kept ht (fun e => hn _ e (.inl (.inl rfl))) (fun k hk e => hn _ e (.inl (.inr (.inr hk)))), h.both.rf.touch ht (fun k hk e => hn _ e (.inr hk)), h.both.far⟩,
   (ht.block _ (lt_of_block h.blk) (fun e => hn _ e (.inl (.inr (.inl rfl))))).trans h.blk, h.lob, h.lom, h.lov, h.nb, h.nv, h.nm, h.bel.trans (ht.below h.bel.size hW)⟩

/-- Two pairs, apart from each other. -/
structure Two (W w : World) (b bm : Nat) (v : Value) (a : Option Addr) (c : Nat) (s : St) (b' bm' : Nat) (v' : Value) (a' : Option Addr) (c' : Nat) (s' : St) : Prop where
  p : Play W w b bm v a c s
  q : Play W w b' bm' v' a' c' s'
  pq : ∀ k, Wr b bm v k → ¬ Rd b' bm' v' (.agg (mcells a' c' s')) k
  qp : ∀ k, Wr b' bm' v' k → ¬ Rd b bm v (.agg (mcells a c s)) k
section
variable {W w wr wF : World} {b bm b' bm' : Nat} {v v' v5 : Value} {a a' a5 : Option Addr} {c c' c5 : Nat} {s s' s5 : St}
theorem Two.symm (h : Two W w b bm v a c s b' bm' v' a' c' s') : Two W w b' bm' v' a' c' s' b bm v a c s := ⟨h.q, h.p, h.qp, h.pq⟩
theorem Two.act (h : Two W wr b bm v a c s b' bm' v' a' c' s') (h5 : Play W wF b bm v5 a5 c5 s5) (mv : Mv b bm v (.agg (mcells a c s)) wr v5 (.agg (mcells a5 c5 s5)) wF) : Two W wF b bm v5 a5 c5 s5 b' bm' v' a' c' s' := by
  have hW : ∀ k, Wr b bm v5 k → Wr b bm v k ∨ wr.heap.size ≤ k := by
    rintro k (rfl | rfl | e)
    · exact .inl (.inl rfl)
    · exact .inl (.inr (.inl rfl))
    · exact (mv.row k e).imp (fun e => .inr (.inr e)) id
  have hR : ∀ k, Rd b bm v5 (.agg (mcells a5 c5 s5)) k → Rd b bm v (.agg (mcells a c s)) k ∨ wr.heap.size ≤ k := by
    rintro k (e | e)
    · exact (hW k e).imp .inl id
    · exact (mv.rk k e).imp .inr id
  refine ⟨h5, h.q.touch mv.touch h.pq (h.p.wr_lo), fun k e f => ?_, fun k e f => ?_⟩
  · rcases hW k e with e | e
    · exact h.pq k e f
    · have := h.q.rd_lt k f; omega
  · rcases hR k f with f | f
    · exact h.qp k e f
    · have := h.q.rd_lt k (.inl e); omega
theorem Two.below {w2 : World} (h : Two W w b bm v a c s b' bm' v' a' c' s') (hb : Below w.heap.size w w2) : Two W w2 b bm v a c s b' bm' v' a' c' s' := ⟨h.p.below hb, h.q.below hb, h.pq, h.qp⟩
end

section
variable {W wr w5 : World} {b bm b' bm' : Nat} {v v' v5 : Value} {a a' a5 : Option Addr} {c c' c5 : Nat} {s s' s5 : St}
/-- The variable's cells behind the call. -/
theorem Play.facts {w0 : World} {m5 : Value} (h : Play W wr b bm v a c s) (h0 : Touch (fun _ => False) wr w0) (st5 : Step b v (.agg (mcells a c s)) w0 v5 m5 w5) :
    (w5.cell? ⟨bm, 0, none⟩ = some (.slice a s.ws.length c) ∧ w5.cell? ⟨bm, 1, none⟩ = some (.int .i64 s.last) ∧ w5.cell? ⟨bm, 2, none⟩ = some (.int .i64 s.fu) ∧ w5.cell? ⟨bm, 3, none⟩ = some (.bool s.down)) ∧
    (w5.frozen? ⟨bm, 0, none⟩ = false ∧ w5.frozen? ⟨bm, 1, none⟩ = false ∧ w5.frozen? ⟨bm, 2, none⟩ = false ∧ w5.frozen? ⟨bm, 3, none⟩ = false) ∧ bm < w5.heap.size := by
  have p5 := ((st5.back h0).keep.touch.block bm (lt_of_block h.blk) (fun hf => hf.elim h.nb h.nv)).trans h.blk
  unfold mcells at p5
  refine ⟨⟨?_, ?_, ?_, ?_⟩, ⟨?_, ?_, ?_, ?_⟩, lt_of_block p5⟩ <;> simp [World.cell?, World.frozen?, p5]
theorem Play.fresh {m5 x0 x1 x2 x3 : Value} (h : Play W wr b bm v a c s) (st5 : Step b v (.agg (mcells a c s)) (wr.alloc (.cells #[x0, x1, x2, x3] 42)).drew v5 m5 w5) :
    (w5.cell? ⟨wr.heap.size, 0, none⟩ = some x0 ∧ w5.cell? ⟨wr.heap.size, 1, none⟩ = some x1 ∧ w5.cell? ⟨wr.heap.size, 2, none⟩ = some x2 ∧ w5.cell? ⟨wr.heap.size, 3, none⟩ = some x3) ∧
    (w5.frozen? ⟨wr.heap.size, 0, none⟩ = false ∧ w5.frozen? ⟨wr.heap.size, 1, none⟩ = false ∧ w5.frozen? ⟨wr.heap.size, 2, none⟩ = false ∧ w5.frozen? ⟨wr.heap.size, 3, none⟩ = false) ∧ wr.heap.size < w5.heap.size := by
  have p5 := (st5.keep.touch.block wr.heap.size (by show _ < (wr.alloc (.cells #[x0, x1, x2, x3] 42)).heap.size; simp) (fun hf => by have := h.both.fp _ hf; omega)).trans (heap_alloc_new wr _)
  refine ⟨⟨?_, ?_, ?_, ?_⟩, ⟨?_, ?_, ?_, ?_⟩, lt_of_block p5⟩ <;> simp [World.cell?, World.frozen?, p5]
/-- The variable is written behind the call. -/
theorem Play.next0 (h : Play W wr b bm v a c s) (h5 : Both w5 b v5 (.agg (mcells a5 c5 s5)) s5) (hst : Step b v (.agg (mcells a c s)) wr.drew v5 (.agg (mcells a5 c5 s5)) w5) :
    Play W ((((w5.setCell ⟨bm, 0, none⟩ (.slice a5 s5.ws.length c5)).setCell ⟨bm, 1, none⟩ (.int .i64 s5.last)).setCell ⟨bm, 2, none⟩ (.int .i64 s5.fu)).setCell ⟨bm, 3, none⟩ (.bool s5.down)) b bm v5 a5 c5 s5 := by
  have p5 := (hst.keep.touch.block bm (lt_of_block h.blk) (fun hf => hf.elim h.nb h.nv)).trans h.blk
  exact h.next (Touch.refl _ _).drew h5 hst (touch4 (Touch.refl _ _) (.inl (.inl rfl)) _ _ _ _) (set4 p5 _ _ _ _)
theorem Two.next1 (h : Two W wr b bm v a c s b' bm' v' a' c' s') (h5 : Both w5 b v5 (.agg (mcells a5 c5 s5)) s5) (hst : Step b v (.agg (mcells a c s)) wr.drew v5 (.agg (mcells a5 c5 s5)) w5) :
    Two W (((((w5.setCell ⟨bm, 0, none⟩ (.slice a5 s5.ws.length c5)).setCell ⟨bm, 1, none⟩ (.int .i64 s5.last)).setCell ⟨bm, 2, none⟩ (.int .i64 s5.fu)).setCell ⟨bm, 3, none⟩ (.bool s5.down)).alloc (.cells #[.slice a5 s5.ws.length c5, .int .i64 s5.last, .int .i64 s5.fu, .bool s5.down] 42)) b bm v5 a5 c5 s5 b' bm' v' a' c' s' :=
  h.act (h.p.next1 h5 hst) (h.p.mv (Touch.refl _ _).drew hst ((touch4 (Touch.refl _ _) (.inl (.inl rfl)) _ _ _ _).alloc _))
theorem Two.next2 {o : Obj} (h : Two W wr b bm v a c s b' bm' v' a' c' s') (h5 : Both w5 b v5 (.agg (mcells a5 c5 s5)) s5) (hst : Step b v (.agg (mcells a c s)) (wr.alloc o).drew v5 (.agg (mcells a5 c5 s5)) w5) :
    Two W ((((((((w5.setCell ⟨wr.heap.size, 0, none⟩ (.slice a5 s5.ws.length c5)).setCell ⟨wr.heap.size, 1, none⟩ (.int .i64 s5.last)).setCell ⟨wr.heap.size, 2, none⟩ (.int .i64 s5.fu)).setCell ⟨wr.heap.size, 3, none⟩ (.bool s5.down)).setCell ⟨bm, 0, none⟩ (.slice a5 s5.ws.length c5)).setCell ⟨bm, 1, none⟩ (.int .i64 s5.last)).setCell ⟨bm, 2, none⟩ (.int .i64 s5.fu)).setCell ⟨bm, 3, none⟩ (.bool s5.down)) b bm v5 a5 c5 s5 b' bm' v' a' c' s' := by
  have sz : (wr.alloc o).drew.heap.size = wr.heap.size + 1 := by show (wr.alloc o).heap.size = _; simp
  exact h.act (h.p.next2 h5 hst) (h.p.mv ((Touch.refl _ _).alloc o).drew hst (touch4 (touch4 (Touch.refl _ _) (.inl (.inr ⟨Nat.le_refl _, by omega⟩)) _ _ _ _) (.inl (.inl rfl)) _ _ _ _))
/-- A call of both, in the variable's spelling. -/
def DoPost (b : Nat) (v : Value) (m : Value) (w0 : World) (e : Ending) (w5 : World) : Prop :=
  ∃ v5 a5 c5 s5, e = .returned (.tuple #[.agg #[.slice a5 s5.ws.length c5, .int .i64 s5.last, .int .i64 s5.fu, .bool s5.down], .bool true]) ∧ Both w5 b v5 (.agg (mcells a5 c5 s5)) s5 ∧ Step b v m w0 v5 (.agg (mcells a5 c5 s5)) w5
theorem Play.run {w0 : World} (h : Play W wr b bm v a c s) (h0 : Touch (fun _ => False) wr w0) (K N : Int) (t : ByteArray) (hN : N ≤ 9223372036854775807) :
    Calls Try.prog 20 #[.pointer (some ⟨b, 0, none⟩), .agg #[.slice a s.ws.length c, .int .i64 s.last, .int .i64 s.fu, .bool s.down], .agg #[.int .i64 K, .int .i64 N, .string t]] w0 (DoPost b v (.agg (mcells a c s)) w0) := by
  refine (do_any w0 b v (.agg (mcells a c s)) s K N t (h.both.touch h0) hN).mono ?_
  rintro e w5 ⟨v5, m5, rfl, h5, st5⟩
  obtain ⟨a5, c5, e5, _⟩ := h5.rf
  subst e5
  exact ⟨v5, a5, c5, _, rfl, h5, st5⟩
end

/-- A copy is made, and a variable for the document's one. -/
theorem Two.start {W wr w5 w6 : World} {b bm b2 : Nat} {v v2 : Value} {a : Option Addr} {c : Nat} {s : St} (h : Play W wr b bm v a c s) (h2 : IsSt w5 b2 v2 s) (l2 : wr.heap.size ≤ b2) (n2 : ∀ k, v2.ownBlock = some k → wr.heap.size ≤ k)
    (h5 : Below wr.heap.size wr w5) (h6 : Below w5.heap.size w5 w6) : Two W (w6.alloc (.cells (mcells a c s) 42)) b2 w6.heap.size v2 a c s b bm v a c s := by
  have z5 := h5.size
  have z6 := h6.size
  have zW := h.bel.size
  have lt2 := h2.lt
  have hv2 : ∀ k, v2.ownBlock = some k → k < w5.heap.size := fun k e => own_lt h2.row e
  have hm : ∀ k, rblk (.agg (mcells a c s)) = some k → k < wr.heap.size := fun k e => h.both.rf.lt e
  have ht : Touch (fun _ => False) w5 (w6.alloc (.cells (mcells a c s) 42)) := (Touch.of_below h6).alloc _
  have hb : Below wr.heap.size wr (w6.alloc (.cells (mcells a c s) 42)) := (h5.trans (h6.mono z5)).alloc (by omega) _
  have hp := h.below hb
  refine ⟨⟨⟨h2.kept ht id (fun _ _ => id), hp.both.rf, fun x e f => ?_⟩, heap_alloc_new _ _, by omega, by omega, fun k e => by have := n2 k e; omega, by omega, fun e => by have := hv2 _ e; omega, fun e => by have := hm _ e; omega, hp.bel⟩, hp, ?_, ?_⟩
  · have := hm x e
    rcases f with rfl | f
    · omega
    · have := n2 _ f; omega
  · rintro k e f
    have := h.rd_lt k f
    rcases e with rfl | rfl | e
    · omega
    · omega
    · have := n2 _ e; omega
  · rintro k e f
    have lk := h.rd_lt k (.inl e)
    rcases f with (rfl | rfl | f) | f
    · omega
    · omega
    · have := n2 _ f; omega
    · rcases e with rfl | rfl | e
      · exact h.both.far _ f (.inl rfl)
      · exact h.nm f
      · exact h.both.far _ f (.inr e)
theorem Two.start_both {wr w5 : World} {W : World} {b bm b2 : Nat} {v v2 : Value} {a : Option Addr} {c : Nat} {s : St} (h : Play W wr b bm v a c s) (h2 : IsSt w5 b2 v2 s) (l2 : wr.heap.size ≤ b2) (n2 : ∀ k, v2.ownBlock = some k → wr.heap.size ≤ k)
    (h5 : Below wr.heap.size wr w5) : Both w5 b2 v2 (.agg (mcells a c s)) s := by
  refine ⟨h2, h.both.rf.below h5, fun x e f => ?_⟩
  have := h.both.rf.lt e
  rcases f with rfl | f
  · omega
  · have := n2 _ f; omega

namespace storeCopies
set_option maxRecDepth 100000 in
set_option maxHeartbeats 8000000 in
theorem core (vl vm : Value) (l m : List OpV) (w : World) (h : Ops w vl l) (hwf : ∀ o ∈ l, o.wf) (h' : Ops w vm m) (hwf' : ∀ o ∈ m, o.wf) :
    Calls Try.prog 9 #[vl, vm] w fun e w' => e = .returned (.bool true) ∧ Below w.heap.size w w' := by
  obtain ⟨ao, cap, e, k1, k2, k3⟩ := h.shape
  obtain ⟨ao', cap'', e', k1', k2', k3'⟩ := h'.shape
  obtain ⟨n, HN⟩ : ∃ n, Hid (n = l.length) := ⟨_, rfl⟩
  obtain ⟨n', HN'⟩ : ∃ n, Hid (n = m.length) := ⟨_, rfl⟩
  rw [← HN.out] at e k1
  rw [← HN'.out] at e' k1'
  unfold maxLen at k2 k2'
  have H := Lib.hid h
  have HWF := Lib.hid hwf
  have H' := Lib.hid h'
  have HWF' := Lib.hid hwf'
  clear h hwf h' hwf'
  subst e e'
  go_enter Try.func9, Try.ntmps9
  go_wp2_with fail
  refine (awake_any _).mono ?_
  rintro e w1 ⟨rfl, hb1⟩
  have HO1 := Lib.hid (H.out.below hb1)
  have HO1' := Lib.hid (H'.out.below hb1)
  have HB1 := Lib.hid hb1
  clear hb1
  go_wp2_with fail
  refine (few_any _ _ _ HO1.out).mono ?_
  rintro e w2 ⟨x, rfl, rfl⟩
  cases x with
  | false =>
    go_wp2
    go_ret
    exact ⟨rfl, HB1.out⟩
  | true =>
    go_wp2_with fail
    refine (few_any _ _ _ HO1'.out).mono ?_
    rintro e w2 ⟨x, rfl, rfl⟩
    cases x with
    | false =>
      go_wp2
      go_ret
      exact ⟨rfl, HB1.out⟩
    | true =>
      go_wp2_with fail
      refine (new_any _).mono ?_
      rintro e w3 ⟨b, rfl, hs3, hb3, hw3⟩
      have Q3 := Lib.hid (And.intro hs3 (And.intro hb3 hw3))
      clear hs3 hb3 hw3
      go_wp2_with fail
      refine (rnew_any _).mono ?_
      rintro e w4 ⟨rfl, hw4⟩
      have Q4 := Lib.hid hw4
      clear hw4
      unfold rfv
      have HP := Lib.hid (Play.start HB1.out Q3.out.1 Q3.out.2.1 Q3.out.2.2 Q4.out)
      obtain ⟨bm, hbm⟩ : ∃ bm, Hid (bm = w4.heap.size) := ⟨_, rfl⟩
      rw [← hbm.out] at HP
      go_wp2_with fail
      rw [← hbm.out]
      clear Q3 Q4 HO1 HO1' hbm
      go_loopw [7] (fun i wr => ∃ (k : Nat) (v : Value) (a : Option Addr) (c : Nat) (s : St), k ≤ n ∧ i = .int .i64 k ∧ Play w wr b bm v a c s) (fun i _ => n - (intOf i).toNat)
      case atStart => exact ⟨0, _, _, _, _, Nat.zero_le _, rfl, HP.out⟩
      case round =>
      obtain ⟨k, v, a, c, s, hk, rfl, hp⟩ := hrel
      have HPk := Lib.hid hp
      clear hp HP
      by_cases hlt : k < n
      · 
        obtain ⟨bo, off, cap', e, _, _, hbo, hc⟩ := (H.out.below HPk.out.bel).at (by rw [← HN.out]; omega)
        obtain ⟨c0, c1, c2⟩ := hc k (by rw [← HN.out]; omega)
        rw [← HN.out] at e
        cases e
        have hN := Lib.hid (HWF.out l[k] (List.getElem_mem _)).1
        generalize l[k].t = t at *
        generalize l[k].K = K at *
        generalize l[k].N = N at *
        clear hc
        have qd := HPk.out.blk
        unfold mcells at qd
        have d0 : wr.cell? ⟨bm, 0, none⟩ = some (.slice a s.ws.length c) := by simp [World.cell?, qd]
        have d1 : wr.cell? ⟨bm, 1, none⟩ = some (.int .i64 s.last) := by simp [World.cell?, qd]
        have d2 : wr.cell? ⟨bm, 2, none⟩ = some (.int .i64 s.fu) := by simp [World.cell?, qd]
        have d3 : wr.cell? ⟨bm, 3, none⟩ = some (.bool s.down) := by simp [World.cell?, qd]
        clear qd
        have HD1 := Lib.hid (HPk.out.run (Touch.refl (fun _ => False) wr).drew K N t hN.out)
        go_wp2_with fail
        go_region_with (go_at_call 20; ((with_reducible refine HD1.out.mono ?_); rintro e w5 ⟨v5, a5, c5, s5, rfl, h5, st5⟩; obtain ⟨⟨e0, e1, e2, e3⟩, ⟨f0, f1, f2, f3⟩, lt5⟩ := HPk.out.facts (Touch.refl _ _).drew st5; have HP5 := Lib.hid (HPk.out.next0 h5 st5); clear h5 st5))
        all_goals
          go_wp2
          go_roundw
          case rel => exact ⟨k + 1, v5, a5, c5, s5, by omega, by go_num, HP5.out⟩
          case measure => simp [intOf]; omega
      · obtain rfl : k = n := by omega
        go_wp2_with fail
        -- COPY
        have HPW := Lib.hid HPk.out
        obtain ⟨wx, hwx⟩ : ∃ wx, wx = wr := ⟨_, rfl⟩
        subst hwx
        refine (copy_any _ b v s HPk.out.both.st).mono ?_
        rintro e wc ⟨b2, v2, rfl, hs2, l2, n2, hbc⟩
        have Q2 := Lib.hid (And.intro hs2 (And.intro l2 (And.intro n2 hbc)))
        have HBc := Lib.hid (Two.start_both HPk.out hs2 l2 n2 hbc)
        have qd := (hbc.block _ (lt_of_block HPk.out.blk)).trans HPk.out.blk
        unfold mcells at qd
        have d0 : wc.cell? ⟨bm, 0, none⟩ = some (.slice a s.ws.length c) := by simp [World.cell?, qd]
        have d1 : wc.cell? ⟨bm, 1, none⟩ = some (.int .i64 s.last) := by simp [World.cell?, qd]
        have d2 : wc.cell? ⟨bm, 2, none⟩ = some (.int .i64 s.fu) := by simp [World.cell?, qd]
        have d3 : wc.cell? ⟨bm, 3, none⟩ = some (.bool s.down) := by simp [World.cell?, qd]
        clear qd
        clear hs2 l2 n2 hbc
        go_wp2_with fail
        refine (alike_any _ b2 v2 _ s HBc.out).mono ?_
        rintro e w6 ⟨rfl, hb6⟩
        have HT := Lib.hid (Two.start HPk.out Q2.out.1 Q2.out.2.1 Q2.out.2.2.1 Q2.out.2.2.2 hb6)
        have qx := (hb6.block _ (lt_of_block ((Q2.out.2.2.2.block _ (lt_of_block HPk.out.blk)).trans HPk.out.blk))).trans ((Q2.out.2.2.2.block _ (lt_of_block HPk.out.blk)).trans HPk.out.blk)
        unfold mcells at qx
        have x0 : w6.cell? ⟨bm, 0, none⟩ = some (.slice a s.ws.length c) := by simp [World.cell?, qx]
        have x1 : w6.cell? ⟨bm, 1, none⟩ = some (.int .i64 s.last) := by simp [World.cell?, qx]
        have x2 : w6.cell? ⟨bm, 2, none⟩ = some (.int .i64 s.fu) := by simp [World.cell?, qx]
        have x3 : w6.cell? ⟨bm, 3, none⟩ = some (.bool s.down) := by simp [World.cell?, qx]
        clear qx
        obtain ⟨bn, hbn⟩ : ∃ bn, Hid (bn = w6.heap.size) := ⟨_, rfl⟩
        rw [← hbn.out] at HT
        clear hb6 d0 d1 d2 d3
        go_wp2_with fail
        rw [← hbn.out]
        clear Q2 HBc hbn HPW x0 x1 x2 x3
        go_loopw [10] (fun i wr => ∃ (k : Nat) (v2 : Value) (a2 : Option Addr) (c2 : Nat) (s2 : St), k ≤ n' ∧ i = .int .i64 k ∧ Two w wr b2 bn v2 a2 c2 s2 b bm v a c s) (fun i _ => n' - (intOf i).toNat)
        case atStart => exact ⟨0, _, _, _, _, Nat.zero_le _, rfl, HT.out⟩
        case round =>
        obtain ⟨kk, v2', a2, c2, s2, hkk, rfl, hp⟩ := hrel
        have HTk := Lib.hid hp
        clear hp HT
        by_cases hltk : kk < n'
        · 
          obtain ⟨bo, off, cap', e, _, _, hbo, hc⟩ := (H'.out.below HTk.out.p.bel).at (by rw [← HN'.out]; omega)
          obtain ⟨o0, o1, o2⟩ := hc kk (by rw [← HN'.out]; omega)
          rw [← HN'.out] at e
          cases e
          have hN := Lib.hid (HWF'.out (m[kk]'(by rw [← HN'.out]; omega)) (List.getElem_mem _)).1
          generalize (m[kk]'(by rw [← HN'.out]; omega)).t = t at *
          generalize (m[kk]'(by rw [← HN'.out]; omega)).K = K at *
          generalize (m[kk]'(by rw [← HN'.out]; omega)).N = N at *
          clear hc
          have qd := HTk.out.p.blk
          unfold mcells at qd
          have d0 : wr.cell? ⟨bn, 0, none⟩ = some (.slice a2 s2.ws.length c2) := by simp [World.cell?, qd]
          have d1 : wr.cell? ⟨bn, 1, none⟩ = some (.int .i64 s2.last) := by simp [World.cell?, qd]
          have d2 : wr.cell? ⟨bn, 2, none⟩ = some (.int .i64 s2.fu) := by simp [World.cell?, qd]
          have d3 : wr.cell? ⟨bn, 3, none⟩ = some (.bool s2.down) := by simp [World.cell?, qd]
          clear qd
          have hl := lt_of_block HTk.out.p.blk
          have y1 : ¬ bn = wr.heap.size := by omega
          have y2 : ¬ wr.heap.size = bn := by omega
          have HD1 := Lib.hid (HTk.out.p.run (Touch.refl (fun _ => False) wr).drew K N t hN.out)
          have HD2 := Lib.hid (HTk.out.p.run ((Touch.refl (fun _ => False) wr).alloc (.cells #[.slice none 0 0, .int .i64 0, .int .i64 0, .bool false] 42)).drew K N t hN.out)
          go_wp2_with fail
          go_region_with (first | (go_at_call 20; ((with_reducible refine HD1.out.mono ?_); rintro e w5 ⟨v5, a5, c5, s5, rfl, h5, st5⟩; obtain ⟨⟨e0, e1, e2, e3⟩, ⟨f0, f1, f2, f3⟩, lt5⟩ := HTk.out.p.facts (Touch.refl _ _).drew st5; have HP5 := Lib.hid (HTk.out.next1 h5 st5); clear h5 st5)) | (go_at_call 20; ((with_reducible refine HD2.out.mono ?_); rintro e w5 ⟨v5, a5, c5, s5, rfl, h5, st5⟩; obtain ⟨⟨e0, e1, e2, e3⟩, ⟨f0, f1, f2, f3⟩, lt5⟩ := HTk.out.p.facts ((Touch.refl _ _).alloc _).drew st5; obtain ⟨⟨g0, g1, g2, g3⟩, ⟨i0, i1, i2, i3⟩, lt6⟩ := HTk.out.p.fresh st5; have HP5 := Lib.hid (HTk.out.next2 h5 st5); clear h5 st5)))
          all_goals
            go_wp2_with fail
            refine (alike_any _ b2 v5 _ s5 HP5.out.p.both).mono ?_
            rintro e w6 ⟨rfl, hb6⟩
            have HP6 := Lib.hid (HP5.out.below hb6)
            have qx := HP6.out.q.blk
            unfold mcells at qx
            have x0 : w6.cell? ⟨bm, 0, none⟩ = some (.slice a s.ws.length c) := by simp [World.cell?, qx]
            have x1 : w6.cell? ⟨bm, 1, none⟩ = some (.int .i64 s.last) := by simp [World.cell?, qx]
            have x2 : w6.cell? ⟨bm, 2, none⟩ = some (.int .i64 s.fu) := by simp [World.cell?, qx]
            have x3 : w6.cell? ⟨bm, 3, none⟩ = some (.bool s.down) := by simp [World.cell?, qx]
            clear qx
            clear hb6 HP5
            go_wp2_with fail
            refine (alike_any _ b v _ s HP6.out.q.both).mono ?_
            rintro e w7 ⟨rfl, hb7⟩
            have HP7 := Lib.hid (HP6.out.below hb7)
            clear hb7 HP6 x0 x1 x2 x3
            go_wp2
            go_roundw
            case rel => exact ⟨kk + 1, v5, a5, c5, s5, by omega, by go_num, HP7.out⟩
            case measure => simp [intOf]; omega
        · obtain rfl : kk = n' := by omega
          have HT := Lib.hid HTk.out.symm
          obtain ⟨wy, hwy⟩ : ∃ wy, wy = wr := ⟨_, rfl⟩
          subst hwy
          go_wp2_with fail
          clear HTk
          go_loopw [13] (fun i wr => ∃ (k3 : Nat) (v : Value) (a : Option Addr) (c : Nat) (s : St), k3 ≤ kk ∧ i = .int .i64 k3 ∧ Two w wr b bm v a c s b2 bn v2' a2 c2 s2) (fun i _ => kk - (intOf i).toNat)
          case atStart => exact ⟨0, _, _, _, _, Nat.zero_le _, rfl, HT.out⟩
          case round =>
          clear HT HPk
          obtain ⟨kz, v', a', c', s', hkz, rfl, hp⟩ := hrel
          have HTk := Lib.hid hp
          clear hp
          by_cases hltz : kz < kk
          · obtain ⟨j, hj⟩ : ∃ j, j + 1 + kz = kk := ⟨kk - 1 - kz, by omega⟩
            have HJ := Lib.hid hj
            have j1 : IntKind.i64.wrap ((kk : Int) - 1) = (kk : Int) - 1 := IntWalk.i64_in _ (by omega)
            have j2 : IntKind.i64.wrap ((kk : Int) - 1 - (kz : Int)) = (j : Int) := by rw [IntWalk.i64_in _ (by omega)]; omega
            have j3 : j < kk := by omega
            clear hj
            obtain ⟨bo, off, cap', e, _, _, hbo, hc⟩ := (H'.out.below HTk.out.p.bel).at (by rw [← HN'.out]; omega)
            obtain ⟨o0, o1, o2⟩ := hc j (by rw [← HN'.out]; omega)
            rw [← HN'.out] at e
            cases e
            have hN := Lib.hid (HWF'.out (m[j]'(by rw [← HN'.out]; omega)) (List.getElem_mem _)).1
            generalize (m[j]'(by rw [← HN'.out]; omega)).t = t at *
            generalize (m[j]'(by rw [← HN'.out]; omega)).K = K at *
            generalize (m[j]'(by rw [← HN'.out]; omega)).N = N at *
            clear hc

            have qd := HTk.out.p.blk
            unfold mcells at qd
            have d0 : wr.cell? ⟨bm, 0, none⟩ = some (.slice a' s'.ws.length c') := by simp [World.cell?, qd]
            have d1 : wr.cell? ⟨bm, 1, none⟩ = some (.int .i64 s'.last) := by simp [World.cell?, qd]
            have d2 : wr.cell? ⟨bm, 2, none⟩ = some (.int .i64 s'.fu) := by simp [World.cell?, qd]
            have d3 : wr.cell? ⟨bm, 3, none⟩ = some (.bool s'.down) := by simp [World.cell?, qd]
            clear qd
            have hl := lt_of_block HTk.out.p.blk
            have y1 : ¬ bm = wr.heap.size := by omega
            have y2 : ¬ wr.heap.size = bm := by omega
            have HD1 := Lib.hid (HTk.out.p.run (Touch.refl (fun _ => False) wr).drew K N t hN.out)
            have HD2 := Lib.hid (HTk.out.p.run ((Touch.refl (fun _ => False) wr).alloc (.cells #[.slice none 0 0, .int .i64 0, .int .i64 0, .bool false] 42)).drew K N t hN.out)
            go_wp2_with fail
            go_region_with (first | (go_at_call 20; ((with_reducible refine HD1.out.mono ?_); rintro e w5 ⟨v5, a5, c5, s5, rfl, h5, st5⟩; obtain ⟨⟨e0, e1, e2, e3⟩, ⟨f0, f1, f2, f3⟩, lt5⟩ := HTk.out.p.facts (Touch.refl _ _).drew st5; have HP5 := Lib.hid (HTk.out.next1 h5 st5); clear h5 st5)) | (go_at_call 20; ((with_reducible refine HD2.out.mono ?_); rintro e w5 ⟨v5, a5, c5, s5, rfl, h5, st5⟩; obtain ⟨⟨e0, e1, e2, e3⟩, ⟨f0, f1, f2, f3⟩, lt5⟩ := HTk.out.p.facts ((Touch.refl _ _).alloc _).drew st5; obtain ⟨⟨g0, g1, g2, g3⟩, ⟨i0, i1, i2, i3⟩, lt6⟩ := HTk.out.p.fresh st5; have HP5 := Lib.hid (HTk.out.next2 h5 st5); clear h5 st5)))
            all_goals
              go_wp2_with fail
              refine (alike_any _ b v5 _ s5 HP5.out.p.both).mono ?_
              rintro e w6 ⟨rfl, hb6⟩
              have HP6 := Lib.hid (HP5.out.below hb6)
              clear hb6 HP5
              go_wp2
              go_roundw
              case rel => exact ⟨kz + 1, v5, a5, c5, s5, by omega, by go_num, HP6.out⟩
              case measure => simp [intOf]; omega
          · 
            have qx := HTk.out.q.blk
            unfold mcells at qx
            have x0 : wr.cell? ⟨bn, 0, none⟩ = some (.slice a2 s2.ws.length c2) := by simp [World.cell?, qx]
            have x1 : wr.cell? ⟨bn, 1, none⟩ = some (.int .i64 s2.last) := by simp [World.cell?, qx]
            have x2 : wr.cell? ⟨bn, 2, none⟩ = some (.int .i64 s2.fu) := by simp [World.cell?, qx]
            have x3 : wr.cell? ⟨bn, 3, none⟩ = some (.bool s2.down) := by simp [World.cell?, qx]
            clear qx
            go_wp2_with fail
            refine (alike_any _ b2 v2' _ s2 HTk.out.q.both).mono ?_
            rintro e w6 ⟨rfl, hb6⟩
            have HB6 := Lib.hid (HTk.out.p.bel.trans (hb6.mono HTk.out.p.bel.size))
            clear hb6
            go_wp2
            go_ret
            exact ⟨rfl, HB6.out⟩

theorem walk (v0 v1 : Value) (w : World) (w0 : Is39 w v0) (w1 : Is39 w v1) :
    Calls Try.prog 9 #[v0, v1] w fun e w' => e = .returned (.bool true) ∧ Below w.heap.size w w' := by
  obtain ⟨l, h1, h2⟩ := w0
  obtain ⟨m, h3, h4⟩ := w1
  exact core v0 v1 l m w h1 h2 h3 h4
end storeCopies
end Go.Proofs.Ythfddgffanajaaa
