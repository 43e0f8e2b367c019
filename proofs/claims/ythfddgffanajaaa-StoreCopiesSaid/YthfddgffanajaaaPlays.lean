/-
  StorePlays: whatever is called, each call tells just what the document says, and behind each the store stands so.
-/
import Derived.Test.YthfddgffanajaaaAlike
import Derived.Deep.RegionWith
namespace Go.Proofs.Ythfddgffanajaaa
open Go Go.RowKit Go.Deep
set_option linter.unusedVariables false
set_option linter.unusedSimpArgs false

/-- The document's store as it lies in a variable of the call's own. -/
def mcells (a : Option Addr) (c : Nat) (s : St) : Array Value := #[.slice a s.ws.length c, .int .i64 s.last, .int .i64 s.fu, .bool s.down]
/-- A store and the document's, beside each other: all that may be written is newer than W. -/
structure Play (W w : World) (b bm : Nat) (v : Value) (a : Option Addr) (c : Nat) (s : St) : Prop where
  both : Both w b v (.agg (mcells a c s)) s
  blk : w.heap[bm]? = some (.cells (mcells a c s) 42 (0, 0))
  lob : W.heap.size ≤ b
  lom : W.heap.size ≤ bm
  lov : ∀ k, v.ownBlock = some k → W.heap.size ≤ k
  nb : bm ≠ b
  nv : v.ownBlock ≠ some bm
  nm : rblk (.agg (mcells a c s)) ≠ some bm
  bel : Below W.heap.size W w

theorem Play.start {W w1 w3 w4 : World} {b : Nat} (h1 : Below W.heap.size W w1) (h3 : IsSt w3 b (.slice none 0 0) St.new) (hb : w1.heap.size ≤ b) (h13 : Below w1.heap.size w1 w3) (h34 : Below w3.heap.size w3 w4) :
    Play W (w4.alloc (.cells #[.slice none 0 0, .int .i64 0, .int .i64 (-1), .bool false] 42)) b w4.heap.size (.slice none 0 0) none 0 St.new := by
  have z1 := h1.size
  have z2 := h13.size
  have z3 := h34.size
  have z4 := h3.lt
  have ht : Touch (fun _ => False) w3 (w4.alloc (.cells #[.slice none 0 0, .int .i64 0, .int .i64 (-1), .bool false] 42)) := (Touch.of_below h34).alloc _
  refine ⟨⟨h3.kept ht id (fun _ _ => id), ⟨none, 0, rfl, Row.nil _ 1⟩, fun x hx => by cases hx⟩, heap_alloc_new _ _, by omega, by omega, (fun _ h => by cases h), by omega, (fun h => by cases h), (fun h => by cases h), ?_⟩
  exact ((h1.trans (h13.mono z1)).trans (h34.mono (by omega))).alloc (by omega) _

theorem Play.next {W wr w0 w5 wF : World} {b bm : Nat} {v v5 : Value} {a a5 : Option Addr} {c c5 : Nat} {s s5 : St} (h : Play W wr b bm v a c s) (h0 : Touch (fun _ => False) wr w0) (h5 : Both w5 b v5 (.agg (mcells a5 c5 s5)) s5)
    (hst : Step b v (.agg (mcells a c s)) w0 v5 (.agg (mcells a5 c5 s5)) w5) (ht : Touch (fun k => k = bm ∨ (wr.heap.size ≤ k ∧ k < w0.heap.size)) w5 wF) (hblk : wF.heap[bm]? = some (.cells (mcells a5 c5 s5) 42 (0, 0))) : Play W wF b bm v5 a5 c5 s5 := by
  have zm := lt_of_block h.blk
  have zb := h.bel.size
  have z0 := h0.size
  have z5 := hst.keep.touch.size
  have hv5 : ∀ k, v5.ownBlock = some k → ¬ (k = bm ∨ (wr.heap.size ≤ k ∧ k < w0.heap.size)) := fun k hk e => by
    rcases hst.keep.row _ hk with g | g
    · have := own_lt h.both.st.row g
      rcases e with rfl | e
      · exact h.nv g
      · omega
    · omega
  have hm5 : ∀ k, rblk (.agg (mcells a5 c5 s5)) = some k → ¬ (k = bm ∨ (wr.heap.size ≤ k ∧ k < w0.heap.size)) := fun k hk e => by
    rcases hst.rk _ hk with g | g
    · have := h.both.rf.lt g
      rcases e with rfl | e
      · exact h.nm g
      · omega
    · omega
  have lob := h.lob
  have lom := h.lom
  have ltb := h.both.st.lt
  have nb := h.nb
  refine ⟨⟨h5.st.kept ht (by omega) hv5, h5.rf.touch ht hm5, h5.far⟩, hblk, lob, lom, fun k hk => ?_, h.nb, fun e => hv5 _ e (.inl rfl), fun e => hm5 _ e (.inl rfl), ?_⟩
  · rcases hst.keep.row _ hk with e | e
    · exact h.lov k e
    · omega
  · exact ((h.bel.trans (h0.below zb (fun _ e => e.elim))).trans (hst.keep.touch.below (by omega) (fun x hx => hx.elim (fun e => e ▸ lob) (h.lov x)))).trans (ht.below (by omega) (fun x e => by omega))
theorem set4 {w : World} {g : Nat} {x0 x1 x2 x3 : Value} {e : TypeId} (h : w.heap[g]? = some (.cells #[x0, x1, x2, x3] e (0, 0))) (y0 y1 y2 y3 : Value) :
    ((((w.setCell ⟨g, 0, none⟩ y0).setCell ⟨g, 1, none⟩ y1).setCell ⟨g, 2, none⟩ y2).setCell ⟨g, 3, none⟩ y3).heap[g]? = some (.cells #[y0, y1, y2, y3] e (0, 0)) := by
  rw [heap_set (heap_set (heap_set (heap_set h)))]; rfl
theorem touch4 {S : Nat → Prop} {w0 w : World} {g : Nat} (h : Touch S w0 w) (hg : S g ∨ w0.heap.size ≤ g) (y0 y1 y2 y3 : Value) : Touch S w0 ((((w.setCell ⟨g, 0, none⟩ y0).setCell ⟨g, 1, none⟩ y1).setCell ⟨g, 2, none⟩ y2).setCell ⟨g, 3, none⟩ y3) :=
  (((h.setCell (p := ⟨g, 0, none⟩) hg y0).setCell (p := ⟨g, 1, none⟩) hg y1).setCell (p := ⟨g, 2, none⟩) hg y2).setCell (p := ⟨g, 3, none⟩) hg y3
theorem Play.next1 {W wr w5 : World} {b bm : Nat} {v v5 : Value} {a a5 : Option Addr} {c c5 : Nat} {s s5 : St} (h : Play W wr b bm v a c s) (h5 : Both w5 b v5 (.agg (mcells a5 c5 s5)) s5)
    (hst : Step b v (.agg (mcells a c s)) wr.drew v5 (.agg (mcells a5 c5 s5)) w5) :
    Play W (((((w5.setCell ⟨bm, 0, none⟩ (.slice a5 s5.ws.length c5)).setCell ⟨bm, 1, none⟩ (.int .i64 s5.last)).setCell ⟨bm, 2, none⟩ (.int .i64 s5.fu)).setCell ⟨bm, 3, none⟩ (.bool s5.down)).alloc (.cells #[.slice a5 s5.ws.length c5, .int .i64 s5.last, .int .i64 s5.fu, .bool s5.down] 42)) b bm v5 a5 c5 s5 := by
  have p5 := (hst.keep.touch.block bm (lt_of_block h.blk) (fun hf => hf.elim h.nb h.nv)).trans h.blk
  refine h.next (Touch.refl _ _).drew h5 hst ((touch4 (Touch.refl _ _) (.inl (.inl rfl)) _ _ _ _).alloc _) ?_
  rw [Below.heap_alloc _ _ _ (lt_of_block (set4 p5 _ _ _ _))]
  exact set4 p5 _ _ _ _
theorem Play.next2 {W wr w5 : World} {b bm : Nat} {v v5 : Value} {a a5 : Option Addr} {c c5 : Nat} {s s5 : St} {o : Obj} (h : Play W wr b bm v a c s) (h5 : Both w5 b v5 (.agg (mcells a5 c5 s5)) s5)
    (hst : Step b v (.agg (mcells a c s)) (wr.alloc o).drew v5 (.agg (mcells a5 c5 s5)) w5) :
    Play W ((((((((w5.setCell ⟨wr.heap.size, 0, none⟩ (.slice a5 s5.ws.length c5)).setCell ⟨wr.heap.size, 1, none⟩ (.int .i64 s5.last)).setCell ⟨wr.heap.size, 2, none⟩ (.int .i64 s5.fu)).setCell ⟨wr.heap.size, 3, none⟩ (.bool s5.down)).setCell ⟨bm, 0, none⟩ (.slice a5 s5.ws.length c5)).setCell ⟨bm, 1, none⟩ (.int .i64 s5.last)).setCell ⟨bm, 2, none⟩ (.int .i64 s5.fu)).setCell ⟨bm, 3, none⟩ (.bool s5.down)) b bm v5 a5 c5 s5 := by
  have zm := lt_of_block h.blk
  have p5 := (hst.keep.touch.block bm (by show _ < (wr.alloc o).heap.size; simp; omega) (fun hf => hf.elim h.nb h.nv)).trans ((Below.heap_alloc wr o _ zm).trans h.blk)
  have z5 := lt_of_block p5
  have sz : (wr.alloc o).drew.heap.size = wr.heap.size + 1 := by show (wr.alloc o).heap.size = _; simp
  refine h.next ((Touch.refl _ _).alloc o).drew h5 hst (touch4 (touch4 (Touch.refl _ _) (.inl (.inr ⟨Nat.le_refl _, by omega⟩)) _ _ _ _) (.inl (.inl rfl)) _ _ _ _) ?_
  refine set4 (x0 := .slice a s.ws.length c) (x1 := .int .i64 s.last) (x2 := .int .i64 s.fu) (x3 := .bool s.down) ?_ _ _ _ _
  rw [(touch4 (S := fun k => k = wr.heap.size) (Touch.refl _ w5) (.inl rfl) _ _ _ _).block bm z5 (by omega)]
  exact p5
theorem Play.below {W w w' : World} {b bm : Nat} {v : Value} {a : Option Addr} {c : Nat} {s : St} (h : Play W w b bm v a c s) (hb : Below w.heap.size w w') : Play W w' b bm v a c s :=
  ⟨h.both.below hb, (hb.block _ (lt_of_block h.blk)).trans h.blk, h.lob, h.lom, h.lov, h.nb, h.nv, h.nm, h.bel.trans (hb.mono h.bel.size)⟩
theorem Play.drewN {W w : World} {b bm : Nat} {v : Value} {a : Option Addr} {c : Nat} {s : St} (h : Play W w b bm v a c s) (n : Nat) : Play W (w.drewN n) b bm v a c s :=
  ⟨h.both.drewN n, h.blk, h.lob, h.lom, h.lov, h.nb, h.nv, h.nm, below_drewN h.bel n⟩

theorem Step.back {w w0 w' : World} {b : Nat} {v m v' m' : Value} (h : Step b v m w0 v' m' w') (ht : Touch (fun _ => False) w w0) : Step b v m w v' m' w' :=
  ⟨⟨(ht.mono (fun _ e => e.elim)).trans h.keep.touch (fun _ e => .inl e), fun k hk => (h.keep.row k hk).imp id (fun e => Nat.le_trans ht.size e)⟩, fun k hk => (h.rk k hk).imp id (fun e => Nat.le_trans ht.size e)⟩

namespace storePlays
set_option maxHeartbeats 2000000 in
theorem core (v : Value) (l : List OpV) (w : World) (h : Ops w v l) (hwf : ∀ o ∈ l, o.wf) :
    Calls Try.prog 6 #[v] w fun e w' => e = .returned (.bool true) ∧ Below w.heap.size w w' := by
  obtain ⟨ao, cap, e, k1, k2, k3⟩ := h.shape
  obtain ⟨n, HN⟩ : ∃ n, Hid (n = l.length) := ⟨_, rfl⟩
  rw [← HN.out] at e k1
  unfold maxLen at k2
  have H := Lib.hid h
  have HWF := Lib.hid hwf
  clear h hwf
  subst e
  go_enter Try.func6, Try.ntmps6
  go_wp2_with fail
  refine (awake_any _).mono ?_
  rintro e w1 ⟨rfl, hb1⟩
  have HO1 := Lib.hid (H.out.below hb1)
  have HB1 := Lib.hid hb1
  clear hb1
  go_wp2_with fail
  refine (few_any _ _ _ HO1.out).mono ?_
  rintro e w2 ⟨x, rfl, rfl⟩
  cases x with
  | false =>
    go_wp2
    go_ret
    exact ⟨rfl, HB1.out⟩
  | true =>
    go_wp2_with fail
    refine (new_any _).mono ?_
    rintro e w3 ⟨b, rfl, hs3, hb3, hw3⟩
    have Q3 := Lib.hid (And.intro hs3 (And.intro hb3 hw3))
    clear hs3 hb3 hw3
    go_wp2_with fail
    refine (rnew_any _).mono ?_
    rintro e w4 ⟨rfl, hw4⟩
    have Q4 := Lib.hid hw4
    clear hw4
    unfold rfv
    have HP := Lib.hid (Play.start HB1.out Q3.out.1 Q3.out.2.1 Q3.out.2.2 Q4.out)
    obtain ⟨bm, hbm⟩ : ∃ bm, Hid (bm = w4.heap.size) := ⟨_, rfl⟩
    rw [← hbm.out] at HP
    go_wp2_with fail
    rw [← hbm.out]
    clear Q3 Q4 HO1 hbm
    go_loopw [5] (fun i wr => ∃ (k : Nat) (v : Value) (a : Option Addr) (c : Nat) (s : St), k ≤ n ∧ i = .int .i64 k ∧ Play w wr b bm v a c s) (fun i _ => n - (intOf i).toNat)
    case atStart => exact ⟨0, _, _, _, _, Nat.zero_le _, rfl, HP.out⟩
    case round =>
      obtain ⟨k, v, a, c, s, hk, rfl, hp⟩ := hrel
      have HPk := Lib.hid hp
      clear hp HP
      by_cases hlt : k < n
      · obtain ⟨bo, off, cap', e, _, _, hbo, hc⟩ := (H.out.below HPk.out.bel).at (by rw [← HN.out]; omega)
        obtain ⟨c0, c1, c2⟩ := hc k (by rw [← HN.out]; exact hlt)
        rw [← HN.out] at e
        cases e
        have hN := Lib.hid (HWF.out l[k] (List.getElem_mem _)).1
        generalize l[k].t = t at *
        generalize l[k].K = K at *
        generalize l[k].N = N at *
        clear hc
        have q1 := HPk.out.blk
        unfold mcells at q1
        have d0 : wr.cell? ⟨bm, 0, none⟩ = some (.slice a s.ws.length c) := by simp [World.cell?, q1]
        have d1 : wr.cell? ⟨bm, 1, none⟩ = some (.int .i64 s.last) := by simp [World.cell?, q1]
        have d2 : wr.cell? ⟨bm, 2, none⟩ = some (.int .i64 s.fu) := by simp [World.cell?, q1]
        have d3 : wr.cell? ⟨bm, 3, none⟩ = some (.bool s.down) := by simp [World.cell?, q1]
        clear q1
        have HD1 := Lib.hid (do_any wr.drew b v (.agg (mcells a c s)) s K N t (HPk.out.both.touch (Touch.refl _ _).drew) hN.out)
        have HD2 := Lib.hid (do_any (wr.alloc (.cells #[.slice none 0 0, .int .i64 0, .int .i64 0, .bool false] 42)).drew b v (.agg (mcells a c s)) s K N t (HPk.out.both.touch ((Touch.refl _ _).alloc _).drew) hN.out)
        obtain ⟨s5, HS5⟩ : ∃ x, Hid (x = s.op K N t) := ⟨_, rfl⟩
        rw [← HS5.out] at HD1 HD2
        have HF := Lib.hid (fun (w5 : World) (v5 m5 : Value) (h5 : Both w5 b v5 m5 s5) (st5 : Step b v (.agg (mcells a c s)) wr v5 m5 w5) => show
            (w5.cell? ⟨bm, 0, none⟩ = some (.slice a s.ws.length c) ∧ w5.cell? ⟨bm, 1, none⟩ = some (.int .i64 s.last) ∧ w5.cell? ⟨bm, 2, none⟩ = some (.int .i64 s.fu) ∧ w5.cell? ⟨bm, 3, none⟩ = some (.bool s.down)) ∧
            (w5.frozen? ⟨bm, 0, none⟩ = false ∧ w5.frozen? ⟨bm, 1, none⟩ = false ∧ w5.frozen? ⟨bm, 2, none⟩ = false ∧ w5.frozen? ⟨bm, 3, none⟩ = false) ∧ bm < w5.heap.size from by
          have p5 := (st5.keep.touch.block bm (lt_of_block HPk.out.blk) (fun hf => hf.elim HPk.out.nb HPk.out.nv)).trans HPk.out.blk
          unfold mcells at p5
          refine ⟨⟨?_, ?_, ?_, ?_⟩, ⟨?_, ?_, ?_, ?_⟩, lt_of_block p5⟩ <;> simp [World.cell?, World.frozen?, p5])
        have hl := lt_of_block HPk.out.blk
        have y1 : ¬ bm = wr.heap.size := by omega
        have y2 : ¬ wr.heap.size = bm := by omega
        have HT1 := Lib.hid (fun (w5 : World) (v5 m5 : Value) (st5 : Step b v (.agg (mcells a c s)) wr.drew v5 m5 w5) => show Step b v (.agg (mcells a c s)) wr v5 m5 w5 from st5.back (Touch.refl _ _).drew)
        have HT2 := Lib.hid (fun (w5 : World) (v5 m5 : Value) (st5 : Step b v (.agg (mcells a c s)) (wr.alloc (.cells #[.slice none 0 0, .int .i64 0, .int .i64 0, .bool false] 42)).drew v5 m5 w5) => show Step b v (.agg (mcells a c s)) wr v5 m5 w5 from st5.back ((Touch.refl _ _).alloc _).drew)
        have HN2 := Lib.hid (fun (w5 : World) (v5 m5 : Value) (st5 : Step b v (.agg (mcells a c s)) (wr.alloc (.cells #[.slice none 0 0, .int .i64 0, .int .i64 0, .bool false] 42)).drew v5 m5 w5) => show
            (w5.cell? ⟨wr.heap.size, 0, none⟩ = some (.slice none 0 0) ∧ w5.cell? ⟨wr.heap.size, 1, none⟩ = some (.int .i64 0) ∧ w5.cell? ⟨wr.heap.size, 2, none⟩ = some (.int .i64 0) ∧ w5.cell? ⟨wr.heap.size, 3, none⟩ = some (.bool false)) ∧
            (w5.frozen? ⟨wr.heap.size, 0, none⟩ = false ∧ w5.frozen? ⟨wr.heap.size, 1, none⟩ = false ∧ w5.frozen? ⟨wr.heap.size, 2, none⟩ = false ∧ w5.frozen? ⟨wr.heap.size, 3, none⟩ = false) ∧ wr.heap.size < w5.heap.size from by
          have p5 := (st5.keep.touch.block wr.heap.size (by show _ < (wr.alloc (.cells #[.slice none 0 0, .int .i64 0, .int .i64 0, .bool false] 42)).heap.size; simp) (fun hf => by have := HPk.out.both.fp _ hf; omega)).trans (heap_alloc_new wr (.cells #[.slice none 0 0, .int .i64 0, .int .i64 0, .bool false] 42))
          refine ⟨⟨?_, ?_, ?_, ?_⟩, ⟨?_, ?_, ?_, ?_⟩, lt_of_block p5⟩ <;> simp [World.cell?, World.frozen?, p5])
        unfold mcells at HD1 HD2
        go_wp2_with fail
        go_region_with (first | (go_at_call 20; ((with_reducible refine HD1.out.mono ?_); rintro e w5 ⟨v5, m5, rfl, h5, st5⟩; have st := HT1.out _ _ _ st5; obtain ⟨⟨e0, e1, e2, e3⟩, ⟨f0, f1, f2, f3⟩, lt5⟩ := HF.out _ _ _ h5 st; obtain ⟨a5, c5, e5, _⟩ := h5.rf; unfold rfv at e5; subst e5; have HP5 := Lib.hid (HPk.out.next1 h5 st5); clear h5 st st5)) | (go_at_call 20; ((with_reducible refine HD2.out.mono ?_); rintro e w5 ⟨v5, m5, rfl, h5, st5⟩; have st := HT2.out _ _ _ st5; obtain ⟨⟨e0, e1, e2, e3⟩, ⟨f0, f1, f2, f3⟩, lt5⟩ := HF.out _ _ _ h5 st; obtain ⟨⟨g0, g1, g2, g3⟩, ⟨i0, i1, i2, i3⟩, lt6⟩ := HN2.out _ _ _ st5; obtain ⟨a5, c5, e5, _⟩ := h5.rf; unfold rfv at e5; subst e5; have HP5 := Lib.hid (HPk.out.next2 h5 st5); clear h5 st st5)))
        all_goals
          go_wp2_with fail
          refine (alike_any _ b v5 _ s5 HP5.out.both).mono ?_
          rintro e w6 ⟨rfl, hb6⟩
          have HP6 := Lib.hid (HP5.out.below hb6)
          clear hb6
          go_wp2
          go_roundw
          case rel => exact ⟨k + 1, v5, a5, c5, s5, by omega, by go_num, HP6.out⟩
          case measure => simp [intOf]; omega
      · go_wp2
        go_ret
        exact ⟨rfl, HPk.out.bel⟩

theorem walk (v0 : Value) (w : World) (w0 : Is39 w v0) :
    Calls Try.prog 6 #[v0] w fun e w' => e = .returned (.bool true) ∧ Below w.heap.size w w' := by
  obtain ⟨l, h1, h2⟩ := w0
  exact core v0 l w h1 h2
end storePlays
end Go.Proofs.Ythfddgffanajaaa
