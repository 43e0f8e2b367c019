/-
  bay: Take.
-/
import Derived.Test.YtllaahdbngjigaaDoorPut
namespace Go.Proofs.YtllaahdbngjigaaDoor
open Go Go.RowKit Go.Maps
set_option linter.unusedVariables false
set_option linter.unusedSimpArgs false

/-- The world in which Take looks for what stands above. -/
def takeW (w : World) (x : Ld) : World := ((w.alloc zBox).alloc (ldBox x)).alloc (.cells #[.int .i64 x.b, .int .i64 x.r, .int .i64 (x.t + 1)] 35)
theorem takeW_below (w : World) (x : Ld) : Below w.heap.size w (takeW w x) := (((Below.refl _ _).alloc (Nat.le_refl _) _).alloc (by simp) _).alloc (by simp; omega) _
theorem takeW_size (w : World) (x : Ld) : (takeW w x).heap.size = w.heap.size + 3 := by simp [takeW]
theorem takeW_0 (w : World) (x : Ld) : (takeW w x).heap[w.heap.size]? = some zBox := by
  unfold takeW
  rw [Below.heap_alloc _ _ _ (by simp; omega), Below.heap_alloc _ _ _ (by simp)]
  exact heap_alloc_new w _
theorem takeW_1 (w : World) (x : Ld) : (takeW w x).heap[w.heap.size + 1]? = some (ldBox x) := by
  have e : (w.alloc zBox).heap.size = w.heap.size + 1 := by simp
  unfold takeW
  rw [Below.heap_alloc _ _ _ (by simp), ← e]
  exact heap_alloc_new _ _
theorem takeW_2 (w : World) (x : Ld) : (takeW w x).heap[w.heap.size + 2]? = some (.cells #[.int .i64 x.b, .int .i64 x.r, .int .i64 (x.t + 1)] 35) := by
  have e : ((w.alloc zBox).alloc (ldBox x)).heap.size = w.heap.size + 2 := by simp
  unfold takeW
  rw [← e]
  exact heap_alloc_new _ _
/-- The two entries, struck one behind the other. -/
structure Two (w8 : World) (bs bn : Nat) (L2 : List Ld) (x : Ld) (ty : TypeId) (w1 : World) : Prop where
  r1 : (Builtin.delete_ #[75, 35] ty #[.map (some bs), .agg #[.int .i64 x.b, .int .i64 x.r, .int .i64 x.t]]).run Tryd.prog w8 = .ok (.tuple #[]) w1
  t1 : Touch (fun k => k = bs) w8 w1
  m1 : MP w1 bs (L2.map keyS)
theorem two_of {w8 : World} {bh bs bn : Nat} {s : Shp} {L : List Ld} {x : Ld} {i : Nat} (h : HoldIs w8 bh bs bn s L) (hL : AllFine L) (hi : L[i]? = some x) (ty : TypeId) : ∃ w1, Two w8 bs bn (L.eraseIdx i) x ty w1 := by
  have hx := (hL x (List.mem_of_getElem? hi)).1
  obtain ⟨l1, hl1⟩ := slot_key (b := x.b) (r := x.r) (t := x.t) (by have := hx.b; omega) (by have := hx.r; omega) (by have := hx.t; omega)
  obtain ⟨w1, r1, m1, t1⟩ := mp_del slotK Tryd.underlying75 h.ms (keysS hL) hl1 ty i x.val (by rw [List.getElem?_map, hi]; rfl)
  refine ⟨w1, r1, t1, ?_⟩
  have e : (L.map keyS).eraseIdx i = (L.eraseIdx i).map keyS := by simp [List.eraseIdx_eq_take_drop_succ, List.map_append, List.map_take, List.map_drop]
  rw [← e]; exact m1
theorem one_of {w1 : World} {bn : Nat} {L : List Ld} {x : Ld} {i : Nat} (h : MP w1 bn (L.map keyN)) (hL : AllFine L) (hi : L[i]? = some x) (ty : TypeId) :
    ∃ w2, (Builtin.delete_ #[76, 9] ty #[.map (some bn), .string x.nm]).run Tryd.prog w1 = .ok (.tuple #[]) w2 ∧ Touch (fun k => k = bn) w1 w2 ∧ MP w2 bn ((L.eraseIdx i).map keyN) := by
  obtain ⟨l2, hl2⟩ := name_key (hL x (List.mem_of_getElem? hi)).2
  obtain ⟨w2, r2, m2, t2⟩ := mp_del nameK Tryd.underlying76 h (keysN hL) hl2 ty i x.val (by rw [List.getElem?_map, hi]; rfl)
  refine ⟨w2, r2, t2, ?_⟩
  have e : (L.map keyN).eraseIdx i = (L.eraseIdx i).map keyN := by simp [List.eraseIdx_eq_take_drop_succ, List.map_append, List.map_take, List.map_drop]
  rw [← e]; exact m2
theorem wsum_erase {L : List Ld} {i : Nat} {x : Ld} (h : L[i]? = some x) : wsum (L.eraseIdx i) = wsum L - x.wt := by
  obtain ⟨hi, e⟩ := List.getElem?_eq_some_iff.1 h
  have e2 : L = L.take i ++ (x :: L.drop (i + 1)) := by rw [← e, ← List.drop_eq_getElem_cons hi, List.take_append_drop]
  have e3 : L.eraseIdx i = L.take i ++ L.drop (i + 1) := List.eraseIdx_eq_take_drop_succ ..
  rw [e3]
  have e4 : wsum L = wsum (L.take i) + (x.wt + wsum (L.drop (i + 1))) := by
    have := congrArg wsum e2
    rw [wsum_app] at this
    rw [this]
    simp [wsum]
  rw [wsum_app, e4]
  omega
def TakePost (w : World) (bh bs bn : Nat) (s : Shp) (L : List Ld) (i : Nat) (x : Ld) (e : Ending) (w' : World) : Prop :=
  e = .returned (.tuple #[.agg #[.int .i64 x.b, .int .i64 x.r, .int .i64 x.t, .string x.nm, .int .i64 x.wt, .int .i64 x.cl, .int .i64 x.pt], .int .i64 0]) ∧ HoldIs w' bh bs bn s (L.eraseIdx i) ∧ Touch (HoldS bh bs bn) w w'
set_option maxRecDepth 100000 in
set_option maxHeartbeats 16000000 in
theorem take_any (w : World) (bh bs bn : Nat) (s : Shp) (L : List Ld) (i : Nat) (x : Ld) (h : HoldIs w bh bs bn s L) (hL : AllFine L) (hl : L.length ≤ 20) (hi : L[i]? = some x) (hab : atL L x.b x.r (x.t + 1) = none) :
    Calls Tryd.prog 13 #[.pointer (some ⟨bh, 0, none⟩), .string x.nm] w (TakePost w bh bs bn s L i x) := by
  have hx := (hL x (List.mem_of_getElem? hi)).1
  have m1 := hx.b
  have m2 := hx.r
  have m3 := hx.t
  have H := Lib.hid h
  have HI := Lib.hid hi
  have HL := Lib.hid hL
  have HLn := Lib.hid hl
  have hb0 := (Below.refl w.heap.size w).alloc (Nat.le_refl _) zBox
  have h0 := h.below hb0
  have c10 := h0.c10
  have hl0 := h0.named hL (List.mem_of_getElem? hi)
  have h3 := h.below (takeW_below w x)
  obtain ⟨W3, hW3⟩ : ∃ W3, W3 = takeW w x := ⟨_, rfl⟩
  have hz0 := takeW_0 w x
  have hz1 := takeW_1 w x
  have hz2 := takeW_2 w x
  have hzs := takeW_size w x
  have hzb := takeW_below w x
  rw [← hW3] at h3 hz0 hz1 hz2 hzs hzb
  have c9 := h3.c9
  have h3z := h3.below ((Below.refl _ _).alloc (Nat.le_refl _) zBox)
  have c9' := h3z.c9
  have s0 : W3.cell? ⟨w.heap.size + 2, 0, none⟩ = some (.int .i64 x.b) := by simp only [World.cell?, hz2]; rfl
  have s1 : W3.cell? ⟨w.heap.size + 2, 1, none⟩ = some (.int .i64 x.r) := by simp only [World.cell?, hz2]; rfl
  have s2 : W3.cell? ⟨w.heap.size + 2, 2, none⟩ = some (.int .i64 (x.t + 1)) := by simp only [World.cell?, hz2]; rfl
  have s0' := cell_alloc s0 zBox
  have s1' := cell_alloc s1 zBox
  have s2' := cell_alloc s2 zBox
  have hl3 := (h3.heap (w' := W3.drew) rfl).slot hL (b := x.b) (r := x.r) (t := x.t + 1) (by omega) (by omega) (by omega)
  have hl3' := (h3z.heap (w' := (W3.alloc zBox).drew) rfl).slot hL (b := x.b) (r := x.r) (t := x.t + 1) (by omega) (by omega) (by omega)
  rw [hab] at hl3 hl3'
  unfold lookV zLd Ld.val slotV at hl3 hl3'
  dsimp only at hl3 hl3'
  unfold Ld.val at hl0
  have HW3 := Lib.hid hW3
  have HZ := Lib.hid (And.intro hz0 (And.intro hz1 (And.intro hzs (And.intro hzb (And.intro h3 h3z)))))
  clear h hL hl hi hab hx hb0 h0 h3 h3z hz0 hz1 hz2 hzs hzb hW3
  unfold zBox at c10 hl0 c9' s0' s1' s2' hl3'
  go_enter Tryd.func13, Tryd.ntmps13
  go_wp2_with fail
  rw [show ((w.alloc (.cells #[.int .i64 0, .int .i64 0, .int .i64 0, .string ⟨#[]⟩, .int .i64 0, .int .i64 0, .int .i64 0] 37)).alloc (.cells #[.int .i64 x.b, .int .i64 x.r, .int .i64 x.t, .string x.nm, .int .i64 x.wt, .int .i64 x.cl, .int .i64 x.pt] 37)).alloc (.cells #[.int .i64 x.b, .int .i64 x.r, .int .i64 (x.t + 1)] 35) = W3 from HW3.out.symm]
  go_region
  all_goals
    obtain ⟨W4, hW4⟩ : ∃ W4, W4 = (W3.alloc zBox).drew := ⟨_, rfl⟩
    rw [show (W3.alloc (.cells #[.int .i64 0, .int .i64 0, .int .i64 0, .string ⟨#[]⟩, .int .i64 0, .int .i64 0, .int .i64 0] 37)).drew = W4 from hW4.symm]
    have H4 := Lib.hid (show HoldIs W4 bh bs bn s L by rw [hW4]; exact HZ.out.2.2.2.2.2.heap rfl)
    have hb4 : Below W3.heap.size W3 W4 := by rw [hW4]; exact ((Below.refl _ _).alloc (Nat.le_refl _) _).drew
    have HB4 := Lib.hid hb4
    have HZ0 := Lib.hid ((hb4.block _ (by have := HZ.out.2.2.1; omega)).trans HZ.out.1)
    have HZ1 := Lib.hid ((hb4.block _ (by have := HZ.out.2.2.1; omega)).trans HZ.out.2.1)
    clear hW4 hb4 c9 c9' s0 s1 s2 s0' s1' s2' hl3 hl3' c10 hl0
    go_wp2_with fail
    obtain ⟨W5, h5⟩ := two_of (H4.out.heap (w' := W4.drew) rfl) HL.out HI.out 0
    have e5 := h5.r1
    have d9 := H4.out.c9
    have q0 := (LdAt.of_block (x := x) (t := 37) (fz := (0, 0)) HZ1.out).c0
    have q1 := (LdAt.of_block (x := x) (t := 37) (fz := (0, 0)) HZ1.out).c1
    have q2 := (LdAt.of_block (x := x) (t := 37) (fz := (0, 0)) HZ1.out).c2
    have H5 := Lib.hid h5
    clear h5
    go_region
    all_goals
      clear e5 d9 q0 q1 q2
      obtain ⟨r1, t1, mS⟩ := H5.out
      have hH4 := H4.out.heap (w' := W4.drew) rfl
      have hlt4 := hH4.lt
      have hne := hH4.nes
      have b5 := (t1.block bh hlt4.1 hne.1).trans hH4.h
      have n5 := hH4.mn.touch t1 (fun e => hH4.ne2 e.symm)
      obtain ⟨W6, e6, t2, mN⟩ := one_of n5 HL.out HI.out 0
      have t12 : Touch (fun k => k = bs ∨ k = bn) W4.drew W6 := (t1.mono (fun k e => .inl e)).trans t2 (fun k e => .inl (.inr e))
      have hsz6 := t12.size
      have b6 := (t2.block bh (lt_of_block b5) hne.2).trans b5
      have mS6 := mS.touch t2 hH4.ne2
      have z0 := (t12.block w.heap.size (by have := HZ.out.2.2.1; have := HB4.out.size; show _ < W4.heap.size; omega) (by have := H.out.lt; omega)).trans HZ0.out
      have z1 := (t12.block (w.heap.size + 1) (by have := HZ.out.2.2.1; have := HB4.out.size; show _ < W4.heap.size; omega) (by have := H.out.lt; omega)).trans HZ1.out
      have d10 : W5.cell? ⟨bh, 10, none⟩ = some (.map (some bn)) := by simp only [World.cell?, b5]; rfl
      have d11 : W6.cell? ⟨bh, 11, none⟩ = some (.int .i64 (wsum L)) := by simp only [World.cell?, b6]; rfl
      have f11 : W6.frozen? ⟨bh, 11, none⟩ = false := by simp only [World.frozen?, b6]; rfl
      obtain ⟨q0, q1, q2, q3, q4, q5, q6⟩ := LdAt.of_block (x := x) (t := 37) (fz := (0, 0)) z1
      have hwt := (HL.out x (List.mem_of_getElem? HI.out)).1.wt
      have hws := wsum_bd L (allFine_mem HL.out)
      have hw2 : 0 ≤ wsum L ∧ wsum L ≤ 100000 := by have := HLn.out; omega
      have v11 : IntKind.i64.wrap (wsum L - x.wt) = wsum L - x.wt := IntWalk.i64_in _ (by omega)
      have HQ := Lib.hid (And.intro t12 (And.intro b6 (And.intro mS6 (And.intro mN (And.intro z0 z1)))))
      clear r1 t1 mS hH4 hlt4 hne b5 n5 t2 mN t12 hsz6 b6 mS6 z0 z1 hws
      go_wp2_with fail
      go_region
      all_goals
        clear d10 d11 f11 q0 q1 q2 q3 q4 q5 q6 e6 v11
        obtain ⟨W7, hW7⟩ : ∃ W7, W7 = (W6.setCell ⟨bh, 11, none⟩ (.int .i64 (wsum L - x.wt))).drew := ⟨_, rfl⟩
        rw [← hW7]
        obtain ⟨t12, b6, mS6, mN, z0, z1⟩ := HQ.out
        have t7 : Touch (fun k => k = bh) W6 W7 := by rw [hW7]; exact ((Touch.refl (fun k => k = bh) W6).setCell (p := ⟨bh, 11, none⟩) (.inl rfl) _).drew
        have hlo := H.out.lt
        have y0 := (t7.block _ (lt_of_block z0) (by omega)).trans z0
        have y1 := (t7.block _ (lt_of_block z1) (by omega)).trans z1
        have H7 := Lib.hid (show HoldIs W7 bh bs bn s (L.eraseIdx i) by
          have hne := H.out.nes
          have q := HoldIs.tot (s := s) (L := L) (L2 := L.eraseIdx i) b6 mS6 mN hne.1 hne.2 H.out.ne2
          rw [wsum_erase HI.out] at q
          rw [hW7]; exact q.heap rfl)
        have HT7 := Lib.hid (show Touch (HoldS bh bs bn) w W7 by
          have a1 : Touch (HoldS bh bs bn) w W4.drew := Touch.of_below (HZ.out.2.2.2.1.trans (HB4.out.drew.mono HZ.out.2.2.2.1.size))
          have a2 : Touch (HoldS bh bs bn) w W6 := a1.trans (t12.mono (S' := HoldS bh bs bn) (fun k e => e.elim (fun e => .inr (.inl e)) (fun e => .inr (.inr e)))) (fun k e => .inl e)
          exact a2.trans t7 (fun k e => .inl (.inl e)))
        obtain ⟨q0, q1, q2, q3, q4, q5, q6⟩ := LdAt.of_block (x := x) (t := 37) (fz := (0, 0)) y1
        obtain ⟨p0, p1, p2, p3, p4, p5, p6⟩ := LdAt.of_block (x := zLd) (t := 37) (fz := (0, 0)) y0
        have fz : ∀ j, W7.frozen? ⟨w.heap.size, j, none⟩ = false := fun j => by simp only [World.frozen?, y0]; rfl
        have f0 := fz 0
        have f1 := fz 1
        have f2 := fz 2
        have f3 := fz 3
        have f4 := fz 4
        have f5 := fz 5
        have f6 := fz 6
        have hsz7 := t7.size
        clear hW7 t12 b6 mS6 mN z0 z1 t7 y0 y1 fz hlo
        go_wp2
        refine bodyPost_ret (v := .tuple #[.agg #[.int .i64 x.b, .int .i64 x.r, .int .i64 x.t, .string x.nm, .int .i64 x.wt, .int .i64 x.cl, .int .i64 x.pt], .int .i64 0]) ?_ rfl ?_
        · simp [results, Tryd.results13, go_sem, p0, p1, p2, p3, p4, p5, p6]
        · have hlo := H.out.lt
          have t8 : ∀ (W : World) (b : Nat) (v0 v1 v2 v3 v4 v5 v6 : Value), Touch (fun k => k = b) W (((((((W.setCell ⟨b, 0, none⟩ v0).setCell ⟨b, 1, none⟩ v1).setCell ⟨b, 2, none⟩ v2).setCell ⟨b, 3, none⟩ v3).setCell ⟨b, 4, none⟩ v4).setCell ⟨b, 5, none⟩ v5).setCell ⟨b, 6, none⟩ v6) := fun W b v0 v1 v2 v3 v4 v5 v6 =>
            (((((((Touch.refl (fun k => k = b) W).setCell (p := ⟨b, 0, none⟩) (.inl rfl) v0).setCell (p := ⟨b, 1, none⟩) (.inl rfl) v1).setCell (p := ⟨b, 2, none⟩) (.inl rfl) v2).setCell (p := ⟨b, 3, none⟩) (.inl rfl) v3).setCell (p := ⟨b, 4, none⟩) (.inl rfl) v4).setCell (p := ⟨b, 5, none⟩) (.inl rfl) v5).setCell (p := ⟨b, 6, none⟩) (.inl rfl) v6
          have t9 := t8 W7 w.heap.size (.int .i64 x.b) (.int .i64 x.r) (.int .i64 x.t) (.string x.nm) (.int .i64 x.wt) (.int .i64 x.cl) (.int .i64 x.pt)
          exact ⟨rfl, H7.out.touch t9 (fun k hk e => by rcases hk with h | h | h <;> omega), HT7.out.trans t9 (fun k e => .inr (by omega))⟩
end Go.Proofs.YtllaahdbngjigaaDoor
