/-
  bay: Put (printed by wip/tools/gen_put.py).
-/
import Derived.Test.YtllaahdbngjigaaDoorCl2
import Derived.Laws.EntriesVeiled
namespace Go.Proofs.YtllaahdbngjigaaDoor
open Go Go.RowKit
set_option linter.unusedVariables false
set_option linter.unusedSimpArgs false

/-- The world in which Put's conditions are tried. -/
def putW (w : World) (bh : Nat) (x : Ld) : World := ((w.alloc (.cells #[.pointer (some ⟨bh, 0, none⟩)] 30)).alloc (.cells #[.int .i64 x.b, .int .i64 x.r, .int .i64 x.t, .string x.nm, .int .i64 x.wt, .int .i64 x.cl, .int .i64 x.pt] 37)).alloc (.cells #[.int .i64 1, .func (.func 28) #[] #[.pointer (some ⟨w.heap.size + 1, 0, none⟩)], .int .i64 5, .func (.func 30) #[] #[.pointer (some ⟨w.heap.size, 0, none⟩), .pointer (some ⟨w.heap.size + 1, 0, none⟩)], .int .i64 3, .func (.func 31) #[] #[.pointer (some ⟨w.heap.size, 0, none⟩), .pointer (some ⟨w.heap.size + 1, 0, none⟩)], .int .i64 8, .func (.func 33) #[] #[.pointer (some ⟨w.heap.size, 0, none⟩), .pointer (some ⟨w.heap.size + 1, 0, none⟩)], .int .i64 6, .func (.func 34) #[] #[.pointer (some ⟨w.heap.size, 0, none⟩), .pointer (some ⟨w.heap.size + 1, 0, none⟩)], .int .i64 7, .func (.func 36) #[] #[.pointer (some ⟨w.heap.size, 0, none⟩), .pointer (some ⟨w.heap.size + 1, 0, none⟩)], .int .i64 12, .func (.func 38) #[] #[.pointer (some ⟨w.heap.size, 0, none⟩), .pointer (some ⟨w.heap.size + 1, 0, none⟩)]] 80)
theorem putW_below (w : World) (bh : Nat) (x : Ld) : Below w.heap.size w (putW w bh x) := (((Below.refl _ _).alloc (Nat.le_refl _) _).alloc (by simp) _).alloc (by simp; omega) _
theorem putW_size (w : World) (bh : Nat) (x : Ld) : (putW w bh x).heap.size = w.heap.size + 3 := by simp [putW]
theorem putW_env {w : World} {bh bs bn : Nat} {s : Shp} {L : List Ld} (x : Ld) (h : HoldIs w bh bs bn s L) (ha : Apt w) : PEnv (putW w bh x) w.heap.size (w.heap.size + 1) bh bs bn s L x := by
  have e1 : (w.alloc (.cells #[.pointer (some ⟨bh, 0, none⟩)] 30)).heap.size = w.heap.size + 1 := by simp
  refine ⟨?_, ?_, h.below (putW_below w bh x), ha.below (putW_below w bh x)⟩
  · exact cell_alloc (cell_alloc (new_cell w _ _ rfl) _) _
  · rw [← e1]
    have q := LdAt.of_block (x := x) (heap_alloc_new (w.alloc (.cells #[.pointer (some ⟨bh, 0, none⟩)] 30)) (.cells #[.int .i64 x.b, .int .i64 x.r, .int .i64 x.t, .string x.nm, .int .i64 x.wt, .int .i64 x.cl, .int .i64 x.pt] 37))
    exact q.below ((Below.refl _ _).alloc (Nat.le_refl _) _)
theorem putW_lit (w : World) (bh : Nat) (x : Ld) {j : Nat} {v : Value} (h : (#[.int .i64 1, .func (.func 28) #[] #[.pointer (some ⟨w.heap.size + 1, 0, none⟩)], .int .i64 5, .func (.func 30) #[] #[.pointer (some ⟨w.heap.size, 0, none⟩), .pointer (some ⟨w.heap.size + 1, 0, none⟩)], .int .i64 3, .func (.func 31) #[] #[.pointer (some ⟨w.heap.size, 0, none⟩), .pointer (some ⟨w.heap.size + 1, 0, none⟩)], .int .i64 8, .func (.func 33) #[] #[.pointer (some ⟨w.heap.size, 0, none⟩), .pointer (some ⟨w.heap.size + 1, 0, none⟩)], .int .i64 6, .func (.func 34) #[] #[.pointer (some ⟨w.heap.size, 0, none⟩), .pointer (some ⟨w.heap.size + 1, 0, none⟩)], .int .i64 7, .func (.func 36) #[] #[.pointer (some ⟨w.heap.size, 0, none⟩), .pointer (some ⟨w.heap.size + 1, 0, none⟩)], .int .i64 12, .func (.func 38) #[] #[.pointer (some ⟨w.heap.size, 0, none⟩), .pointer (some ⟨w.heap.size + 1, 0, none⟩)]] : Array Value)[j]? = some v) : (putW w bh x).cell? ⟨w.heap.size + 2, j, none⟩ = some v := by
  have e1 : ((w.alloc (.cells #[.pointer (some ⟨bh, 0, none⟩)] 30)).alloc (.cells #[.int .i64 x.b, .int .i64 x.r, .int .i64 x.t, .string x.nm, .int .i64 x.wt, .int .i64 x.cl, .int .i64 x.pt] 37)).heap.size = w.heap.size + 2 := by simp
  rw [← e1]
  exact new_cell _ _ _ h
theorem hs_set {w : World} {b i : Nat} {cs : Array Value} {e : TypeId} {u : Value} (h : w.heap[b]? = some (.cells cs e (0, 0))) : (w.setCell ⟨b, i, none⟩ u).heap[b]? = some (.cells (cs.setIfInBounds i u) e (0, 0)) := by
  simp only [World.setCell, Array.getElem?_modify, if_pos, h]
  rfl
theorem HoldIs.tot {w : World} {bh bs bn : Nat} {s : Shp} {L L2 : List Ld} (hb : w.heap[bh]? = some (.cells (holdA s bs bn (wsum L)) 78 (0, 0))) (hs : MP w bs (L2.map keyS)) (hn : MP w bn (L2.map keyN)) (h1 : bh ≠ bs) (h2 : bh ≠ bn) (h3 : bs ≠ bn) :
    HoldIs (w.setCell ⟨bh, 11, none⟩ (.int .i64 (wsum L2))) bh bs bn s L2 := by
  have ht : Touch (fun k => k = bh) w (w.setCell ⟨bh, 11, none⟩ (.int .i64 (wsum L2))) := (Touch.refl (fun k => k = bh) w).setCell (p := ⟨bh, 11, none⟩) (.inl rfl) _
  refine ⟨?_, hs.touch ht (fun e => h1 e.symm), hn.touch ht (fun e => h2 e.symm), h3⟩
  rw [hs_set hb]
  rfl
/-- What a put leaves. -/
def PutPost (w : World) (bh bs bn : Nat) (s : Shp) (L : List Ld) (x : Ld) (e : Ending) (w' : World) : Prop :=
  e = .returned (.int .i64 (putE s L x)) ∧ HoldIs w' bh bs bn s (if putE s L x = 0 then L ++ [x] else L) ∧ Touch (HoldS bh bs bn) w w'
theorem put_no {w w' : World} {bh bs bn : Nat} {s : Shp} {L : List Ld} {x : Ld} {c : Int} (h : HoldIs w bh bs bn s L) (hp : putE s L x = c) (hc : c ≠ 0) (hb : Below w.heap.size w w') : PutPost w bh bs bn s L x (.returned (.int .i64 c)) w' := by
  subst hp
  refine ⟨rfl, ?_, Touch.of_below hb⟩
  rw [if_neg hc]
  exact h.below hb
theorem put_yes {w w7 v4 : World} {bh bs bn : Nat} {s : Shp} {L : List Ld} {x : Ld} (hb : Below w.heap.size w w7) (ht : Touch (fun k => k = bs ∨ k = bn) w7.drew v4) (hb4 : v4.heap[bh]? = some (.cells (holdA s bs bn (wsum L)) 78 (0, 0)))
    (ms : MP v4 bs ((L ++ [x]).map keyS)) (mn : MP v4 bn ((L ++ [x]).map keyN)) (hn : HoldIs w7 bh bs bn s L) (hp : putE s L x = 0) (ha : wsum (L ++ [x]) = wsum L + x.wt) :
    PutPost w bh bs bn s L x (.returned (.int .i64 0)) ((v4.setCell ⟨bh, 11, none⟩ (.int .i64 (wsum L + x.wt))).drew) := by
  refine ⟨by rw [hp], ?_, ?_⟩
  · rw [if_pos hp]
    have h := HoldIs.tot hb4 ms mn hn.nes.1 hn.nes.2 hn.ne2
    rw [ha] at h
    exact h.heap rfl
  · have h1 : Touch (HoldS bh bs bn) w7.drew v4 := ht.mono (fun k e => e.elim (fun e => .inr (.inl e)) (fun e => .inr (.inr e)))
    exact (((Touch.of_below hb.drew).trans h1 (fun k e => .inl e)).setCell (p := ⟨bh, 11, none⟩) (.inl (.inl rfl)) _).drew
/-- The two maps' entries, laid one behind the other. -/
structure Four (w8 : World) (bh bs bn : Nat) (s : Shp) (L : List Ld) (x : Ld) (n1 n2 : Nat) (w1 w2 w3 w4 : World) : Prop where
  r1 : (Instr.mapEntry 75 (.map (some bs)) (.agg #[.int .i64 x.b, .int .i64 x.r, .int .i64 x.t])).run Tryd.prog w8 = .ok (.tuple #[.agg #[.int .i64 0, .int .i64 0, .int .i64 0, .string ⟨#[]⟩, .int .i64 0, .int .i64 0, .int .i64 0], .int .i64 (n1 : Int)]) w1
  r2 : (Instr.entryStore 75 (.map (some bs)) (.int .i64 (n1 : Int)) (.agg #[.int .i64 x.b, .int .i64 x.r, .int .i64 x.t, .string x.nm, .int .i64 x.wt, .int .i64 x.cl, .int .i64 x.pt])).run Tryd.prog w1 = .ok () w2
  r3 : (Instr.mapEntry 76 (.map (some bn)) (.string x.nm)).run Tryd.prog w2 = .ok (.tuple #[.agg #[.int .i64 0, .int .i64 0, .int .i64 0, .string ⟨#[]⟩, .int .i64 0, .int .i64 0, .int .i64 0], .int .i64 (n2 : Int)]) w3
  r4 : (Instr.entryStore 76 (.map (some bn)) (.int .i64 (n2 : Int)) (.agg #[.int .i64 x.b, .int .i64 x.r, .int .i64 x.t, .string x.nm, .int .i64 x.wt, .int .i64 x.cl, .int .i64 x.pt])).run Tryd.prog w3 = .ok () w4
  t1 : Touch (fun k => k = bs ∨ k = bn) w8 w1
  t2 : Touch (fun k => k = bs ∨ k = bn) w8 w2
  t3 : Touch (fun k => k = bs ∨ k = bn) w8 w3
  t4 : Touch (fun k => k = bs ∨ k = bn) w8 w4
  ms : MP w4 bs ((L ++ [x]).map keyS)
  mn : MP w4 bn ((L ++ [x]).map keyN)
theorem four_of {w8 : World} {bh bs bn : Nat} {s : Shp} {L : List Ld} {x : Ld} (h : HoldIs w8 bh bs bn s L) (hL : AllFine L) (hx : x.fine) (hn16 : x.nm.size ≤ 16) (ha : atL L x.b x.r x.t = none) (hn : ∀ y ∈ L, y.nm ≠ x.nm) :
    ∃ n1 n2 w1 w2 w3 w4, Four w8 bh bs bn s L x n1 n2 w1 w2 w3 w4 := by
  obtain ⟨l1, hl1⟩ := slot_key (b := x.b) (r := x.r) (t := x.t) (by have := hx.b; omega) (by have := hx.r; omega) (by have := hx.t; omega)
  obtain ⟨l2, hl2⟩ := name_key hn16
  obtain ⟨n1, w1, r1, t1, hst1⟩ := mp_entry slotK Tryd.underlying75 h.ms (keysS hL) hl1 (by
    intro p hp e
    obtain ⟨y, hy, rfl⟩ := List.mem_map.1 hp
    obtain ⟨e1, e2, e3⟩ := slot_inj e
    exact atL_none ha y hy ⟨e1, e2, e3⟩) x.val (ld_zero w8)
  obtain ⟨w2, r2, m2, t2⟩ := hst1 (fun _ => False) w1 (Touch.refl _ _) id
  have t12 : Touch (fun k => k = bs ∨ k = bn) w8 w2 := (t1.mono (fun k e => .inl e)).trans t2 (fun k e => .inl (.inl e))
  have hmn := h.mn.touch (t1.trans t2 (fun k e => .inl e)) (fun e => h.ne2 e.symm)
  obtain ⟨n2, w3, r3, t3, hst2⟩ := mp_entry nameK Tryd.underlying76 hmn (keysN hL) hl2 (by
    intro p hp e
    obtain ⟨y, hy, rfl⟩ := List.mem_map.1 hp
    injection e with e
    exact hn y hy e) x.val (ld_zero w2)
  obtain ⟨w4, r4, m4, t4⟩ := hst2 (fun _ => False) w3 (Touch.refl _ _) id
  have t13 : Touch (fun k => k = bs ∨ k = bn) w8 w3 := t12.trans t3 (fun k e => .inl (.inr e))
  refine ⟨n1, n2, w1, w2, w3, w4, r1, r2, r3, r4, t1.mono (fun k e => .inl e), t12, t13, t13.trans t4 (fun k e => .inl (.inr e)), ?_, ?_⟩
  · rw [List.map_append]
    exact m2.touch (t3.trans t4 (fun k e => .inl e)) h.ne2
  · rw [List.map_append]
    exact m4
theorem four_env {w8 w' : World} {p q bh bs bn : Nat} {s : Shp} {L : List Ld} {x : Ld} (h : PEnv w8 p q bh bs bn s L x) (hp : p ≠ bs ∧ p ≠ bn) (hq : q ≠ bs ∧ q ≠ bn) (ht : Touch (fun k => k = bs ∨ k = bn) w8 w') :
    w'.cell? ⟨p, 0, none⟩ = some (.pointer (some ⟨bh, 0, none⟩)) ∧ LdAt w' q x ∧ w'.cell? ⟨bh, 9, none⟩ = some (.map (some bs)) ∧ w'.cell? ⟨bh, 10, none⟩ = some (.map (some bn)) ∧ w'.heap[bh]? = some (.cells (holdA s bs bn (wsum L)) 78 (0, 0)) := by
  have hne := h.h.nes
  have hq' : ¬ (q = bs ∨ q = bn) := fun e => e.elim hq.1 hq.2
  have hb' : ¬ (bh = bs ∨ bh = bn) := fun e => e.elim hne.1 hne.2
  exact ⟨cell_touch h.p ht (fun e => e.elim hp.1 hp.2), ⟨cell_touch h.q.c0 ht hq', cell_touch h.q.c1 ht hq', cell_touch h.q.c2 ht hq', cell_touch h.q.c3 ht hq', cell_touch h.q.c4 ht hq', cell_touch h.q.c5 ht hq', cell_touch h.q.c6 ht hq'⟩,
    cell_touch h.h.c9 ht hb', cell_touch h.h.c10 ht hb', (ht.block bh h.h.lt.1 hb').trans h.h.h⟩

set_option maxRecDepth 100000 in
set_option maxHeartbeats 16000000 in
theorem put_any (w : World) (bh bs bn : Nat) (s : Shp) (L : List Ld) (x : Ld) (h : HoldIs w bh bs bn s L) (hL : AllFine L) (hl : L.length ≤ 19) (hs : s.fine) (hx : x.ok) (hn : ∀ y ∈ L, y.nm ≠ x.nm) (ha : Apt w) :
    Calls Tryd.prog 9 #[.pointer (some ⟨bh, 0, none⟩), .agg #[.int .i64 x.b, .int .i64 x.r, .int .i64 x.t, .string x.nm, .int .i64 x.wt, .int .i64 x.cl, .int .i64 x.pt]] w (PutPost w bh bs bn s L x) := by
  have HP := Lib.hid (putW_env x h ha)
  have H := Lib.hid h
  have HPB := Lib.hid (putW_below w bh x)
  have HPS := Lib.hid (putW_size w bh x)
  have HC1 := Lib.hid (fun W (hW : PEnv W w.heap.size (w.heap.size + 1) bh bs bn s L x) => cls1 W _ _ bh bs bn s L x hW hx)
  have HC2 := Lib.hid (fun W (hW : PEnv W w.heap.size (w.heap.size + 1) bh bs bn s L x) => cls2 W _ _ bh bs bn s L x hW hL hx.name.hi hn)
  have HC3 := Lib.hid (fun W (hW : PEnv W w.heap.size (w.heap.size + 1) bh bs bn s L x) => cls3 W _ _ bh bs bn s L x hW hs hx.fine)
  have HC4 := Lib.hid (fun W (hW : PEnv W w.heap.size (w.heap.size + 1) bh bs bn s L x) => cls4 W _ _ bh bs bn s L x hW hL hx.fine)
  have HC5 := Lib.hid (fun W (hW : PEnv W w.heap.size (w.heap.size + 1) bh bs bn s L x) => cls5 W _ _ bh bs bn s L x hW hL hx.fine)
  have HC6 := Lib.hid (fun W (hW : PEnv W w.heap.size (w.heap.size + 1) bh bs bn s L x) => cls6 W _ _ bh bs bn s L x hW hL (by omega) hx.fine)
  have HC7 := Lib.hid (fun W (hW : PEnv W w.heap.size (w.heap.size + 1) bh bs bn s L x) => cls7 W _ _ bh bs bn s L x hW hL hx.fine)
  have HE := Lib.hid (show putE s L x = if hasB s x = false then 3 else if (atL L x.b x.r x.t).isSome = true then 8 else if unB L x = true then 6 else if fullB s L x = true then 7 else if apF L x = true then 12 else 0 from rfl)
  have HF := Lib.hid (fun W (hW : HoldIs W bh bs bn s L) (ho : (atL L x.b x.r x.t).isSome = false) => four_of hW hL hx.fine hx.name.hi (by
    cases e : atL L x.b x.r x.t with
    | none => rfl
    | some y => rw [e] at ho; cases ho) hn)
  have hwt := hx.fine.wt
  have hws := wsum_bd L (allFine_mem hL)
  have HLn := Lib.hid hl
  have hu : 0 ≤ wsum L ∧ wsum L ≤ 100000 := by omega
  have HA2 := Lib.hid (wsum_app L [x])
  rw [wsum_one] at HA2
  obtain ⟨r3, hr3⟩ : ∃ r, r = hasB s x := ⟨_, rfl⟩
  obtain ⟨r4, hr4⟩ : ∃ r, r = (atL L x.b x.r x.t).isSome := ⟨_, rfl⟩
  obtain ⟨r5, hr5⟩ : ∃ r, r = unB L x := ⟨_, rfl⟩
  obtain ⟨r6, hr6⟩ : ∃ r, r = fullB s L x := ⟨_, rfl⟩
  obtain ⟨r7, hr7⟩ : ∃ r, r = apF L x := ⟨_, rfl⟩
  rw [← hr3] at HC3 HE
  rw [← hr4] at HC4 HE HF
  rw [← hr5] at HC5 HE
  rw [← hr6] at HC6 HE
  rw [← hr7] at HC7 HE
  clear h hL hl hs hx hn ha hr3 hr4 hr5 hr6 hr7 hws
  go_enter Tryd.func9, Tryd.ntmps9
  go_wp2
  rw [show ((w.alloc (.cells #[.pointer (some ⟨bh, 0, none⟩)] 30)).alloc (.cells #[.int .i64 x.b, .int .i64 x.r, .int .i64 x.t, .string x.nm, .int .i64 x.wt, .int .i64 x.cl, .int .i64 x.pt] 37)).alloc (.cells #[.int .i64 1, .func (.func 28) #[] #[.pointer (some ⟨w.heap.size + 1, 0, none⟩)], .int .i64 5, .func (.func 30) #[] #[.pointer (some ⟨w.heap.size, 0, none⟩), .pointer (some ⟨w.heap.size + 1, 0, none⟩)], .int .i64 3, .func (.func 31) #[] #[.pointer (some ⟨w.heap.size, 0, none⟩), .pointer (some ⟨w.heap.size + 1, 0, none⟩)], .int .i64 8, .func (.func 33) #[] #[.pointer (some ⟨w.heap.size, 0, none⟩), .pointer (some ⟨w.heap.size + 1, 0, none⟩)], .int .i64 6, .func (.func 34) #[] #[.pointer (some ⟨w.heap.size, 0, none⟩), .pointer (some ⟨w.heap.size + 1, 0, none⟩)], .int .i64 7, .func (.func 36) #[] #[.pointer (some ⟨w.heap.size, 0, none⟩), .pointer (some ⟨w.heap.size + 1, 0, none⟩)], .int .i64 12, .func (.func 38) #[] #[.pointer (some ⟨w.heap.size, 0, none⟩), .pointer (some ⟨w.heap.size + 1, 0, none⟩)]] 80) = putW w bh x from rfl]
  have HB0 := Lib.hid (Below.refl (putW w bh x).heap.size (putW w bh x))
  obtain ⟨w0, hw0⟩ : ∃ w0, w0 = putW w bh x := ⟨_, rfl⟩
  have HW := Lib.hid (fun (j : Nat) (v : Value) (h : (#[.int .i64 1, .func (.func 28) #[] #[.pointer (some ⟨w.heap.size + 1, 0, none⟩)], .int .i64 5, .func (.func 30) #[] #[.pointer (some ⟨w.heap.size, 0, none⟩), .pointer (some ⟨w.heap.size + 1, 0, none⟩)], .int .i64 3, .func (.func 31) #[] #[.pointer (some ⟨w.heap.size, 0, none⟩), .pointer (some ⟨w.heap.size + 1, 0, none⟩)], .int .i64 8, .func (.func 33) #[] #[.pointer (some ⟨w.heap.size, 0, none⟩), .pointer (some ⟨w.heap.size + 1, 0, none⟩)], .int .i64 6, .func (.func 34) #[] #[.pointer (some ⟨w.heap.size, 0, none⟩), .pointer (some ⟨w.heap.size + 1, 0, none⟩)], .int .i64 7, .func (.func 36) #[] #[.pointer (some ⟨w.heap.size, 0, none⟩), .pointer (some ⟨w.heap.size + 1, 0, none⟩)], .int .i64 12, .func (.func 38) #[] #[.pointer (some ⟨w.heap.size, 0, none⟩), .pointer (some ⟨w.heap.size + 1, 0, none⟩)]] : Array Value)[j]? = some v) => putW_lit w bh x h)
  rw [← hw0] at HP HPB HPS HB0 HW ⊢
  clear hw0
  refine wp_loop_rounds 8 ?_

  rw [rounds_succ]
  have k0 := cell_later HB0.out (HW.out 0 _ rfl)
  have k1 := cell_later HB0.out (HW.out 1 _ rfl)
  have HA0 := Lib.hid (btw HB0.out ((Below.refl w0.heap.size w0).alloc (Nat.le_refl _) (.cells #[.int .i64 1, .func (.func 28) #[] #[.pointer (some ⟨w.heap.size + 1, 0, none⟩)]] 80)))
  have HX := Lib.hid (HC1.out _ (HP.out.below HA0.out))
  go_wp2_with fail
  refine HX.out.mono ?_
  rintro e w1 ⟨rfl, hb⟩
  have HB1 := Lib.hid (btw HA0.out hb)
  have e0 := cell_later hb (new_cell w0 _ _ (j := 0) rfl)
  clear hb k0 k1 HX HA0
  clear e0
  go_wp2
  rw [rounds_succ]
  have k0 := cell_later HB1.out (HW.out 2 _ rfl)
  have k1 := cell_later HB1.out (HW.out 3 _ rfl)
  have HA1 := Lib.hid (btw HB1.out ((Below.refl w1.heap.size w1).alloc (Nat.le_refl _) (.cells #[.int .i64 5, .func (.func 30) #[] #[.pointer (some ⟨w.heap.size, 0, none⟩), .pointer (some ⟨w.heap.size + 1, 0, none⟩)]] 80)))
  have HX := Lib.hid (HC2.out _ (HP.out.below HA1.out))
  go_wp2_with fail
  refine HX.out.mono ?_
  rintro e w2 ⟨rfl, hb⟩
  have HB2 := Lib.hid (btw HA1.out hb)
  have e0 := cell_later hb (new_cell w1 _ _ (j := 0) rfl)
  clear hb k0 k1 HX HA1
  clear e0
  go_wp2
  rw [rounds_succ]
  have k0 := cell_later HB2.out (HW.out 4 _ rfl)
  have k1 := cell_later HB2.out (HW.out 5 _ rfl)
  have HA2 := Lib.hid (btw HB2.out ((Below.refl w2.heap.size w2).alloc (Nat.le_refl _) (.cells #[.int .i64 3, .func (.func 31) #[] #[.pointer (some ⟨w.heap.size, 0, none⟩), .pointer (some ⟨w.heap.size + 1, 0, none⟩)]] 80)))
  have HX := Lib.hid (HC3.out _ (HP.out.below HA2.out))
  go_wp2_with fail
  refine HX.out.mono ?_
  rintro e w3 ⟨rfl, hb⟩
  have HB3 := Lib.hid (btw HA2.out hb)
  have e0 := cell_later hb (new_cell w2 _ _ (j := 0) rfl)
  clear hb k0 k1 HX HA2
  cases r3 with
  | false =>
    go_wp2
    go_ret
    exact put_no H.out (by rw [HE.out]; rfl) (by decide) (btw HPB.out HB3.out)
  | true =>
    clear e0
    go_wp2
    rw [rounds_succ]
    have k0 := cell_later HB3.out (HW.out 6 _ rfl)
    have k1 := cell_later HB3.out (HW.out 7 _ rfl)
    have HA3 := Lib.hid (btw HB3.out ((Below.refl w3.heap.size w3).alloc (Nat.le_refl _) (.cells #[.int .i64 8, .func (.func 33) #[] #[.pointer (some ⟨w.heap.size, 0, none⟩), .pointer (some ⟨w.heap.size + 1, 0, none⟩)]] 80)))
    have HX := Lib.hid (HC4.out _ (HP.out.below HA3.out))
    go_wp2_with fail
    refine HX.out.mono ?_
    rintro e w4 ⟨rfl, hb⟩
    have HB4 := Lib.hid (btw HA3.out hb)
    have e0 := cell_later hb (new_cell w3 _ _ (j := 0) rfl)
    clear hb k0 k1 HX HA3
    cases r4 with
    | true =>
      go_wp2
      go_ret
      exact put_no H.out (by rw [HE.out]; rfl) (by decide) (btw HPB.out HB4.out)
    | false =>
      clear e0
      go_wp2
      rw [rounds_succ]
      have k0 := cell_later HB4.out (HW.out 8 _ rfl)
      have k1 := cell_later HB4.out (HW.out 9 _ rfl)
      have HA4 := Lib.hid (btw HB4.out ((Below.refl w4.heap.size w4).alloc (Nat.le_refl _) (.cells #[.int .i64 6, .func (.func 34) #[] #[.pointer (some ⟨w.heap.size, 0, none⟩), .pointer (some ⟨w.heap.size + 1, 0, none⟩)]] 80)))
      have HX := Lib.hid (HC5.out _ (HP.out.below HA4.out))
      go_wp2_with fail
      refine HX.out.mono ?_
      rintro e w5 ⟨rfl, hb⟩
      have HB5 := Lib.hid (btw HA4.out hb)
      have e0 := cell_later hb (new_cell w4 _ _ (j := 0) rfl)
      clear hb k0 k1 HX HA4
      cases r5 with
      | true =>
        go_wp2
        go_ret
        exact put_no H.out (by rw [HE.out]; rfl) (by decide) (btw HPB.out HB5.out)
      | false =>
        clear e0
        go_wp2
        rw [rounds_succ]
        have k0 := cell_later HB5.out (HW.out 10 _ rfl)
        have k1 := cell_later HB5.out (HW.out 11 _ rfl)
        have HA5 := Lib.hid (btw HB5.out ((Below.refl w5.heap.size w5).alloc (Nat.le_refl _) (.cells #[.int .i64 7, .func (.func 36) #[] #[.pointer (some ⟨w.heap.size, 0, none⟩), .pointer (some ⟨w.heap.size + 1, 0, none⟩)]] 80)))
        have HX := Lib.hid (HC6.out _ (HP.out.below HA5.out))
        go_wp2_with fail
        refine HX.out.mono ?_
        rintro e w6 ⟨rfl, hb⟩
        have HB6 := Lib.hid (btw HA5.out hb)
        have e0 := cell_later hb (new_cell w5 _ _ (j := 0) rfl)
        clear hb k0 k1 HX HA5
        cases r6 with
        | true =>
          go_wp2
          go_ret
          exact put_no H.out (by rw [HE.out]; rfl) (by decide) (btw HPB.out HB6.out)
        | false =>
          clear e0
          go_wp2
          rw [rounds_succ]
          have k0 := cell_later HB6.out (HW.out 12 _ rfl)
          have k1 := cell_later HB6.out (HW.out 13 _ rfl)
          have HA6 := Lib.hid (btw HB6.out ((Below.refl w6.heap.size w6).alloc (Nat.le_refl _) (.cells #[.int .i64 12, .func (.func 38) #[] #[.pointer (some ⟨w.heap.size, 0, none⟩), .pointer (some ⟨w.heap.size + 1, 0, none⟩)]] 80)))
          have HX := Lib.hid (HC7.out _ (HP.out.below HA6.out))
          go_wp2_with fail
          refine HX.out.mono ?_
          rintro e w7 ⟨rfl, hb⟩
          have HB7 := Lib.hid (btw HA6.out hb)
          have e0 := cell_later hb (new_cell w6 _ _ (j := 0) rfl)
          clear hb k0 k1 HX HA6
          cases r7 with
          | true =>
            go_wp2
            go_ret
            exact put_no H.out (by rw [HE.out]; rfl) (by decide) (btw HPB.out HB7.out)
          | false =>
            clear e0
            go_wp2
            rw [rounds_succ]
            have hH := (HP.out.below HB7.out)
            obtain ⟨n1, n2, v1, v2, v3, v4, hF⟩ := HF.out _ (hH.h.heap (w' := w7.drew) rfl) (by first | trivial | rfl)
            have hE := (hH.below (Below.refl _ _).drew)
            have hne1 : w.heap.size ≠ bs ∧ w.heap.size ≠ bn := by have := H.out.lt; omega
            have hne2 : w.heap.size + 1 ≠ bs ∧ w.heap.size + 1 ≠ bn := by have := H.out.lt; omega
            have E0 := four_env hE hne1 hne2 (Touch.refl _ _)
            have E1 := four_env hE hne1 hne2 hF.t1
            have E2 := four_env hE hne1 hne2 hF.t2
            have E3 := four_env hE hne1 hne2 hF.t3
            have E4 := four_env hE hne1 hne2 hF.t4
            have R1 := hF.r1
            have R2 := hF.r2
            have R3 := hF.r3
            have R4 := hF.r4
            have HFo := Lib.hid hF
            have HNe := Lib.hid hH.h
            clear hF hE hne1 hne2 hH
            obtain ⟨p0, ⟨a00, a01, a02, a03, a04, a05, a06⟩, b0, c0, -⟩ := E0
            obtain ⟨p1, ⟨a10, a11, a12, a13, a14, a15, a16⟩, b1, c1, -⟩ := E1
            obtain ⟨p2, ⟨a20, a21, a22, a23, a24, a25, a26⟩, b2, c2, -⟩ := E2
            obtain ⟨p3, ⟨a30, a31, a32, a33, a34, a35, a36⟩, b3, c3, -⟩ := E3
            obtain ⟨p4, ⟨-, -, -, -, a44, -, -⟩, -, -, hb4⟩ := E4
            have HB4 := Lib.hid hb4
            have d4 : v4.cell? ⟨bh, 11, none⟩ = some (.int .i64 (wsum L)) := by simp only [World.cell?, hb4]; rfl
            have f4 : v4.frozen? ⟨bh, 11, none⟩ = false := by simp only [World.frozen?, hb4]; rfl
            have v11 : IntKind.i64.wrap (wsum L + x.wt) = wsum L + x.wt := IntWalk.i64_in _ (by omega)
            generalize hZ : w7.drew = v0 at *
            clear hb4
            go_wp2_with fail
            go_region
            all_goals
              clear R1 R2 R3 R4 p0 a00 a01 a02 a03 a04 a05 a06 b0 c0 p1 a10 a11 a12 a13 a14 a15 a16 b1 c1 p2 a20 a21 a22 a23 a24 a25 a26 b2 c2 p3 a30 a31 a32 a33 a34 a35 a36 b3 c3
              go_wp2_with fail
              go_region
              all_goals
                go_wp2
                go_ret
                exact put_yes (btw HPB.out HB7.out) (by rw [hZ]; exact HFo.out.t4) HB4.out HFo.out.ms HFo.out.mn HNe.out (by rw [HE.out]; rfl) HA2.out
end Go.Proofs.YtllaahdbngjigaaDoor
