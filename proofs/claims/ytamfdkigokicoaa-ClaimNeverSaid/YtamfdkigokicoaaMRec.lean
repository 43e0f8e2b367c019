/-
  The document's Recover; acts. (Put together of XRRec, XCActs.)
-/
import Derived.Test.YtamfdkigokicoaaMRef
import Derived.Test.YtamfdkigokicoaaFRec2
import Derived.Test.YtamfdkigokicoaaCAwake
namespace Go.Proofs.Ytamfdkigokicoaa
open Go Go.RowKit Go.Deep
set_option linter.unusedVariables false
set_option linter.unusedSimpArgs false

/-- How the document's file, the result, the payments and the entries lie, while something comes back. -/
structure QEnv (w0 : World) (b2 b4 : Nat) (ag : Option Addr) (n cap : Nat) (w : World) (f : Fi) (L : List Pm) (vg : Value) (D : List En) : Prop where
  k2 : w.heap[b2]? = some (.cells #[.int .i64 f.loss, .int .i64 f.value, .slice ag n cap, .int .i64 f.own] 41 (0, 0))
  k4 : w.heap[b4]? = some (.cells #[.int .i64 0, .int .i64 0, .slice none 0 0, .int .i64 0] 41 (0, 0))
  row : w.ownsRow 0 81 3 (.slice ag n cap) n (L.flatMap Pm.cells)
  ent : w.ownsRow 0 59 3 vg D.length (D.flatMap En.cells)
  nl : n = L.length
  h2 : w0.heap.size ≤ b2
  h24 : b2 < b4
  hg : ∀ k, (Value.slice ag n cap).ownBlock = some k → b4 < k
  hv : ∀ k, vg.ownBlock = some k → b4 < k
  ne : ∀ k, (Value.slice ag n cap).ownBlock = some k → vg.ownBlock ≠ some k
  lt : b4 < w.heap.size
  bel : Below w0.heap.size w0 w

theorem QEnv.drewN {w0 w : World} {b2 b4 n cap : Nat} {ag : Option Addr} {f : Fi} {L : List Pm} {vg : Value} {D : List En} (h : QEnv w0 b2 b4 ag n cap w f L vg D) (q : Nat) : QEnv w0 b2 b4 ag n cap (w.drewN q) f L vg D := by
  obtain ⟨k2, k4, row, ent, nl, h2, h24, hg, hv, ne, lt, bel⟩ := h
  exact ⟨k2, k4, row, ent, nl, h2, h24, hg, hv, ne, lt, below_drewN bel q⟩
theorem QEnv.drew {w0 w : World} {b2 b4 n cap : Nat} {ag : Option Addr} {f : Fi} {L : List Pm} {vg : Value} {D : List En} (h : QEnv w0 b2 b4 ag n cap w f L vg D) : QEnv w0 b2 b4 ag n cap w.drew f L vg D := by
  obtain ⟨k2, k4, row, ent, nl, h2, h24, hg, hv, ne, lt, bel⟩ := h
  exact ⟨k2, k4, row, ent, nl, h2, h24, hg, hv, ne, lt, bel.drew⟩
theorem QEnv.boxes {w0 w : World} {b2 b4 n cap : Nat} {ag : Option Addr} {f : Fi} {L : List Pm} {vg : Value} {D : List En} (h : QEnv w0 b2 b4 ag n cap w f L vg D) :
    w.cell? ⟨b2, 0, none⟩ = some (.int .i64 f.loss) ∧ w.cell? ⟨b2, 1, none⟩ = some (.int .i64 f.value) ∧ w.cell? ⟨b2, 2, none⟩ = some (.slice ag n cap) ∧ w.cell? ⟨b2, 3, none⟩ = some (.int .i64 f.own) ∧ (∀ j, w.frozen? ⟨b2, j, none⟩ = false) ∧
      w.cell? ⟨b4, 0, none⟩ = some (.int .i64 0) ∧ w.cell? ⟨b4, 1, none⟩ = some (.int .i64 0) ∧ w.cell? ⟨b4, 2, none⟩ = some (.slice none 0 0) ∧ w.cell? ⟨b4, 3, none⟩ = some (.int .i64 0) ∧ (∀ j, w.frozen? ⟨b4, j, none⟩ = false) := by
  have a := h.k2
  have b := h.k4
  refine ⟨by simp [World.cell?, a], by simp [World.cell?, a], by simp [World.cell?, a], by simp [World.cell?, a], fun j => by simp [World.frozen?, a], by simp [World.cell?, b], by simp [World.cell?, b], by simp [World.cell?, b], by simp [World.cell?, b], fun j => by simp [World.frozen?, b]⟩

theorem QEnv.app {w0 w w1 : World} {b2 b4 n cap : Nat} {ag : Option Addr} {f : Fi} {L : List Pm} {vg v' : Value} {D : List En} (h : QEnv w0 b2 b4 ag n cap w f L vg D) (d : En)
    (hx : Touch (fun k => vg.ownBlock = some k) w w1) (hr : w1.ownsRow 0 59 3 v' (D.length + 1) (D.flatMap En.cells ++ d.cells)) (hv' : ∀ k, v'.ownBlock = some k → vg.ownBlock = some k ∨ w.heap.size ≤ k) :
    QEnv w0 b2 b4 ag n cap w1 f L v' (D ++ [d]) := by
  obtain ⟨k2, k4, row, ent, nl, h2, h24, hg, hv, ne, lt, bel⟩ := h
  have q1 : w1.heap[b2]? = w.heap[b2]? := hx.block b2 (by omega) (fun e => by have := hv b2 e; omega)
  have q2 : w1.heap[b4]? = w.heap[b4]? := hx.block b4 lt (fun e => by have := hv b4 e; omega)
  have hs := hx.size
  refine ⟨q1.trans k2, q2.trans k4, ?_, ?_, nl, h2, h24, hg, ?_, ?_, by omega, ?_⟩
  · exact own_touch row hx (fun k hk e => ne k hk e)
  · have e1 : (D ++ [d]).length = D.length + 1 := by simp
    have e2 : (D ++ [d]).flatMap En.cells = D.flatMap En.cells ++ d.cells := by simp
    rw [e1, e2]; exact hr
  · intro k hk
    rcases hv' k hk with e | e
    · exact hv k e
    · omega
  · intro k hk e
    rcases hv' k e with e | e
    · exact ne k hk e
    · have := own_lt row hk; omega
  · exact bel.trans (hx.below (by have := bel.size; omega) (fun k e => by have := hv k e; omega))

theorem QEnv.setB {w0 w : World} {b2 b4 n cap g : Nat} {f : Fi} {L L' : List Pm} {vg : Value} {D : List En} {k : Nat} {b' : Int} (h : QEnv w0 b2 b4 (some ⟨g, 0, none⟩) n cap w f L vg D) (hk : k < n)
    (hL : L' = L.set k ⟨(L.getD k default).t, (L.getD k default).p, b'⟩) : QEnv w0 b2 b4 (some ⟨g, 0, none⟩) n cap (w.setCell ⟨g, k * 3 + 2, none⟩ (.int .i64 b')) f L' vg D := by
  obtain ⟨k2, k4, row, ent, nl, h2, h24, hg, hv, ne, lt, bel⟩ := h
  have hgb := hg g rfl
  have n2 : b2 ≠ g := by omega
  have n4 : b4 ≠ g := by omega
  refine ⟨(Below.heap_setCell _ _ _ _ n2).trans k2, (Below.heap_setCell _ _ _ _ n4).trans k4, ?_, ?_, by rw [hL, List.length_set]; exact nl, h2, h24, hg, hv, ne, by simpa [World.setCell] using lt, bel.setCell (p := ⟨g, k * 3 + 2, none⟩) (by show _ ≤ g; omega) _⟩
  · rw [hL, flat_set L k b' (by omega)]
    exact own_set row (by omega) _
  · exact own_touch ent ((Touch.refl (fun x => x = g) w).setCell (p := ⟨g, k * 3 + 2, none⟩) (.inl rfl) _) (fun x hx e => by subst e; exact ne x rfl hx)

theorem QEnv.pm {w0 w : World} {b2 b4 n cap g k : Nat} {f : Fi} {L : List Pm} {vg : Value} {D : List En} (h : QEnv w0 b2 b4 (some ⟨g, 0, none⟩) n cap w f L vg D) (hk : k < n) :
    w.cell? ⟨g, k * 3, none⟩ = some (.string (L.getD k default).t) ∧ w.cell? ⟨g, k * 3 + 1, none⟩ = some (.int .i64 (L.getD k default).p) ∧ w.cell? ⟨g, k * 3 + 2, none⟩ = some (.int .i64 (L.getD k default).b) ∧ w.frozen? ⟨g, k * 3 + 2, none⟩ = false ∧ w.cell? ⟨b2, 2, none⟩ = some (.slice (some ⟨g, 0, none⟩) n cap) := by
  have hp : Pms w (.slice (some ⟨g, 0, none⟩) n cap) L := by
    unfold Pms; rw [← h.nl]; exact Row.of_own h.row
  obtain ⟨b1, off, e, hb, hc⟩ := Pms.get hp h.nl (by omega)
  cases e
  obtain ⟨c0, c1, c2⟩ := hc k hk
  rw [Nat.zero_add] at c0 c1 c2
  obtain ⟨g', cap', e, _, hfr⟩ := own_at h.row (by omega)
  cases e
  exact ⟨c0, c1, c2, hfr _, h.boxes.2.2.1⟩

theorem QEnv.fin {w0 w : World} {b2 b4 n cap : Nat} {ag : Option Addr} {f f' : Fi} {vg : Value} {D : List En} {y : Int} {x0 x1 x2 x3 : Value} (h : QEnv w0 b2 b4 ag n cap w f f'.L vg D) (ok : FileOk f') (len : f'.L.length ≤ 100) (v0 : 1 ≤ f'.value) :
    RF (((((w.setCell ⟨b2, 3, none⟩ (.int .i64 y)).setCell ⟨b4, 0, none⟩ x0).setCell ⟨b4, 1, none⟩ x1).setCell ⟨b4, 2, none⟩ x2).setCell ⟨b4, 3, none⟩ x3) ag n cap f' ∧
      Ens (((((w.setCell ⟨b2, 3, none⟩ (.int .i64 y)).setCell ⟨b4, 0, none⟩ x0).setCell ⟨b4, 1, none⟩ x1).setCell ⟨b4, 2, none⟩ x2).setCell ⟨b4, 3, none⟩ x3) vg D ∧
      Below w0.heap.size w0 (((((w.setCell ⟨b2, 3, none⟩ (.int .i64 y)).setCell ⟨b4, 0, none⟩ x0).setCell ⟨b4, 1, none⟩ x1).setCell ⟨b4, 2, none⟩ x2).setCell ⟨b4, 3, none⟩ x3) := by
  obtain ⟨k2, k4, row, ent, nl, h2, h24, hg, hv, ne, lt, bel⟩ := h
  have t : Touch (fun k => k = b2 ∨ k = b4) w (((((w.setCell ⟨b2, 3, none⟩ (.int .i64 y)).setCell ⟨b4, 0, none⟩ x0).setCell ⟨b4, 1, none⟩ x1).setCell ⟨b4, 2, none⟩ x2).setCell ⟨b4, 3, none⟩ x3) :=
    (((((Touch.refl _ w).setCell (p := ⟨b2, 3, none⟩) (.inl (.inl rfl)) _).setCell (p := ⟨b4, 0, none⟩) (.inl (.inr rfl)) _).setCell (p := ⟨b4, 1, none⟩) (.inl (.inr rfl)) _).setCell (p := ⟨b4, 2, none⟩) (.inl (.inr rfl)) _).setCell (p := ⟨b4, 3, none⟩) (.inl (.inr rfl)) _
  refine ⟨⟨?_, nl, ok, len, v0, fun a e => by have h1 := own_lt row (k := a.block) (by rw [e]; rfl); simpa [World.setCell] using h1⟩, ?_, bel.trans (t.below bel.size (fun k e => by rcases e with e | e <;> omega))⟩
  · unfold Pms
    rw [← nl]
    exact Row.of_own (own_touch row t (fun k hk e => by have := hg k hk; rcases e with e | e <;> omega))
  · exact Row.of_own (own_touch ent t (fun k hk e => by have := hv k hk; rcases e with e | e <;> omega))

/-- The beginning: no entries, and a row of one's own. -/
theorem QEnv.start {w wr w8 : World} {ao a8 : Option Addr} {n cap c8 : Nat} {f : Fi} (hb : Below w.heap.size w wr)
    (k2 : wr.heap[w.heap.size]? = some (.cells #[.int .i64 f.loss, .int .i64 f.value, .slice ao n cap, .int .i64 f.own] 41 (0, 0)))
    (k4 : wr.heap[w.heap.size + 1]? = some (.cells #[.int .i64 0, .int .i64 0, .slice none 0 0, .int .i64 0] 41 (0, 0)))
    (ht : Touch (fun k => (Value.slice (some ⟨wr.heap.size + 1, 0, none⟩) 0 0).ownBlock = some k) ((wr.alloc (.cells #[] 59)).alloc (.cells #[] 81)) w8)
    (hr : w8.ownsRow 0 81 3 (.slice a8 n c8) n (f.L.flatMap Pm.cells))
    (hlo : ∀ k, (Value.slice a8 n c8).ownBlock = some k → (Value.slice (some ⟨wr.heap.size + 1, 0, none⟩) 0 0).ownBlock = some k ∨ ((wr.alloc (.cells #[] 59)).alloc (.cells #[] 81)).heap.size ≤ k) (hn : n = f.L.length) :
    QEnv w w.heap.size (w.heap.size + 1) a8 n c8 (w8.setCell ⟨w.heap.size, 2, none⟩ (.slice a8 n c8)) f f.L (.slice (some ⟨wr.heap.size, 0, none⟩) 0 0) [] := by
  have l4 : w.heap.size + 1 < wr.heap.size := lt_of_block k4
  have s1 : (wr.alloc (.cells #[] 59)).heap.size = wr.heap.size + 1 := by simp
  have s2 : ((wr.alloc (.cells #[] 59)).alloc (.cells #[] 81)).heap.size = wr.heap.size + 1 + 1 := by simp
  have he := lit0s wr 59 3 _ rfl
  have b1 := (Below.refl wr.heap.size wr).alloc (Nat.le_refl _) (.cells #[] 59)
  have b2 := b1.alloc b1.size (.cells #[] 81)
  have b8 := b2.trans (ht.below b2.size (fun x hx => by have e := Option.some.inj (show some (wr.heap.size + 1) = some x from hx); omega))
  have q2 : w8.heap[w.heap.size]? = wr.heap[w.heap.size]? := b8.block _ (by omega)
  have q4 : w8.heap[w.heap.size + 1]? = wr.heap[w.heap.size + 1]? := b8.block _ (by omega)
  have hg : ∀ k, (Value.slice a8 n c8).ownBlock = some k → wr.heap.size + 1 ≤ k := fun k hk => by
    rcases hlo k hk with e | e
    · have e := Option.some.inj (show some (wr.heap.size + 1) = some k from e); omega
    · omega
  have hs8 := b8.size
  have he8 : w8.ownsRow 0 59 3 (.slice (some ⟨wr.heap.size, 0, none⟩) 0 0) 0 [] :=
    own_touch (own_touch he ((Touch.refl (fun _ => False) _).alloc (.cells #[] 81)) (fun _ _ h => h)) ht (fun k hk e => by have e1 := Option.some.inj (show some wr.heap.size = some k from hk); have e2 := Option.some.inj (show some (wr.heap.size + 1) = some k from e); omega)
  refine ⟨?_, (Below.heap_setCell _ _ _ _ (by show w.heap.size + 1 ≠ w.heap.size; omega)).trans (q4.trans k4), ownsRow_setCell_other hr (fun e => by have := hg w.heap.size e; omega) _, ownsRow_setCell_other he8 (fun e => by have e1 := Option.some.inj (show some wr.heap.size = some w.heap.size from e); omega) _, hn, Nat.le_refl _, by omega, fun k hk => by have := hg k hk; omega, fun k hk => by have e1 := Option.some.inj (show some wr.heap.size = some k from hk); omega, fun k hk e => by have := hg k hk; have e1 := Option.some.inj (show some wr.heap.size = some k from e); omega, by simp [World.setCell]; omega, (bt hb b8).setCell (p := ⟨w.heap.size, 2, none⟩) (Nat.le_refl _) _⟩
  rw [heap_set (q2.trans k2)]
  rfl

theorem QEnv.box8 {w wr w8 : World} {ao : Option Addr} {n cap : Nat} {f : Fi}
    (k2 : wr.heap[w.heap.size]? = some (.cells #[.int .i64 f.loss, .int .i64 f.value, .slice ao n cap, .int .i64 f.own] 41 (0, 0)))
    (ht : Touch (fun k => (Value.slice (some ⟨wr.heap.size + 1, 0, none⟩) 0 0).ownBlock = some k) ((wr.alloc (.cells #[] 59)).alloc (.cells #[] 81)) w8) :
    w8.cell? ⟨w.heap.size, 2, none⟩ = some (.slice ao n cap) ∧ w8.frozen? ⟨w.heap.size, 2, none⟩ = false := by
  have l2 : w.heap.size < wr.heap.size := lt_of_block k2
  have b1 := (Below.refl wr.heap.size wr).alloc (Nat.le_refl _) (.cells #[] 59)
  have b2 := b1.alloc b1.size (.cells #[] 81)
  have b8 := b2.trans (ht.below b2.size (fun x hx => by have e := Option.some.inj (show some (wr.heap.size + 1) = some x from hx); omega))
  have q2 := (b8.block _ l2).trans k2
  exact ⟨by simp [World.cell?, q2], by simp [World.frozen?, q2]⟩

theorem two_blocks {w w3 : World} {A C : Array Value} {t1 t3 : TypeId} (hb : Below ((w.alloc (.cells A t1)).alloc (.cells C t3)).heap.size ((w.alloc (.cells A t1)).alloc (.cells C t3)) w3) :
    w3.heap[w.heap.size]? = some (.cells A t1) ∧ w3.heap[w.heap.size + 1]? = some (.cells C t3) := by
  have h1 := heap_alloc_new w (.cells A t1)
  have s1 : (w.alloc (.cells A t1)).heap.size = w.heap.size + 1 := by simp
  generalize w.alloc (.cells A t1) = u1 at *
  have h2 := heap_alloc_new u1 (.cells C t3)
  have b1 := (Below.refl u1.heap.size u1).alloc (Nat.le_refl _) (.cells C t3)
  have s2 : (u1.alloc (.cells C t3)).heap.size = w.heap.size + 1 + 1 := by simp [s1]
  rw [s1] at h2
  generalize u1.alloc (.cells C t3) = u2 at *
  exact ⟨((hb.block w.heap.size (by omega)).trans (b1.block w.heap.size (by omega))).trans h1, (hb.block (w.heap.size + 1) (by omega)).trans h2⟩

theorem two_boxes {w w3 : World} {A C : Array Value} {t1 t3 : TypeId} (hb : Below ((w.alloc (.cells A t1)).alloc (.cells C t3)).heap.size ((w.alloc (.cells A t1)).alloc (.cells C t3)) w3) :
    (∀ j x, A[j]? = some x → w3.cell? ⟨w.heap.size, j, none⟩ = some x) ∧ (∀ j x, C[j]? = some x → w3.cell? ⟨w.heap.size + 1, j, none⟩ = some x) ∧
      (∀ j, w3.frozen? ⟨w.heap.size, j, none⟩ = false) ∧ (∀ j, w3.frozen? ⟨w.heap.size + 1, j, none⟩ = false) ∧ Below w.heap.size w w3 := by
  have h1 := heap_alloc_new w (.cells A t1)
  have b0 := (Below.refl w.heap.size w).alloc (Nat.le_refl _) (.cells A t1)
  have s1 : (w.alloc (.cells A t1)).heap.size = w.heap.size + 1 := by simp
  generalize w.alloc (.cells A t1) = u1 at *
  have h2 := heap_alloc_new u1 (.cells C t3)
  have b1 := (Below.refl u1.heap.size u1).alloc (Nat.le_refl _) (.cells C t3)
  have s2 : (u1.alloc (.cells C t3)).heap.size = w.heap.size + 1 + 1 := by simp [s1]
  rw [s1] at h2
  generalize u1.alloc (.cells C t3) = u2 at *
  have g2 := (hb.block (w.heap.size + 1) (by omega)).trans h2
  have g1 := ((hb.block w.heap.size (by omega)).trans (b1.block w.heap.size (by omega))).trans h1
  refine ⟨fun j x hx => by simp [World.cell?, g1, hx], fun j x hx => by simp [World.cell?, g2, hx], fun j => by simp [World.frozen?, g1], fun j => by simp [World.frozen?, g2], bt (bt b0 b1) hb⟩

/-- What Recover answers, by the document. -/
def RRecd (w : World) (f : Fi) (ao0 : Option Addr) (r : Fi × List En × Int) (e : Ending) (w' : World) : Prop :=
  ∃ ao n cap vg, e = .returned (.tuple #[.agg #[.int .i64 r.1.loss, .int .i64 r.1.value, .slice ao n cap, .int .i64 r.1.own], vg, .int .i64 r.2.2]) ∧ RF w' ao n cap r.1 ∧ Ens w' vg r.2.1 ∧ Below w.heap.size w w' ∧ (∀ a, ao = some a → ao0 = some a ∨ w.heap.size ≤ a.block) ∧ ∀ k, vg.ownBlock = some k → w.heap.size ≤ k

set_option maxRecDepth 100000 in
set_option maxHeartbeats 4000000 in
theorem rrec_bad (w : World) (ao : Option Addr) (n cap : Nat) (f : Fi) (s : Int) (h : RF w ao n cap f) (hs : s < 1 ∨ 1099511627776 < s) :
    Calls Try.prog 15 #[.agg #[.int .i64 f.loss, .int .i64 f.value, .slice ao n cap, .int .i64 f.own], .int .i64 s] w (RRecd w f ao (f, [], 3)) := by
  have HTb := Lib.hid (two_boxes (w := w) (A := #[.int .i64 f.loss, .int .i64 f.value, .slice ao n cap, .int .i64 f.own]) (C := #[.int .i64 0, .int .i64 0, .slice none 0 0, .int .i64 0]) (t1 := 41) (t3 := 41) (Below.refl _ _))
  have HR := Lib.hid (fun w3 (hb : Below w.heap.size w w3) x0 x1 x2 x3 => h.res (b := w.heap.size + 1) (x0 := x0) (x1 := x1) (x2 := x2) (x3 := x3) hb (by omega))
  obtain ⟨kA, kC, fA, fC, hb3⟩ := HTb.out
  have a0 := kA 0 (.int .i64 f.loss) rfl
  have a1 := kA 1 (.int .i64 f.value) rfl
  have a2 := kA 2 (.slice ao n cap) rfl
  have a3 := kA 3 (.int .i64 f.own) rfl
  have r0 := kC 0 (.int .i64 0) rfl
  have r1 := kC 1 (.int .i64 0) rfl
  have r2 := kC 2 (.slice none 0 0) rfl
  have r3 := kC 3 (.int .i64 0) rfl
  have z0 := fC 0
  have z1 := fC 1
  have z2 := fC 2
  have z3 := fC 3
  have HRf := Lib.hid h
  have HBx2 := Lib.hid (((Below.refl w.heap.size w).alloc (Nat.le_refl _) (.cells #[.int .i64 f.loss, .int .i64 f.value, .slice ao n cap, .int .i64 f.own] 41)).alloc (by simp) (.cells #[.int .i64 f.loss, .int .i64 f.value, .slice ao n cap, .int .i64 f.own] 41))
  clear kA kC fA fC hb3 HTb HR h
  by_cases g : s < 1
  · have d1 : decide (s < 1) = true := by rw [decide_eq_true_iff]; exact g
    clear hs g
    go_enter Try.func15, Try.ntmps15
    go_wp2
    have e2 := HBx2.out
    have e1 := HRf.out.below e2
    exact bodyPost_ret (v := .tuple #[.agg #[.int .i64 f.loss, .int .i64 f.value, .slice ao n cap, .int .i64 f.own], .slice none 0 0, .int .i64 3]) (by simp [results, Try.results15, go_sem, r0, r1, r2, r3, z0, z1, z2, z3]) rfl ⟨ao, n, cap, _, rfl, e1, Row.nil _ _, e2, fun a h => .inl h, fun k h => by simp [Value.ownBlock] at h⟩
  · have d1 : decide (s < 1) = false := by rw [decide_eq_false_iff_not]; exact g
    have d2 : decide (1099511627776 < s) = true := by rw [decide_eq_true_iff]; omega
    clear hs g
    go_enter Try.func15, Try.ntmps15
    go_wp2
    have e2 := HBx2.out
    have e1 := HRf.out.below e2
    exact bodyPost_ret (v := .tuple #[.agg #[.int .i64 f.loss, .int .i64 f.value, .slice ao n cap, .int .i64 f.own], .slice none 0 0, .int .i64 3]) (by simp [results, Try.results15, go_sem, r0, r1, r2, r3, z0, z1, z2, z3]) rfl ⟨ao, n, cap, _, rfl, e1, Row.nil _ _, e2, fun a h => .inl h, fun k h => by simp [Value.ownBlock] at h⟩

theorem oL_sum (L : List Pm) : (oL L).sum = openF L := rfl

set_option maxRecDepth 100000 in
set_option maxHeartbeats 16000000 in
theorem rrec_go (w : World) (ao : Option Addr) (n cap : Nat) (f : Fi) (s : Int) (h : RF w ao n cap f) (h1 : 1 ≤ s) (h2 : s ≤ 1099511627776) :
    Calls Try.prog 15 #[.agg #[.int .i64 f.loss, .int .i64 f.value, .slice ao n cap, .int .i64 f.own], .int .i64 s] w (RRecd w f ao (f.recover s)) := by
  have HTb := Lib.hid (fun w3 hb => two_boxes (w := w) (w3 := w3) (A := #[.int .i64 f.loss, .int .i64 f.value, .slice ao n cap, .int .i64 f.own]) (C := #[.int .i64 0, .int .i64 0, .slice none 0 0, .int .i64 0]) (t1 := 41) (t3 := 41) hb)
  have HRes := Lib.hid (fun w3 (hb : Below w.heap.size w w3) x0 x1 x2 x3 => h.res (b := w.heap.size + 1) (x0 := x0) (x1 := x1) (x2 := x2) (x3 := x3) hb (by omega))
  have hba := ((Below.refl w.heap.size w).alloc (Nat.le_refl _) (.cells #[.int .i64 f.loss, .int .i64 f.value, .slice ao n cap, .int .i64 f.own] 41)).alloc (by simp) (.cells #[.int .i64 0, .int .i64 0, .slice none 0 0, .int .i64 0] 41)
  have HL := Lib.hid (rleft_any _ ao n cap f (h.below hba))
  have d1 : decide (s < 1) = false := by rw [decide_eq_false_iff_not]; omega
  have d2 : decide (1099511627776 < s) = false := by rw [decide_eq_false_iff_not]; omega
  have HF := Lib.hid h
  have HN := Lib.hid h.hn
  have hn100 : n ≤ 100 := by rw [h.hn]; exact h.len
  have HOk := Lib.hid (fun k => fk_ok (f := f) h.ok (s := s) (by omega) k)
  have HEach := Lib.hid (fun k hk => ok_each (k := k) h.ok hk)
  have HRec := Lib.hid (show outF f < s → f.recover s = (f, [], 10) from fun g => by unfold Fi.recover; rw [if_neg (by omega), if_pos g])
  have HRec2 := Lib.hid (show ¬ outF f < s → f.recover s = ((recF f s).1, (recF f s).2, 0) ∧ FileOk (recF f s).1 ∧ (rk f s f.L.length).s ≤ leftF f from fun g => by
    refine ⟨by unfold Fi.recover; rw [if_neg (by omega), if_neg g], (recF_ok h.ok (by omega) (by omega)).1, ?_⟩
    obtain ⟨q1, q2⟩ := Fk_all f s
    rw [q2]
    have hO := openF_nonneg h.ok.each
    have hb := ok_bd h.ok
    have hO2 : outF f = leftF f + openF f.L := rfl
    obtain ⟨-, -, r3, -, r5, r6⟩ := recK_sum (r := ⟨s, []⟩) h.ok.each (by show (0 : Int) ≤ s; omega)
    rcases Int.le_total s (openF f.L) with g1 | g1
    · have := r6 g1; omega
    · have := r5 g1
      have r3 : openF (recK f.L ⟨s, []⟩).1 - (recK f.L ⟨s, []⟩).2.s = openF f.L - s := r3
      omega)
  have HRF := Lib.hid (rec_all (f := f) (s := s))
  have HOut := Lib.hid (show outF f = leftF f + (oL f.L).sum from rfl)
  have HT := Lib.hid (fun k => isum_take (ok_o h.ok) k)
  have hb := ok_bd h.ok
  have HLb := Lib.hid (show 0 ≤ leftF f ∧ leftF f ≤ 1099511627776 ∧ (oL f.L).sum ≤ 1099511627776 ∧ 0 ≤ f.own ∧ f.own ≤ 1099511627776 by have := oL_sum f.L; omega)
  have HV0 := Lib.hid h.v0
  have HS := Lib.hid (And.intro h1 h2)
  obtain ⟨j0, hj, hj0, hj1, hj2⟩ := info_parts Try.infoRPm
  obtain ⟨i0, hi0, hz0, hz1, hz2⟩ := info_parts Try.infoEn
  obtain ⟨R, hR⟩ : ∃ R, R = f.recover s := ⟨_, rfl⟩
  rw [← hR]
  rw [← hR] at HRec HRec2
  clear h h1 h2 hba hb hR
  go_enter Try.func15, Try.ntmps15
  go_wp2_with fail
  refine HL.out.mono ?_
  rintro e' w3 ⟨rfl, hb⟩
  obtain ⟨kA, kC, fA, fC, hb3⟩ := HTb.out w3 hb
  have HBw := Lib.hid hb3
  have HR3 := Lib.hid (HF.out.below hb3)
  have HAll := Lib.hid (show ∀ q, (w3.drewN q).cell? ⟨w.heap.size, 0, none⟩ = some (.int .i64 f.loss) ∧ (w3.drewN q).cell? ⟨w.heap.size, 1, none⟩ = some (.int .i64 f.value) ∧ (w3.drewN q).cell? ⟨w.heap.size, 2, none⟩ = some (.slice ao n cap) ∧ (w3.drewN q).cell? ⟨w.heap.size, 3, none⟩ = some (.int .i64 f.own) ∧ (∀ j, (w3.drewN q).frozen? ⟨w.heap.size, j, none⟩ = false) ∧
      (w3.drewN q).cell? ⟨w.heap.size + 1, 0, none⟩ = some (.int .i64 0) ∧ (w3.drewN q).cell? ⟨w.heap.size + 1, 1, none⟩ = some (.int .i64 0) ∧ (w3.drewN q).cell? ⟨w.heap.size + 1, 2, none⟩ = some (.slice none 0 0) ∧ (w3.drewN q).cell? ⟨w.heap.size + 1, 3, none⟩ = some (.int .i64 0) ∧ (∀ j, (w3.drewN q).frozen? ⟨w.heap.size + 1, j, none⟩ = false) from fun q =>
    ⟨kA 0 _ rfl, kA 1 _ rfl, kA 2 _ rfl, kA 3 _ rfl, fA, kC 0 _ rfl, kC 1 _ rfl, kC 2 _ rfl, kC 3 _ rfl, fC⟩)
  have HBk := Lib.hid (two_blocks hb)
  clear kA kC fA fC hb hb3 HTb HL
  go_wp2_with fail
  go_loopw [7, 8] (fun z i wr => ∃ (k : Nat) (y : Int), k ≤ n ∧ i = .int .i64 (k : Int) ∧ z = .int .i64 y ∧ Hid (y = leftF f + ((oL f.L).take k).sum) ∧ Hid (∃ q, wr = w3.drewN q)) (fun _ i _ => n - (intOf i).toNat)
  case atStart => exact ⟨0, leftF f, Nat.zero_le _, rfl, rfl, Lib.hid (by simp), Lib.hid ⟨0, rfl⟩⟩
  case round =>
    obtain ⟨k, y, hk, rfl, rfl, hy, hw⟩ := hrel
    obtain ⟨q, hq⟩ := hw.out
    obtain ⟨a0, a1, a2, a3, -, -⟩ := HAll.out q
    rw [← hq] at a0 a1 a2 a3
    have HQ := Lib.hid hq
    clear hq
    by_cases hlt : k < n
    · have l1 : (k : Int) < (n : Int) := by omega
      have l0 : (0 : Int) ≤ (k : Int) := by omega
      have hkl : k < f.L.length := by rw [← HN.out]; exact hlt
      have hrow : Pms wr (.slice ao n cap) f.L := by rw [HQ.out]; exact Row.drewN HR3.out.row q
      obtain ⟨bl, off, rfl, hbl, hc⟩ := hrow.get HN.out (by omega)
      obtain ⟨-, c1, c2⟩ := hc k hlt
      have HSt := Lib.hid (isum_step (xs := oL f.L) (k := k) (by simp [oL]; exact hkl))
      rw [oL_get hkl] at HSt
      have ht0 := HT.out k
      have ht1 := HT.out (k + 1)
      have hlb := HLb.out
      have hea := HEach.out k hkl
      have hge : f.L.getD k default = f.L[k] := by rw [List.getD_eq_getElem?_getD, List.getElem?_eq_getElem hkl]; rfl
      rw [hge] at c1 c2 HSt
      rw [HSt.out] at ht1
      have hy1 := hy.out
      generalize f.L[k].p = op at *
      generalize f.L[k].b = ob at *
      have v0 : IntKind.i64.wrap (y + op) = y + op := IntWalk.i64_in _ (by omega)
      have v1 : IntKind.i64.wrap (y + op - ob) = y + op - ob := IntWalk.i64_in _ (by omega)
      have HZ := Lib.hid (show y + op - ob = leftF f + ((oL f.L).take (k + 1)).sum by rw [HSt.out]; omega)
      clear ht0 ht1 hlb hea hge hy1 hc hrow
      go_wp2_with fail
      go_quiet (fail)
      go_wp2
      go_roundw
      case rel => exact ⟨k + 1, y + op - ob, by omega, by go_num, rfl, HZ, Lib.hid ⟨q + nq, by rw [HQ.out, World.drewN_drewN]⟩⟩
      case measure => simp [intOf]; omega
    · obtain rfl : k = n := by omega
      have hy2 : y = outF f := by
        have h5 := hy.out
        rw [List.take_of_length_le (by simp [oL]; rw [← HN.out]; exact Nat.le_refl _)] at h5
        rw [HOut.out]; exact h5
      have hbw : Below w.heap.size w wr := by rw [HQ.out]; exact below_drewN HBw.out q
      by_cases g : y < s
      · have d3 : decide (y < s) = true := by rw [decide_eq_true_iff]; exact g
        obtain rfl := HRec.out (by rw [← hy2]; exact g)
        obtain ⟨-, -, -, -, -, r0, r1, r2, r3, z⟩ := HAll.out q
        rw [← HQ.out] at r0 r1 r2 r3 z
        have z0 := z 0
        have z1 := z 1
        have z2 := z 2
        have z3 := z 3
        have HBr := Lib.hid hbw
        clear z hy2 hbw g
        go_wp2
        obtain ⟨e1, e2⟩ := HRes.out wr HBr.out (.int .i64 f.loss) (.int .i64 f.value) (.slice ao k cap) (.int .i64 f.own)
        exact bodyPost_ret (v := .tuple #[.agg #[.int .i64 f.loss, .int .i64 f.value, .slice ao k cap, .int .i64 f.own], .slice none 0 0, .int .i64 10]) (by simp [results, Try.results15, go_sem, r0, r1, r2, r3, z0, z1, z2, z3]) rfl ⟨ao, k, cap, _, rfl, e1, Row.nil _ _, e2, fun a h => .inl h, fun k h => by simp [Value.ownBlock] at h⟩
      · have d3 : decide (y < s) = false := by rw [decide_eq_false_iff_not]; exact g
        obtain ⟨hr1, hr2, hr3⟩ := HRec2.out (by omega)
        have HO1 := Lib.hid hr2
        have HO3 := Lib.hid hr3
        have HBr := Lib.hid hbw
        have HK2 := Lib.hid (show wr.heap[w.heap.size]? = some (.cells #[.int .i64 f.loss, .int .i64 f.value, .slice ao k cap, .int .i64 f.own] 41 (0, 0)) by rw [HQ.out]; exact HBk.out.1)
        have HK4 := Lib.hid (show wr.heap[w.heap.size + 1]? = some (.cells #[.int .i64 0, .int .i64 0, .slice none 0 0, .int .i64 0] 41 (0, 0)) by rw [HQ.out]; exact HBk.out.2)
        have hb1 := (Below.refl wr.heap.size wr).alloc (Nat.le_refl _) (.cells #[] 59)
        have hb2 := hb1.alloc hb1.size (.cells #[] 81)
        have HRow := Lib.hid (show Row ((wr.alloc (.cells #[] 59)).alloc (.cells #[] 81)) (.slice ao k cap) 3 k (f.L.flatMap Pm.cells) by
          have h9 := Row.below (Row.below HF.out.row hbw) hb2
          rwa [← HN.out] at h9)
        have n2 := cell_later hb2 a2
        subst hr1
        clear hr2 hr3 hbw hy2 g hb1 hb2 HRec HRec2 HRes HAll HR3 HBk HOut HT
        go_wp2_with (at_builtin; refine wpList_row rfl (.tmp 48) (.tmp 50) 39 rfl 81 j0 _ 3 32 Try.underlying39 hj hj0 hj1 hj2 rfl (by decide) _ 0 [] rfl (lit0s (wr.alloc (.cells #[] 59)) 81 3 _ (by simp)) _ k cap (f.L.flatMap Pm.cells) rfl HRow.out (many_pm f.L) (by unfold maxLen; omega) (by omega) ?_; intro v8 w8 hown ht hlo; rw [Nat.zero_add, List.nil_append] at hown; obtain ⟨a8, c8, e8⟩ := own_shape hown; subst e8; have HE8 := Lib.hid (QEnv.start HBr.out HK2.out HK4.out ht hown hlo HN.out); obtain ⟨m2, m3⟩ := QEnv.box8 HK2.out ht; clear a0 a1 a2 a3 n2 hown ht hlo)
        go_loopw [1, 9, 10] (fun sv lv iv wr => ∃ (j : Nat) (vg : Value), j ≤ k ∧ iv = .int .i64 (j : Int) ∧ sv = .int .i64 (rk f s j).s ∧ lv = vg ∧ Hid (QEnv w w.heap.size (w.heap.size + 1) a8 k c8 wr f (Lk f s j) vg (rk f s j).D)) (fun _ _ iv _ => k - (intOf iv).toNat)
        case atStart => exact ⟨0, _, Nat.zero_le _, rfl, by rw [rk_zero], rfl, by rw [rk_zero, Lk_zero]; exact HE8⟩
        case round =>
          clear HE8 m2 m3
          obtain ⟨j, vg, hj', rfl, rfl, rfl, hE⟩ := hrel
          by_cases hlt : j < k
          · have l1 : (j : Int) < (k : Int) := by omega
            have l0 : (0 : Int) ≤ (j : Int) := by omega
            have hkl : j < f.L.length := by rw [← HN.out]; exact hlt
            obtain ⟨g, cc, e, -, -⟩ := own_at hE.out.row (by omega)
            cases e
            have hea := HEach.out j hkl
            have HRs := Lib.hid (rk_step f s hkl)
            have HLs := Lib.hid (Lk_step f s hkl)
            have HGt := Lib.hid (Lk_get f s hkl)
            have HDl := Lib.hid (rk_len (f := f) (s := s) j)
            have hgb := (HOk.out j).2
            have hss := HS.out
            generalize f.L[j] = o at *
            obtain ⟨ot, op, ob⟩ := o
            dsimp only at hea HRs HLs
            obtain ⟨rr, hrr⟩ : ∃ r, r = rk f s j := ⟨_, rfl⟩
            rw [← hrr] at hE HRs HLs HDl hgb ⊢
            clear hrr
            obtain ⟨sk, D⟩ := rr
            dsimp only at hE HRs HLs HDl hgb ⊢
            have HPm := Lib.hid (fun (w' : World) (v' : Value) (D' : List En) (h : QEnv w w.heap.size (w.heap.size + 1) (some ⟨g, 0, none⟩) k c8 w' f (Lk f s j) v' D') => h.pm (k := j) hlt)
            rw [HGt.out] at HPm
            dsimp only at HPm
            have v2 : IntKind.i64.wrap (op - ob) = op - ob := IntWalk.i64_in _ (by omega)
            obtain ⟨mo, hmo⟩ : ∃ mo, mo = op - ob := ⟨_, rfl⟩
            rw [← hmo] at HRs HLs v2
            have v2 : IntKind.i64.wrap (op - ob) = mo := by rw [hmo]; exact IntWalk.i64_in _ (by omega)
            have hmb : 0 ≤ mo ∧ mo ≤ 1099511627776 := by omega
            clear hmo
            obtain ⟨p0, p1, p2, pf, c2⟩ := HPm.out _ _ _ hE.out
            go_wp2_with fail
            go_quiet (fail)
            have HE1 := Lib.hid (hE.out.drewN nq)
            clear p0 p1 p2 pf c2 hE
            generalize wr.drewN nq = w5 at *
            obtain ⟨p0, p1, p2, pf, c2⟩ := HPm.out _ _ _ HE1.out
            by_cases g1 : sk < mo
            · have e1 : decide (sk < mo) = true := by rw [decide_eq_true_iff]; exact g1
              have HN1 := Lib.hid (show giveN mo ⟨sk, D⟩ = sk by unfold giveN; show min sk mo = sk; omega)
              have HLs2 := Lib.hid (show Lk f s (j + 1) = (Lk f s j).set j ⟨ot, op, ob + sk⟩ by rw [HLs.out, HN1.out])
              have v3 : IntKind.i64.wrap (ob + sk) = ob + sk := IntWalk.i64_in _ (by omega)
              have v4 : IntKind.i64.wrap (sk - sk) = sk - sk := IntWalk.i64_in _ (by omega)
              by_cases g2 : 0 < sk
              · have e2 : decide (0 < sk) = true := by rw [decide_eq_true_iff]; exact g2
                have HRs2 := Lib.hid (show rk f s (j + 1) = ⟨sk - sk, D ++ [⟨ot, ⟨#[]⟩, sk⟩]⟩ by
                  rw [HRs.out]; unfold giveS
                  have e3 : min sk mo = sk := by omega
                  rw [if_pos (by show 0 < min sk mo; omega)]
                  show (⟨sk - min sk mo, D ++ [⟨ot, ⟨#[]⟩, min sk mo⟩]⟩ : RS) = _
                  rw [e3])
                obtain ⟨ag5, cg5, e5⟩ := own_shape HE1.out.ent
                subst e5
                obtain ⟨m, hmD⟩ : ∃ m, m = D.length := ⟨_, rfl⟩
                rw [← hmD] at HE1 ⊢
                have HMD := Lib.hid hmD
                have hm200 : m ≤ 200 := by have := HDl.out; omega
                have HA5 := Lib.hid (show (w5.alloc (.cells #[.string ot, .string ⟨#[]⟩, .int .i64 sk] 59)).ownsRow 0 59 3 (.slice ag5 m cg5) m (D.flatMap En.cells) by
                  have := HE1.out.ent.alloc (.cells #[.string ot, .string ⟨#[]⟩, .int .i64 sk] 59)
                  rwa [← hmD] at this)
                clear hmD g1 g2 hea
                go_wp2_with (at_builtin; refine wpList_own rfl (.tmp 79) (.tmp 88) 44 rfl 59 i0 _ 3 40 Try.underlying44 hi0 hz0 hz1 hz2 rfl (by decide) _ m _ rfl HA5.out ⟨w5.heap.size, 0, none⟩ 1 1 [.string ot, .string ⟨#[]⟩, .int .i64 sk] rfl rfl (new_cells w5 #[.string ot, .string ⟨#[]⟩, .int .i64 sk] _) (one_en ⟨ot, ⟨#[]⟩, sk⟩) (by unfold maxLen; omega) (by omega) ?_; intro v6 w6 hown hg6 hlo; obtain ⟨a6, c6, rfl⟩ := own_shape hown; have HE6 := Lib.hid (HE1.out.app ⟨ot, ⟨#[]⟩, sk⟩ (((Touch.refl _ w5).alloc _).grown hg6 (fun k e => .inl e)) (by rw [← HMD.out]; exact hown) (fun k e => (hlo k e).imp id (fun h => by simp at h; omega))); clear p0 p1 p2 pf c2 hown hg6 hlo; obtain ⟨p0, p1, p2, pf, c2⟩ := HPm.out _ _ _ HE6.out)
                go_region
                all_goals
                  go_wp2
                  go_roundw
                  case rel => exact ⟨j + 1, _, by omega, by go_num, by rw [HRs2.out] <;> simp, rfl, by rw [HRs2.out]; first | exact Lib.hid (HE6.out.setB (L' := Lk f s (j + 1)) (b' := ob + sk) hlt (by rw [HLs2.out, HGt.out])) | exact Lib.hid (HE6.out.setB (L' := Lk f s (j + 1)) (b' := ob + sk) hlt (by rw [HLs2.out, HGt.out])).drew⟩
                  case measure => simp [intOf]; omega
              · have e2 : decide (0 < sk) = false := by rw [decide_eq_false_iff_not]; exact g2
                have HRs2 := Lib.hid (show rk f s (j + 1) = ⟨sk - sk, D⟩ by
                  rw [HRs.out]; unfold giveS
                  have e3 : sk = 0 := by omega
                  rw [if_neg (by show ¬ 0 < min sk mo; omega)]
                  show (⟨sk, D⟩ : RS) = ⟨sk - sk, D⟩
                  rw [show sk - sk = sk by omega])
                clear g1 g2 hea
                go_wp2_with fail
                go_region
                all_goals
                  go_wp2
                  go_roundw
                  case rel => exact ⟨j + 1, _, by omega, by go_num, by rw [HRs2.out] <;> simp, rfl, by rw [HRs2.out]; first | exact Lib.hid (HE1.out.setB (L' := Lk f s (j + 1)) (b' := ob + sk) hlt (by rw [HLs2.out, HGt.out])) | exact Lib.hid (HE1.out.setB (L' := Lk f s (j + 1)) (b' := ob + sk) hlt (by rw [HLs2.out, HGt.out])).drew⟩
                  case measure => simp [intOf]; omega
            · have e1 : decide (sk < mo) = false := by rw [decide_eq_false_iff_not]; exact g1
              have HN1 := Lib.hid (show giveN mo ⟨sk, D⟩ = mo by unfold giveN; show min sk mo = mo; omega)
              have HLs2 := Lib.hid (show Lk f s (j + 1) = (Lk f s j).set j ⟨ot, op, ob + mo⟩ by rw [HLs.out, HN1.out])
              have v3 : IntKind.i64.wrap (ob + mo) = ob + mo := IntWalk.i64_in _ (by omega)
              have v4 : IntKind.i64.wrap (sk - mo) = sk - mo := IntWalk.i64_in _ (by omega)
              by_cases g2 : 0 < mo
              · have e2 : decide (0 < mo) = true := by rw [decide_eq_true_iff]; exact g2
                have HRs2 := Lib.hid (show rk f s (j + 1) = ⟨sk - mo, D ++ [⟨ot, ⟨#[]⟩, mo⟩]⟩ by
                  rw [HRs.out]; unfold giveS
                  have e3 : min sk mo = mo := by omega
                  rw [if_pos (by show 0 < min sk mo; omega)]
                  show (⟨sk - min sk mo, D ++ [⟨ot, ⟨#[]⟩, min sk mo⟩]⟩ : RS) = _
                  rw [e3])
                obtain ⟨ag5, cg5, e5⟩ := own_shape HE1.out.ent
                subst e5
                obtain ⟨m, hmD⟩ : ∃ m, m = D.length := ⟨_, rfl⟩
                rw [← hmD] at HE1 ⊢
                have HMD := Lib.hid hmD
                have hm200 : m ≤ 200 := by have := HDl.out; omega
                have HA5 := Lib.hid (show (w5.alloc (.cells #[.string ot, .string ⟨#[]⟩, .int .i64 mo] 59)).ownsRow 0 59 3 (.slice ag5 m cg5) m (D.flatMap En.cells) by
                  have := HE1.out.ent.alloc (.cells #[.string ot, .string ⟨#[]⟩, .int .i64 mo] 59)
                  rwa [← hmD] at this)
                clear hmD g1 g2 hea
                go_wp2_with (at_builtin; refine wpList_own rfl (.tmp 79) (.tmp 88) 44 rfl 59 i0 _ 3 40 Try.underlying44 hi0 hz0 hz1 hz2 rfl (by decide) _ m _ rfl HA5.out ⟨w5.heap.size, 0, none⟩ 1 1 [.string ot, .string ⟨#[]⟩, .int .i64 mo] rfl rfl (new_cells w5 #[.string ot, .string ⟨#[]⟩, .int .i64 mo] _) (one_en ⟨ot, ⟨#[]⟩, mo⟩) (by unfold maxLen; omega) (by omega) ?_; intro v6 w6 hown hg6 hlo; obtain ⟨a6, c6, rfl⟩ := own_shape hown; have HE6 := Lib.hid (HE1.out.app ⟨ot, ⟨#[]⟩, mo⟩ (((Touch.refl _ w5).alloc _).grown hg6 (fun k e => .inl e)) (by rw [← HMD.out]; exact hown) (fun k e => (hlo k e).imp id (fun h => by simp at h; omega))); clear p0 p1 p2 pf c2 hown hg6 hlo; obtain ⟨p0, p1, p2, pf, c2⟩ := HPm.out _ _ _ HE6.out)
                go_region
                all_goals
                  go_wp2
                  go_roundw
                  case rel => exact ⟨j + 1, _, by omega, by go_num, by rw [HRs2.out] <;> simp, rfl, by rw [HRs2.out]; first | exact Lib.hid (HE6.out.setB (L' := Lk f s (j + 1)) (b' := ob + mo) hlt (by rw [HLs2.out, HGt.out])) | exact Lib.hid (HE6.out.setB (L' := Lk f s (j + 1)) (b' := ob + mo) hlt (by rw [HLs2.out, HGt.out])).drew⟩
                  case measure => simp [intOf]; omega
              · have e2 : decide (0 < mo) = false := by rw [decide_eq_false_iff_not]; exact g2
                have HRs2 := Lib.hid (show rk f s (j + 1) = ⟨sk - mo, D⟩ by
                  rw [HRs.out]; unfold giveS
                  have e3 : mo = 0 := by omega
                  rw [if_neg (by show ¬ 0 < min sk mo; omega)]
                  show (⟨sk, D⟩ : RS) = ⟨sk - mo, D⟩
                  rw [show sk - mo = sk by omega])
                clear g1 g2 hea
                go_wp2_with fail
                go_region
                all_goals
                  go_wp2
                  go_roundw
                  case rel => exact ⟨j + 1, _, by omega, by go_num, by rw [HRs2.out] <;> simp, rfl, by rw [HRs2.out]; first | exact Lib.hid (HE1.out.setB (L' := Lk f s (j + 1)) (b' := ob + mo) hlt (by rw [HLs2.out, HGt.out])) | exact Lib.hid (HE1.out.setB (L' := Lk f s (j + 1)) (b' := ob + mo) hlt (by rw [HLs2.out, HGt.out])).drew⟩
                  case measure => simp [intOf]; omega
          · obtain rfl : j = k := by omega
            have hjn : j = f.L.length := HN.out
            have c2b := hE.out.boxes.2.2.1
            have hgb := (HOk.out j).2
            have hss := HS.out
            have hlb := HLb.out
            have hrf1 := HRF.out.1
            have hrf2 := HRF.out.2
            have ho3 := HO3.out
            rw [← hjn] at hrf1 hrf2 ho3
            have HDl := Lib.hid (rk_len (f := f) (s := s) j)
            obtain ⟨rr, hrr⟩ : ∃ r, r = rk f s j := ⟨_, rfl⟩
            rw [← hrr] at hE HDl hgb hrf1 hrf2 ho3 ⊢
            clear hrr
            obtain ⟨sk, D⟩ := rr
            dsimp only at hE HDl hgb ho3 ⊢
            have HOwn := Lib.hid (show (recF f s).1.own = f.own + sk by rw [hrf1]; show f.own + giveN (leftF f) ⟨sk, D⟩ = _; unfold giveN; show f.own + min sk (leftF f) = _; omega)
            have HLL := Lib.hid (show (recF f s).1.L = Lk f s j by rw [hrf1]; rfl)
            have HLen := Lib.hid (show (recF f s).1.L.length ≤ 100 by rw [HLL.out, Lk_len f s (by omega)]; omega)
            have HVv := Lib.hid (show 1 ≤ (recF f s).1.value from HV0.out)
            have v5 : IntKind.i64.wrap (f.own + sk) = f.own + sk := IntWalk.i64_in _ (by omega)
            by_cases g2 : 0 < sk
            · have e2 : decide (0 < sk) = true := by rw [decide_eq_true_iff]; exact g2
              have HD2 := Lib.hid (show (recF f s).2 = D ++ [⟨⟨#[]⟩, ⟨#[]⟩, sk⟩] by
                rw [hrf2]; unfold giveS
                have e3 : min sk (leftF f) = sk := by omega
                rw [if_pos (by show 0 < min sk (leftF f); omega)]
                show D ++ [⟨⟨#[]⟩, ⟨#[]⟩, min sk (leftF f)⟩] = _
                rw [e3])
              obtain ⟨ag5, cg5, e5⟩ := own_shape hE.out.ent
              subst e5
              obtain ⟨m, hmD⟩ : ∃ m, m = D.length := ⟨_, rfl⟩
              rw [← hmD] at hE ⊢
              have HMD := Lib.hid hmD
              have hm200 : m ≤ 200 := by have := HDl.out; omega
              have HA5 := Lib.hid (show (wr.alloc (.cells #[.string ⟨#[]⟩, .string ⟨#[]⟩, .int .i64 sk] 59)).ownsRow 0 59 3 (.slice ag5 m cg5) m (D.flatMap En.cells) by
                have := hE.out.ent.alloc (.cells #[.string ⟨#[]⟩, .string ⟨#[]⟩, .int .i64 sk] 59)
                rwa [← hmD] at this)
              clear hmD g2 hgb hss hlb hrf1 hrf2 ho3 hjn
              go_wp2_with (at_builtin; refine wpList_own rfl (.tmp 108) (.tmp 111) 44 rfl 59 i0 _ 3 40 Try.underlying44 hi0 hz0 hz1 hz2 rfl (by decide) _ m _ rfl HA5.out ⟨wr.heap.size, 0, none⟩ 1 1 [.string ⟨#[]⟩, .string ⟨#[]⟩, .int .i64 sk] rfl rfl (new_cells wr #[.string ⟨#[]⟩, .string ⟨#[]⟩, .int .i64 sk] _) (one_en ⟨⟨#[]⟩, ⟨#[]⟩, sk⟩) (by unfold maxLen; omega) (by omega) ?_; intro v6 w6 hown hg6 hlo; obtain ⟨a6, c6, rfl⟩ := own_shape hown; have HE6 := Lib.hid (hE.out.app ⟨⟨#[]⟩, ⟨#[]⟩, sk⟩ (((Touch.refl _ wr).alloc _).grown hg6 (fun k e => .inl e)) (by rw [← HMD.out]; exact hown) (fun k e => (hlo k e).imp id (fun h => by simp at h; omega))); clear hown hg6 hlo; obtain ⟨c0, c1, c2, c3, fz, r0, r1, r2, r3, fr⟩ := HE6.out.boxes; have z3 := fz 3; have y0 := fr 0; have y1 := fr 1; have y2 := fr 2; have y3 := fr 3; clear fz fr)
              obtain ⟨e1, e2', e3⟩ := QEnv.fin (f' := (recF f s).1) (y := f.own + sk) (x0 := .int .i64 f.loss) (x1 := .int .i64 f.value) (x2 := .slice a8 j c8) (x3 := .int .i64 (f.own + sk)) (by rw [HLL.out]; exact HE6.out) HO1.out HLen.out HVv.out
              exact bodyPost_ret (v := .tuple #[.agg #[.int .i64 f.loss, .int .i64 f.value, .slice a8 j c8, .int .i64 (f.own + sk)], .slice a6 (m + 1) c6, .int .i64 0]) (by simp [results, Try.results15, go_sem, r0, r1, r2, r3, y0, y1, y2, y3, c0, c1, c2, c3, z3]) rfl ⟨a8, j, c8, _, by rw [HOwn.out]; rfl, e1, by rw [HD2.out]; exact e2', e3, fun a h => .inr (by have h1 := HE6.out.hg a.block (by rw [h]; rfl); omega), fun k h => by have h1 := HE6.out.hv k h; omega⟩
            · have e2 : decide (0 < sk) = false := by rw [decide_eq_false_iff_not]; exact g2
              have HD2 := Lib.hid (show (recF f s).2 = D by
                rw [hrf2]; unfold giveS
                rw [if_neg (by show ¬ 0 < min sk (leftF f); omega)])
              have HEz := Lib.hid hE.out
              obtain ⟨ag5, cg5, e5⟩ := own_shape hE.out.ent
              subst e5
              obtain ⟨c0, c1, c2, c3, fz, r0, r1, r2, r3, fr⟩ := hE.out.boxes
              have z3 := fz 3
              have y0 := fr 0
              have y1 := fr 1
              have y2 := fr 2
              have y3 := fr 3
              clear fz fr g2 hgb hss hlb hrf1 hrf2 ho3 hjn
              go_wp2
              obtain ⟨e1, e2', e3⟩ := QEnv.fin (f' := (recF f s).1) (y := f.own + sk) (x0 := .int .i64 f.loss) (x1 := .int .i64 f.value) (x2 := .slice a8 j c8) (x3 := .int .i64 (f.own + sk)) (by rw [HLL.out]; exact HEz.out) HO1.out HLen.out HVv.out
              exact bodyPost_ret (v := .tuple #[.agg #[.int .i64 f.loss, .int .i64 f.value, .slice a8 j c8, .int .i64 (f.own + sk)], .slice ag5 D.length cg5, .int .i64 0]) (by simp [results, Try.results15, go_sem, r0, r1, r2, r3, y0, y1, y2, y3, c0, c1, c2, c3, z3]) rfl ⟨a8, j, c8, _, by rw [HOwn.out]; rfl, e1, by rw [HD2.out]; exact e2', e3, fun a h => .inr (by have h1 := HEz.out.hg a.block (by rw [h]; rfl); omega), fun k h => by have h1 := HEz.out.hv k h; omega⟩

theorem rrec_any (w : World) (ao : Option Addr) (n cap : Nat) (f : Fi) (s : Int) (h : RF w ao n cap f) :
    Calls Try.prog 15 #[.agg #[.int .i64 f.loss, .int .i64 f.value, .slice ao n cap, .int .i64 f.own], .int .i64 s] w (RRecd w f ao (f.recover s)) := by
  by_cases h1 : s < 1 ∨ 1099511627776 < s
  · have e1 : f.recover s = (f, [], 3) := by unfold Fi.recover; rw [if_pos h1]
    rw [e1]; exact rrec_bad w ao n cap f s h h1
  · exact rrec_go w ao n cap f s h (by omega) (by omega)


set_option maxHeartbeats 1000000 in
theorem rsame44_any (a b : Value) (D : List En) (w : World) (h1 : Ens w a D) (h2 : Ens w b D) :
    Calls Try.prog 17 #[a, b] w fun e w' => e = .returned (.bool true) ∧ Below w.heap.size w w' := by
  obtain ⟨ao, cap, ea, k1, k2, _⟩ := h1.shape
  obtain ⟨bo, cap2, eb, k3, k4, _⟩ := h2.shape
  subst ea eb
  obtain ⟨n, HN⟩ : ∃ n, Hid (n = D.length) := ⟨_, Lib.hid rfl⟩
  rw [← HN.out] at h1 h2 k1 k3 ⊢
  have H1 := Lib.hid h1
  have H2 := Lib.hid h2
  have hn4 : n ≤ 9223372036854775807 := by unfold maxLen at k2; omega
  clear h1 h2 k1 k2 k3 k4
  go_enter Try.func17, Try.ntmps17
  go_wp2
  go_loopw [5] (fun i wr => ∃ k : Nat, k ≤ n ∧ i = .int .i64 (k : Int) ∧ Hid (∃ q, wr = w.drewN q)) (fun i _ => n - (intOf i).toNat)
  case atStart => exact ⟨0, Nat.zero_le _, rfl, Lib.hid ⟨0, rfl⟩⟩
  case round =>
    obtain ⟨k, hk, rfl, hw⟩ := hrel
    by_cases hlt : k < n
    · have l1 : (k : Int) < (n : Int) := by omega
      have l0 : (0 : Int) ≤ (k : Int) := by omega
      have I1 : Ens wr (.slice ao n cap) D := by obtain ⟨q, e⟩ := hw.out; rw [e]; exact Row.drewN H1.out q
      have I2 : Ens wr (.slice bo n cap2) D := by obtain ⟨q, e⟩ := hw.out; rw [e]; exact Row.drewN H2.out q
      obtain ⟨b1, o1, rfl, -, hc1⟩ := I1.get HN.out (by omega)
      obtain ⟨b2, o2, rfl, -, hc2⟩ := I2.get HN.out (by omega)
      obtain ⟨a1, a2, a3⟩ := hc1 k hlt
      obtain ⟨e1, e2, e3⟩ := hc2 k hlt
      generalize D.getD k default = d at *
      obtain ⟨t, c, z⟩ := d
      dsimp only at a1 a2 a3 e1 e2 e3
      clear hc1 hc2 I1 I2
      go_wp2_with fail
      go_quiet (fail)
      go_wp2
      go_roundw
      case rel => exact ⟨k + 1, by omega, by go_num, Lib.hid (by obtain ⟨q, e⟩ := hw.out; exact ⟨q + nq, by rw [e, World.drewN_drewN]⟩)⟩
      case measure => simp [intOf]; omega
    · obtain rfl : k = n := by omega
      go_wp2
      go_ret
      exact ⟨rfl, by obtain ⟨q, e⟩ := hw.out; rw [e]; exact below_drewN (Below.refl _ _) q⟩

/-- An act: of whom is claimed, by which policy; or what is recovered. -/
structure Ac where
  u : ByteArray
  o : Po
  s : Int
instance : Inhabited Ac := ⟨⟨⟨#[]⟩, default, 0⟩⟩
def Ac.cells (a : Ac) : List Value := [.string a.u, .string a.o.i, .string a.o.f, .string a.o.t, .int .i64 a.o.sum, .int .i64 a.o.own, a.o.cv, .int .i64 a.o.first, .int .i64 a.o.last, .int .i64 a.o.share, .int .i64 a.s]
structure AcOk (W : World) (a : Ac) : Prop where
  zs : Ints W a.o.cv a.o.zs
  s1 : a.o.i.size ≤ maxLen
  s2 : a.o.f.size ≤ maxLen
  s3 : a.o.t.size ≤ maxLen
def Acs (w : World) (v : Value) (l : List Ac) : Prop := Row w v 11 l.length (l.flatMap Ac.cells) ∧ ∀ a ∈ l, AcOk w a
theorem Acs.below {w w' : World} {v : Value} {l : List Ac} (h : Acs w v l) (hb : Below w.heap.size w w') : Acs w' v l := ⟨Row.below h.1 hb, fun a ha => ⟨(h.2 a ha).zs.below hb, (h.2 a ha).s1, (h.2 a ha).s2, (h.2 a ha).s3⟩⟩
theorem Acs.shape {w : World} {v : Value} {l : List Ac} (h : Acs w v l) : ∃ ao cap, v = .slice ao l.length cap ∧ l.length ≤ cap ∧ cap ≤ maxLen ∧ (ao = none → cap = 0) := by
  obtain ⟨_, ao, cap, h1, h2, h3, h4, _⟩ := h.1
  exact ⟨ao, cap, h1, h2, h3, h4⟩
theorem Acs.get {w : World} {ao : Option Addr} {n cap : Nat} {l : List Ac} (h : Acs w (.slice ao n cap) l) (hn : n = l.length) (hp : 0 < n) : ∃ b off, ao = some ⟨b, off, none⟩ ∧ b < w.heap.size ∧ ∀ k, k < n → ∀ j, j < 11 →
    w.cell? ⟨b, off + (k * 11 + j), none⟩ = (Ac.cells (l.getD k default))[j]? := by
  have hl : (l.flatMap Ac.cells).length = l.length * 11 := flat_len (f := Ac.cells) (sz := 11) (fun _ => rfl) l
  obtain ⟨b, off, cap', e, h2, h3, h4, h5⟩ := Row.at h.1 (by omega)
  cases e
  refine ⟨b, off, rfl, h4, fun k hk j hj => ?_⟩
  rw [List.getD_eq_getElem?_getD, List.getElem?_eq_getElem (show k < l.length by omega)]
  have e := flat_get (f := Ac.cells) (sz := 11) (fun _ => rfl) l k j (by omega) hj
  show _ = (Ac.cells l[k])[j]?
  rw [← e, h5 (k * 11 + j) (by rw [hl]; omega), ← List.getElem?_eq_getElem]
theorem Acs.mem {w : World} {v : Value} {l : List Ac} (h : Acs w v l) {k : Nat} (hk : k < l.length) : AcOk w (l.getD k default) := by
  rw [List.getD_eq_getElem?_getD, List.getElem?_eq_getElem hk]
  exact h.2 _ (List.getElem_mem hk)

theorem cellsAct : Try.prog.cellsOf 43 = 11 := by kernel_rfl
theorem cellsStr : Try.prog.cellsOf 9 = 1 := by kernel_rfl
theorem cellsI64 : Try.prog.cellsOf 2 = 1 := by kernel_rfl
def Is34 (w : World) (v : Value) : Prop := ∃ l, Acs w v l
set_option maxRecDepth 20000 in
theorem open34 {H : Type} {enc : TypeId × Value → H} {W : World} {base : Nat} {v : Value} {d : DataW H} {p : List MemPlace} (hval : Value.okWide Try.prog W .any base 34 v)
    (h : DataW.Trod enc Try.prog W 0 (fun _ => true) true 34 v d p) : Is34 W v := by
  obtain ⟨a0, len, cap, rfl⟩ := WideShapes.okWide_slice Try.underlying34 hval
  obtain ⟨fuel, hf⟩ := h
  rcases DataW.trod_slice Try.underlying34 hf with ⟨hcs, _⟩ | ⟨a, len', cap', elems, rest, n, rfl, hcs, hx, _, hl, hm, hel2, hcells, _⟩
  · simp [Value.cells] at hcs
    obtain ⟨rfl, rfl, rfl⟩ := hcs
    exact ⟨[], Row.nil _ _, by simp⟩
  · simp [Value.cells] at hcs
    obtain ⟨rfl, rfl, rfl⟩ := hcs
    rw [cellsAct] at hcells
    obtain ⟨xs, h1, h2, h3⟩ := row_of_each (f := Ac.cells) (p := AcOk W) (sz := 11) (fun _ => rfl) hl hm (W := W) (a := a) (fun i hi => by
      have := hcells i hi
      rw [List.getElem?_eq_getElem (by omega)] at this
      obtain ⟨cs1, hc1, ht⟩ := Option.bind_eq_some_iff.1 this
      obtain ⟨ys, n', _, hy, hlen, hyl, hfs⟩ := DataW.trod_struct Try.underlying43 ht
      rw [cellsAct] at hlen
      rw [hc1]
      match cs1, hlen with
      | [c0, c1, c2, c3, c4, c5, c6, c7, c8, c9, c10], _ =>
        have hyl3 : ys.length = 3 := hyl
        have t0 : DataW.trod enc Try.prog W 0 (fun _ => true) true n' 9 (List.take (Try.prog.cellsOf 9) (List.drop 0 [c0, c1, c2, c3, c4, c5, c6, c7, c8, c9, c10])) = ys[0]? := hfs 0 _ rfl
        have t1 : DataW.trod enc Try.prog W 0 (fun _ => true) true n' 32 (List.take (Try.prog.cellsOf 32) (List.drop 1 [c0, c1, c2, c3, c4, c5, c6, c7, c8, c9, c10])) = ys[1]? := hfs 1 _ rfl
        have t2 : DataW.trod enc Try.prog W 0 (fun _ => true) true n' 2 (List.take (Try.prog.cellsOf 2) (List.drop 10 [c0, c1, c2, c3, c4, c5, c6, c7, c8, c9, c10])) = ys[2]? := hfs 2 _ rfl
        rw [cellsStr, List.getElem?_eq_getElem (by omega)] at t0
        rw [cellsPol, List.getElem?_eq_getElem (by omega)] at t1
        rw [cellsI64, List.getElem?_eq_getElem (by omega)] at t2
        have t0 : DataW.trod enc Try.prog W 0 (fun _ => true) true n' 9 [c0] = some _ := t0
        have t1 : DataW.trod enc Try.prog W 0 (fun _ => true) true n' 32 [c1, c2, c3, c4, c5, c6, c7, c8, c9] = some _ := t1
        have t2 : DataW.trod enc Try.prog W 0 (fun _ => true) true n' 2 [c10] = some _ := t2
        obtain ⟨u, ru, _, hwu⟩ := DataW.trod_string Try.underlying9 t0
        obtain ⟨s, rs, _, hws⟩ := DataW.trod_int Try.underlying2 t2
        obtain ⟨_, m, hps⟩ := fields_at Try.underlying32 (by kernel_rfl) (by kernel_rfl) t1
        obtain ⟨v0, y0, e0, p0⟩ := hps 0 _ rfl
        obtain ⟨v1, y1, e1, p1⟩ := hps 1 _ rfl
        obtain ⟨v2, y2, e2, p2⟩ := hps 2 _ rfl
        obtain ⟨v3, y3, e3, p3⟩ := hps 3 _ rfl
        obtain ⟨v4, y4, e4, p4⟩ := hps 4 _ rfl
        obtain ⟨v5, y5, e5, p5⟩ := hps 5 _ rfl
        obtain ⟨v6, y6, e6, p6⟩ := hps 6 _ rfl
        obtain ⟨v7, y7, e7, p7⟩ := hps 7 _ rfl
        obtain ⟨v8, y8, e8, p8⟩ := hps 8 _ rfl
        simp at e0 e1 e2 e3 e4 e5 e6 e7 e8
        subst e0 e1 e2 e3 e4 e5 e6 e7 e8
        obtain ⟨z0, r0, _, hw0⟩ := DataW.trod_string Try.underlying9 p0
        obtain ⟨z1, r1, _, hw1⟩ := DataW.trod_string Try.underlying9 p1
        obtain ⟨z2, r2, _, hw2⟩ := DataW.trod_string Try.underlying9 p2
        obtain ⟨z3, r3, _, hw3⟩ := DataW.trod_int Try.underlying2 p3
        obtain ⟨z4, r4, _, hw4⟩ := DataW.trod_int Try.underlying2 p4
        obtain ⟨zs, hzs⟩ := ints_trod p5
        obtain ⟨z6, r6, _, hw6⟩ := DataW.trod_int Try.underlying3 p6
        obtain ⟨z7, r7, _, hw7⟩ := DataW.trod_int Try.underlying3 p7
        obtain ⟨z8, r8, _, hw8⟩ := DataW.trod_int Try.underlying3 p8
        cases ru; cases rs; cases r0; cases r1; cases r2; cases r3; cases r4; cases r6; cases r7; cases r8
        exact ⟨⟨u, ⟨z0, z1, z2, z3, z4, _, zs, z6, z7, z8⟩, s⟩, rfl, ⟨hzs.1, hw0, hw1, hw2⟩⟩)
    subst h1
    exact ⟨xs, h3, h2⟩

/-- Act k, of these: where it lies. -/
theorem Acs.one {w w0 : World} {bl off n : Nat} {l : List Ac} {k : Nat} (hk : k < n) (hp : ∀ k, k < n → ∀ j, j < 11 → w0.cell? ⟨bl, off + (k * 11 + j), none⟩ = (Ac.cells (l.getD k default))[j]?) (hbl : bl < w0.heap.size) (hb : Below w0.heap.size w0 w) (hi : AcOk w0 (l.getD k default)) :
    ∃ u i f t sum own ao m cap zs first last share s, l.getD k default = ⟨u, ⟨i, f, t, sum, own, .slice ao m cap, zs, first, last, share⟩, s⟩ ∧ m = zs.length ∧ m ≤ cap ∧ cap ≤ maxLen ∧ AcOk w ⟨u, ⟨i, f, t, sum, own, .slice ao m cap, zs, first, last, share⟩, s⟩ ∧
      w.cell? ⟨bl, off + k * 11, none⟩ = some (.string u) ∧ w.cell? ⟨bl, off + k * 11 + 1, none⟩ = some (.string i) ∧ w.cell? ⟨bl, off + k * 11 + 2, none⟩ = some (.string f) ∧ w.cell? ⟨bl, off + k * 11 + 3, none⟩ = some (.string t) ∧
      w.cell? ⟨bl, off + k * 11 + 4, none⟩ = some (.int .i64 sum) ∧ w.cell? ⟨bl, off + k * 11 + 5, none⟩ = some (.int .i64 own) ∧ w.cell? ⟨bl, off + k * 11 + 6, none⟩ = some (.slice ao m cap) ∧
      w.cell? ⟨bl, off + k * 11 + 7, none⟩ = some (.int .i64 first) ∧ w.cell? ⟨bl, off + k * 11 + 8, none⟩ = some (.int .i64 last) ∧ w.cell? ⟨bl, off + k * 11 + 9, none⟩ = some (.int .i64 share) ∧ w.cell? ⟨bl, off + k * 11 + 10, none⟩ = some (.int .i64 s) := by
  have hp := hp k hk
  generalize l.getD k default = x at *
  obtain ⟨u, o, s⟩ := x
  obtain ⟨i, f, t, sum, own, ao, m, cap, first, last, share, e, hn, hc1, hc2⟩ := Po.apart hi.zs
  have hp2 : ∀ j, j < 11 → w.cell? ⟨bl, off + k * 11 + j, none⟩ = (Ac.cells ⟨u, o, s⟩)[j]? := fun j hj => by
    rw [hb.cell (by show bl < _; omega), Nat.add_assoc]; exact hp j hj
  have hi2 : AcOk w ⟨u, o, s⟩ := ⟨hi.zs.below hb, hi.s1, hi.s2, hi.s3⟩
  dsimp only at e hn
  generalize o.zs = zs at *
  subst e
  exact ⟨u, i, f, t, sum, own, ao, m, cap, zs, first, last, share, s, rfl, hn, hc1, hc2, hi2, hp2 0 (by omega), hp2 1 (by omega), hp2 2 (by omega), hp2 3 (by omega), hp2 4 (by omega), hp2 5 (by omega), hp2 6 (by omega), hp2 7 (by omega), hp2 8 (by omega), hp2 9 (by omega), hp2 10 (by omega)⟩

/-- Few acts, of few causes. -/
def actsB (l : List Ac) : Bool := decide (l.length ≤ 20) && (List.range l.length).all fun k => decide ((l.getD k default).o.zs.length ≤ 70)
theorem acts_iff (l : List Ac) : actsB l = true ↔ l.length ≤ 20 ∧ ∀ k, k < l.length → (l.getD k default).o.zs.length ≤ 70 := by
  simp [actsB]

set_option maxHeartbeats 2000000 in
theorem acts_any (ao : Option Addr) (n cap : Nat) (l : List Ac) (w : World) (h : Acs w (.slice ao n cap) l) (hn : n = l.length) (hcap : n ≤ maxLen) :
    Calls Try.prog 13 #[.slice ao n cap] w fun e w' => e = .returned (.bool (actsB l)) ∧ w' = w := by
  obtain ⟨x, hx⟩ : ∃ x, x = actsB l := ⟨_, rfl⟩
  rw [← hx]
  have HX := Lib.hid hx
  have H := Lib.hid h
  have HN := Lib.hid hn
  have hcap : n ≤ 9223372036854775807 := by unfold maxLen at hcap; omega
  clear hx h hn
  go_enter Try.func13, Try.ntmps13
  go_wp2
  go_loopw [3] (fun i wr => ∃ k : Nat, k ≤ n ∧ i = .int .i64 (k : Int) ∧ Hid (∀ j, j < k → (l.getD j default).o.zs.length ≤ 70) ∧ Hid (wr = w)) (fun i _ => n - (intOf i).toNat)
  case atStart => exact ⟨0, Nat.zero_le _, rfl, Lib.hid (fun j hj => by omega), Lib.hid rfl⟩
  case round =>
    obtain ⟨k, hk, rfl, hp, hw⟩ := hrel
    by_cases hlt : k < n
    · have l1 : (k : Int) < (n : Int) := by omega
      have l0 : (0 : Int) ≤ (k : Int) := by omega
      have hwe := hw.out
      subst hwe
      obtain ⟨bl, off, rfl, hbl, hc⟩ := H.out.get HN.out (by omega)
      obtain ⟨u, i, f, t, sum, own, a, m, cap', zs, first, last, share, s, e, hmm, hc1, hc2, hi, k0, k1, k2, k3, k4, k5, k6, k7, k8, k9, k10⟩ := Acs.one hlt hc hbl (Below.refl _ _) (H.out.mem (by rw [← HN.out]; exact hlt))
      have HE := Lib.hid (show (l.getD k default).o.zs.length = m by rw [e]; exact hmm.symm)
      have k6 : wr.cell? ⟨bl, off + k * 11 + 1 + 5, none⟩ = some (.slice a m cap') := k6
      clear hc e hi hc1 hc2 hmm k0 k1 k2 k3 k4 k5 k7 k8 k9 k10
      by_cases g : 70 < m
      · have d1 : decide ((70 : Int) < (m : Int)) = true := by rw [decide_eq_true_iff]; omega
        have HR := Lib.hid (show x = false by rw [HX.out, Bool.eq_false_iff]; intro hf; have := ((acts_iff l).1 hf).2 k (by rw [← HN.out]; exact hlt); rw [HE.out] at this; omega)
        go_wp2
        go_ret
        exact ⟨by rw [HR.out]; rfl, rfl⟩
      · have d1 : decide ((70 : Int) < (m : Int)) = false := by rw [decide_eq_false_iff_not]; omega
        have HQ := Lib.hid (show ∀ j, j < k + 1 → (l.getD j default).o.zs.length ≤ 70 from fun j hj => by
          by_cases e' : j = k
          · subst e'; rw [HE.out]; omega
          · exact hp.out j (by omega))
        go_wp2
        go_roundw
        case rel => exact ⟨k + 1, by omega, by go_num, HQ, Lib.hid (by trivial)⟩
        case measure => simp [intOf]; omega
    · obtain rfl : k = n := by omega
      have HR := Lib.hid (show x = decide ((k : Int) ≤ 20) by
        rw [HX.out]
        have ha : (List.range l.length).all (fun k => decide ((l.getD k default).o.zs.length ≤ 70)) = true := by
          rw [List.all_eq_true]
          intro j hj
          rw [decide_eq_true_iff]
          exact hp.out j (by have := HN.out; have := List.mem_range.1 hj; omega)
        unfold actsB
        rw [ha, Bool.and_true, ← HN.out, decide_eq_decide]; omega)
      go_wp2
      go_ret
      exact ⟨by rw [HR.out]; rfl, hw.out⟩
end Go.Proofs.Ytamfdkigokicoaa
