/-
  File.Recover: how the payments' row is written; the states in between.
-/
import Derived.Test.YtofkeipfkglljaaFGive
namespace Go.Proofs.Ytofkeipfkglljaa
open Go Go.RowKit
set_option linter.unusedVariables false
set_option linter.unusedSimpArgs false

theorem flat_set : ∀ (L : List Pm) (k : Nat) (b' : Int), k < L.length → (L.set k ⟨(L.getD k default).t, (L.getD k default).p, b'⟩).flatMap Pm.cells = (L.flatMap Pm.cells).set (k * 3 + 2) (.int .i64 b')
  | [], k, b', h => by simp at h
  | a :: L, 0, b', _ => by
    rw [List.set_cons_zero, List.flatMap_cons, List.flatMap_cons]
    rfl
  | a :: L, k + 1, b', h => by
    have IH := flat_set L k b' (by simpa using h)
    rw [List.set_cons_succ, List.flatMap_cons, List.flatMap_cons, show (k + 1) * 3 + 2 = (k * 3 + 2) + 1 + 1 + 1 by omega]
    rw [show (a :: L).getD (k + 1) default = L.getD k default by simp [List.getD_eq_getElem?_getD], IH]
    show _ = (Value.string a.t :: Value.int .i64 a.p :: Value.int .i64 a.b :: L.flatMap Pm.cells).set _ _
    rw [List.set_cons_succ, List.set_cons_succ, List.set_cons_succ]
    rfl
theorem own_at {w : World} {base e sz n : Nat} {v : Value} {cs : List Value} (h : w.ownsRow base e sz v n cs) (hp : 0 < n) : ∃ g cap, v = .slice (some ⟨g, 0, none⟩) n cap ∧ g < w.heap.size ∧ ∀ j, w.frozen? ⟨g, j, none⟩ = false := by
  rcases h.2 with ⟨rfl, rfl⟩ | ⟨g, cap, cur, rfl, h3, h4, h5⟩
  · have := h.1
    omega
  · exact ⟨g, cap, rfl, lt_of_block h4, fun j => by simp [World.frozen?, h4]⟩
theorem own_set {w : World} {e sz n g cap j : Nat} {cs : List Value} (h : w.ownsRow 0 e sz (.slice (some ⟨g, 0, none⟩) n cap) n cs) (hj : j < n * sz) (u : Value) : (w.setCell ⟨g, j, none⟩ u).ownsRow 0 e sz (.slice (some ⟨g, 0, none⟩) n cap) n (cs.set j u) := by
  rcases h.2 with ⟨h1, _⟩ | ⟨g', cap', cur, e', h3, h4, h5, h6, h7, h8⟩
  · cases h1
  · cases e'
    refine ⟨by rw [List.length_set]; exact h.1, .inr ⟨g, cap, cur.setIfInBounds j u, rfl, h3, heap_set h4, h5, h6, by rw [Array.size_setIfInBounds]; exact h7, ?_⟩⟩
    rw [Array.toList_setIfInBounds, List.take_set, h8]

/-- k of the payments have got. -/
def Lk (f : Fi) (s : Int) (k : Nat) : List Pm := (recK (f.L.take k) ⟨s, []⟩).1 ++ f.L.drop k
def rk (f : Fi) (s : Int) (k : Nat) : RS := (recK (f.L.take k) ⟨s, []⟩).2
def Fk (f : Fi) (s : Int) (k : Nat) : Fi := { f with L := Lk f s k }
theorem Lk_len (f : Fi) (s : Int) {k : Nat} (hk : k ≤ f.L.length) : (Lk f s k).length = f.L.length := by
  unfold Lk; rw [List.length_append, recK_len, List.length_take, List.length_drop]; omega
theorem Lk_zero (f : Fi) (s : Int) : Lk f s 0 = f.L := by simp [Lk, recK]
theorem Fk_zero (f : Fi) (s : Int) : Fk f s 0 = f := by unfold Fk; rw [Lk_zero]
theorem rk_zero (f : Fi) (s : Int) : rk f s 0 = ⟨s, []⟩ := by simp [rk, recK]
theorem Lk_get (f : Fi) (s : Int) {k : Nat} (hk : k < f.L.length) : (Lk f s k).getD k default = f.L[k] := by
  unfold Lk
  rw [List.getD_eq_getElem?_getD, List.getElem?_append_right (by rw [recK_len, List.length_take]; omega), recK_len, List.length_take, Nat.min_eq_left (by omega), Nat.sub_self, List.getElem?_drop, Nat.add_zero, List.getElem?_eq_getElem hk]
  rfl
theorem rk_step (f : Fi) (s : Int) {k : Nat} (hk : k < f.L.length) : rk f s (k + 1) = giveS f.L[k].t (f.L[k].p - f.L[k].b) (rk f s k) := by
  unfold rk
  rw [List.take_succ_eq_append_getElem hk, recK_app]
  rfl
theorem Lk_step (f : Fi) (s : Int) {k : Nat} (hk : k < f.L.length) : Lk f s (k + 1) = (Lk f s k).set k ⟨f.L[k].t, f.L[k].p, f.L[k].b + giveN (f.L[k].p - f.L[k].b) (rk f s k)⟩ := by
  unfold Lk rk
  rw [List.take_succ_eq_append_getElem hk, recK_app, List.set_append_right _ _ (by rw [recK_len, List.length_take]; omega), recK_len, List.length_take, Nat.min_eq_left (by omega), Nat.sub_self, List.drop_eq_getElem_cons hk, List.set_cons_zero, List.append_assoc]
  rfl
theorem fk_ok {f : Fi} (h : FileOk f) {s : Int} (h0 : 0 ≤ s) (k : Nat) : FileOk (Fk f s k) ∧ 0 ≤ (rk f s k).s ∧ (rk f s k).s ≤ s := by
  have hp : ∀ o ∈ f.L.take k, 0 ≤ o.b ∧ o.b ≤ o.p := fun o ho => h.each o (List.mem_of_mem_take ho)
  obtain ⟨r1, r2, r3, r4, r5, r6⟩ := recK_sum (L := f.L.take k) (r := ⟨s, []⟩) hp h0
  have hO := openF_nonneg hp
  refine ⟨⟨fun o ho => ?_, h.own, ?_, h.l0, h.l1, h.v1⟩, r2, ?_⟩
  · rcases List.mem_append.1 ho with ho | ho
    · exact r1 o ho
    · exact h.each o (List.mem_of_mem_drop ho)
  · have e : paidF (Fk f s k) = paidF f := by
      unfold paidF Fk Lk
      dsimp only
      rw [List.map_append, r4, ← List.map_append, List.take_append_drop]
    rw [e]; exact h.all
  · have e1 := recK_ent (f.L.take k) ⟨s, []⟩
    have e2 : ∀ (L : List Pm) (r : RS), 0 ≤ r.s → (∀ o ∈ L, 0 ≤ o.b ∧ o.b ≤ o.p) → (recK L r).2.s ≤ r.s := by
      intro L
      induction L with
      | nil => intro r _ _; exact Int.le_refl _
      | cons o L ih =>
        intro r hr ho
        have h1 := ho o (by simp)
        have hs := giveS_s (t := o.t) (most := o.p - o.b) hr (by omega)
        have hg : 0 ≤ giveN (o.p - o.b) r ∧ giveN (o.p - o.b) r ≤ r.s := by unfold giveN; omega
        have := ih (giveS o.t (o.p - o.b) r) (by omega) (fun x hx => ho x (by simp [hx]))
        rw [recK]
        show (recK L (giveS o.t (o.p - o.b) r)).2.s ≤ r.s
        omega
    exact e2 (f.L.take k) ⟨s, []⟩ h0 hp
theorem rk_len {f : Fi} {s : Int} : ∀ k, (rk f s k).D.length ≤ k
  | 0 => by rw [rk_zero]; exact Nat.le_refl _
  | k + 1 => by
    by_cases hk : k < f.L.length
    · rw [rk_step f s hk]
      have := rk_len (f := f) (s := s) k
      unfold giveS
      split
      · show ((rk f s k).D ++ [_]).length ≤ _
        simp; exact this
      · omega
    · have e : rk f s (k + 1) = rk f s k := by unfold rk; rw [List.take_of_length_le (by omega), List.take_of_length_le (by omega)]
      rw [e]; have := rk_len (f := f) (s := s) k; omega

/-- A payment's row is written: so much came back to k. -/
theorem GEnv.setB {w0 : World} {b bs bg g cap n : Nat} {w : World} {f f' : Fi} {vg : Value} {r : RS} {k : Nat} {b' : Int} (h : GEnv w0 b (.slice (some ⟨g, 0, none⟩) n cap) bs bg w f vg r) (hn : n = f.L.length) (hk : k < n)
    (hf : f' = { f with L := f.L.set k ⟨(f.L.getD k default).t, (f.L.getD k default).p, b'⟩ }) (ok : FileOk f') :
    GEnv w0 b (.slice (some ⟨g, 0, none⟩) n cap) bs bg (w.setCell ⟨g, k * 3 + 2, none⟩ (.int .i64 b')) f' vg r := by
  obtain ⟨fi, cs, cg, fs, fg, row, l0, l1, l2, l3, l4, lw, touch, s0, s1⟩ := h
  have hg : g < bs := l1 g rfl
  have hne : g ≠ b := fun e => fi.ne (by rw [← e]; rfl)
  have ht := (Touch.refl (fun x => x = g) w).setCell (p := ⟨g, k * 3 + 2, none⟩) (.inl rfl) (.int .i64 b')
  have hlen : f'.L.length = f.L.length := by rw [hf]; exact List.length_set
  have hro := fi.row
  rw [← hn] at hro
  have hrow := own_set hro (show k * 3 + 2 < n * 3 by omega) (.int .i64 b')
  refine ⟨⟨?_, ?_, fi.ne, ok, by rw [hlen]; exact fi.len, by rw [hf]; exact fi.v0⟩, ?_, ?_, ?_, ?_, ?_, l0, l1, l2, l3, by simpa [World.setCell] using l4, lw, ?_, s0, s1⟩
  · rw [show f'.cells = f.cells by rw [hf]; rfl]
    exact (ht.block b fi.lt (fun e => hne e.symm)).trans fi.blk
  · rw [hlen, ← hn, show f'.L.flatMap Pm.cells = (f.L.flatMap Pm.cells).set (k * 3 + 2) (.int .i64 b') by rw [hf]; exact flat_set f.L k b' (by omega)]
    exact hrow
  · exact (heap_cell (Below.heap_setCell _ _ _ _ (by show bs ≠ g; omega))).trans cs
  · exact (heap_cell (Below.heap_setCell _ _ _ _ (by show bg ≠ g; omega))).trans cg
  · exact (World.frozen?_of_block (Below.heap_setCell _ _ _ _ (by show bs ≠ g; omega))).trans fs
  · exact (World.frozen?_of_block (Below.heap_setCell _ _ _ _ (by show bg ≠ g; omega))).trans fg
  · exact own_touch row ht (fun x hx e => by have := l3 x hx; omega)
  · exact touch.setCell (p := ⟨g, k * 3 + 2, none⟩) (.inl (.inr rfl)) _

/-- What Recover does. -/
def Fi.recover (f : Fi) (s : Int) : Fi × List En × Int :=
  if s < 1 ∨ 1099511627776 < s then (f, [], 3) else if outF f < s then (f, [], 10) else ((recF f s).1, (recF f s).2, 0)
theorem Fk_all (f : Fi) (s : Int) : Fk f s f.L.length = { f with L := (recK f.L ⟨s, []⟩).1 } ∧ rk f s f.L.length = (recK f.L ⟨s, []⟩).2 := by
  constructor
  · unfold Fk Lk; rw [List.take_length, List.drop_length, List.append_nil]
  · unfold rk; rw [List.take_length]

theorem IsFi.genv {w w5 : World} {b : Nat} {v : Value} {f : Fi} {bg : Nat} {t : TypeId} {s : Int} (h : IsFi w b v f) (hb : Below w.heap.size w w5) (hc : w5.cell? ⟨w.heap.size, 0, none⟩ = some (.int .i64 s)) (hf : w5.frozen? ⟨w.heap.size, 0, none⟩ = false)
    (hg : w5.heap[bg]? = some (.cells #[.slice none 0 0] t (0, 0))) (hlt : w.heap.size < bg) (s0 : 0 ≤ s) (s1 : s ≤ 1099511627776) : GEnv w b v w.heap.size bg w5 (Fk f s 0) (.slice none 0 0) (rk f s 0) := by
  rw [Fk_zero, rk_zero]
  exact ⟨h.below hb, hc, by simp [World.cell?, hg], hf, by simp [World.frozen?, hg], World.ownsRow_nil _ _ _ _, h.lt, fun k hk => own_lt h.row hk, hlt, fun k hk => by simp [Value.ownBlock] at hk, lt_of_block hg, rfl, Touch.of_below hb, s0, s1⟩
end Go.Proofs.Ytofkeipfkglljaa
