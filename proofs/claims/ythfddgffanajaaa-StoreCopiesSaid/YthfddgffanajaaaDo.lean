/-
  A call of both stores.
-/
import Derived.Test.YthfddgffanajaaaRef3
namespace Go.Proofs.Ythfddgffanajaaa
open Go Go.RowKit
set_option linter.unusedVariables false
set_option linter.unusedSimpArgs false

/-- Both stores stand as s; the document's texts lie apart from the store's own blocks. -/
structure Both (w : World) (b : Nat) (v m : Value) (s : St) : Prop where
  st : IsSt w b v s
  rf : IsRf w m s
  far : ∀ x, rblk m = some x → ¬ Fp b v x

/-- What a call of both may do. -/
structure Step (b : Nat) (v m : Value) (w : World) (v' m' : Value) (w' : World) : Prop where
  keep : Keep b v w v' w'
  rk : Rk w m m'

theorem Both.fp {w : World} {b : Nat} {v m : Value} {s : St} (h : Both w b v m s) : ∀ k, Fp b v k → k < w.heap.size := fun k hk => hk.elim (fun e => e ▸ h.st.lt) (fun e => own_lt h.st.row e)

/-- Three new blocks, and then a call that writes old ones alone. -/
theorem three_kept {S : Nat → Prop} {w w1 : World} {x y z : Array Value} {t u q : TypeId} (hb : Touch S (((w.alloc (.cells x t)).alloc (.cells y u)).alloc (.cells z q)) w1) (hS : ∀ k, S k → k < w.heap.size) :
    w1.heap[w.heap.size]? = some (.cells x t (0, 0)) ∧ w1.heap[w.heap.size + 1]? = some (.cells y u (0, 0)) ∧ w1.heap[w.heap.size + 1 + 1]? = some (.cells z q (0, 0)) ∧ w.heap.size + 3 ≤ w1.heap.size ∧ Touch S w w1 := by
  refine ⟨?_, ?_, ?_, ?_, ?_⟩
  · rw [hb.block _ (by simp <;> omega) (fun e => by have := hS _ e; omega), Below.heap_alloc _ _ _ (by simp <;> omega), Below.heap_alloc _ _ _ (by simp)]
    exact heap_alloc_new _ _
  · rw [hb.block _ (by simp <;> omega) (fun e => by have := hS _ e; omega), Below.heap_alloc _ _ _ (by simp)]
    have := heap_alloc_new (w.alloc (.cells x t)) (.cells y u)
    simpa using this
  · rw [hb.block _ (by simp) (fun e => by have := hS _ e; omega)]
    have := heap_alloc_new ((w.alloc (.cells x t)).alloc (.cells y u)) (.cells z q)
    simpa using this
  · have := hb.size; simp at this; omega
  · exact ((((Touch.refl (fun _ => False) w).alloc _).alloc _).alloc _ |>.mono (fun _ e => e.elim)).trans hb (fun _ e => .inl e)

theorem three_touch (w : World) (x y z : Obj) : Touch (fun _ => False) w (((w.alloc x).alloc y).alloc z) := (((Touch.refl _ _).alloc _).alloc _).alloc _
theorem Both.touch {w w' : World} {b : Nat} {v m : Value} {s : St} (h : Both w b v m s) (ht : Touch (fun _ => False) w w') : Both w' b v m s :=
  ⟨h.st.kept ht id (fun _ _ => id), h.rf.touch ht (fun _ _ => id), h.far⟩
theorem Both.three {w : World} {b : Nat} {v m : Value} {s : St} (h : Both w b v m s) (x y z : Obj) : Both (((w.alloc x).alloc y).alloc z) b v m s := h.touch (three_touch w x y z)

theorem both_close {w w0 w1 w2 wF : World} {b : Nat} {v v1 m m2 : Value} {s s' : St} (h : Both w b v m s) (h0 : Touch (fun _ => False) w w0) (hsz : w.heap.size + 3 ≤ w0.heap.size) (hs1 : IsSt w1 b v1 s') (hk : Keep b v w0 v1 w1)
    (hr2 : IsRf w2 m2 s') (hrk : Rk w1 m m2) (hb2 : Below w1.heap.size w1 w2) (ht : Touch (fun k => k = w.heap.size + 2) w2 wF) : Both wF b v1 m2 s' ∧ Step b v m w v1 m2 wF := by
  have hs := h.st.lt
  have z1 := hk.touch.size
  have hmid : Touch (fun k => k = w.heap.size + 2) w1 wF := (Touch.of_below hb2).trans ht (fun _ e => .inl e)
  have hrow : ∀ k, v1.ownBlock = some k → v.ownBlock = some k ∨ w.heap.size + 3 ≤ k := fun k hk' => (hk.row k hk').imp id (fun e => by omega)
  have hv : ∀ k, v.ownBlock = some k → k < w.heap.size := fun k e => own_lt h.st.row e
  refine ⟨⟨hs1.kept hmid (by omega) (fun k e => ?_), hr2.touch ht (fun k e => ?_), fun x hx hf => ?_⟩, ⟨⟨?_, fun k e => (hrow k e).imp id (fun e => by omega)⟩, fun k e => (hrk k e).imp id (fun e => by omega)⟩⟩
  · rcases hrow k e with e | e
    · have := hv k e; omega
    · omega
  · rcases hrk k e with e | e
    · have := h.rf.lt e; omega
    · omega
  · rcases hrk x hx with e | e
    · have l := h.rf.lt e
      rcases hf with rfl | hf
      · exact h.far _ e (.inl rfl)
      · rcases hrow x hf with g | g
        · exact h.far _ e (.inr g)
        · omega
    · rcases hf with rfl | hf
      · omega
      · have := own_lt hs1.row hf; omega
  · exact ((h0.mono (fun _ e => e.elim)).trans hk.touch (fun _ e => .inl e)).trans hmid (fun x e => .inr (by omega))

theorem sy_ws (s : St) : s.sy.1.ws = s.ws := by
  unfold St.sy; split; · rfl
  split; · split <;> rfl
  rfl
theorem rsync2 (w : World) (m : Value) (s : St) (h : IsRf w m s) (hs : s.Ok) :
    Calls Try.prog 30 #[m] w fun e w' => ∃ m', e = .returned (.tuple #[m', .int .i64 s.sy.2]) ∧ IsRf w' m' s.sy.1 ∧ Rk w m m' ∧ Below w.heap.size w w' := by
  obtain ⟨a, c, rfl, h1⟩ := h
  refine (rsync_any w a c s hs).mono ?_
  rintro e w' ⟨rfl, hb⟩
  refine ⟨_, rfl, ⟨a, c, by rw [sy_ws], by rw [sy_ws]; exact h1.below hb⟩, Rk.same (Nat.le_refl _), hb⟩
theorem rarm2 (w : World) (m : Value) (s : St) (n : Int) (h : IsRf w m s) :
    Calls Try.prog 32 #[m, .int .i64 n] w fun e w' => ∃ m', e = .returned m' ∧ IsRf w' m' (s.arm n) ∧ Rk w m m' ∧ Below w.heap.size w w' := by
  obtain ⟨a, c, rfl, h1⟩ := h
  refine (rarm_any w a s.ws.length c s.last s n).mono ?_
  rintro e w' ⟨rfl, hb⟩
  exact ⟨_, rfl, ⟨a, c, rfl, h1.below hb⟩, Rk.same (Nat.le_refl _), hb⟩

set_option maxHeartbeats 2000000 in
theorem do_write (w : World) (b : Nat) (v : Value) (s : St) (a : Option Addr) (n c : Nat) (m f : Int) (d : Bool) (N : Int) (t : ByteArray) (h : Both w b v (rfv a n c m f d) s) :
    Calls Try.prog 20 #[.pointer (some ⟨b, 0, none⟩), rfv a n c m f d, .agg #[.int .i64 0, .int .i64 N, .string t]] w fun e w' =>
      ∃ v' m', e = .returned (.tuple #[m', .bool true]) ∧ Both w' b v' m' (s.wr t).1 ∧ Step b v (rfv a n c m f d) w v' m' w' := by
  have H := Lib.hid h
  have HR := Lib.hid (fun (w1 : World) (hr : IsRf w1 (rfv a n c m f d) s) => rwrite_any w1 _ s t hr h.st.ok)
  clear h
  unfold rfv at *
  go_enter Try.func20, Try.ntmps20
  go_wp2_with fail
  refine (write_any _ b v s t (H.out.three _ _ _).st).mono ?_
  rintro e w1 ⟨v1, rfl, hs1, hk1⟩
  obtain ⟨p0, p1, p2, hz, ht1⟩ := three_kept hk1.touch H.out.fp
  have hrf1 := H.out.rf.touch ht1 H.out.far
  have c10 : w1.cell? ⟨w.heap.size + 1, 2, none⟩ = some (.string t) := by simp [World.cell?, p1]
  have c00 : w1.cell? ⟨w.heap.size, 0, none⟩ = some (.slice a n c) := by simp [World.cell?, p0]
  have c01 : w1.cell? ⟨w.heap.size, 1, none⟩ = some (.int .i64 m) := by simp [World.cell?, p0]
  have c02 : w1.cell? ⟨w.heap.size, 2, none⟩ = some (.int .i64 f) := by simp [World.cell?, p0]
  have c03 : w1.cell? ⟨w.heap.size, 3, none⟩ = some (.bool d) := by simp [World.cell?, p0]
  have Q1 := Lib.hid (And.intro hs1 (And.intro hk1 (And.intro p2 (And.intro hz (And.intro ht1 hrf1)))))
  clear hs1 hk1 p0 p1 p2 hz ht1 hrf1
  go_wp2_with fail
  refine (HR.out _ Q1.out.2.2.2.2.2).mono ?_
  rintro e w2 ⟨m2, rfl, hr2, hrk, hb2⟩
  have p2 := (hb2.block _ (lt_of_block Q1.out.2.2.1)).trans Q1.out.2.2.1
  have z12 := hb2.size
  have Q2 := Lib.hid (And.intro hr2 (And.intro hrk hb2))
  obtain ⟨a2, c2, e2, _⟩ := hr2
  obtain ⟨n2, HN2⟩ : ∃ x, Hid (x = (s.wr t).1.ws.length) := ⟨_, rfl⟩
  obtain ⟨l2, HL2⟩ : ∃ x : Int, Hid (x = (s.wr t).1.last) := ⟨_, rfl⟩
  obtain ⟨f2, HF2⟩ : ∃ x, Hid (x = (s.wr t).1.fu) := ⟨_, rfl⟩
  obtain ⟨g2, HG2⟩ : ∃ x, Hid (x = (s.wr t).1.down) := ⟨_, rfl⟩
  rw [← HN2.out, ← HL2.out, ← HF2.out, ← HG2.out] at e2
  subst e2
  have d0 : (w2.alloc (.cells #[.slice a2 n2 c2, .int .i64 l2, .int .i64 f2, .bool g2] 42)).cell? ⟨w.heap.size + 1 + 1, 0, none⟩ = some (.slice none 0 0) := by simp [World.cell?, Below.heap_alloc w2 _ _ (lt_of_block p2), p2]
  have d1 : (w2.alloc (.cells #[.slice a2 n2 c2, .int .i64 l2, .int .i64 f2, .bool g2] 42)).cell? ⟨w.heap.size + 1 + 1, 1, none⟩ = some (.int .i64 0) := by simp [World.cell?, Below.heap_alloc w2 _ _ (lt_of_block p2), p2]
  have d2 : (w2.alloc (.cells #[.slice a2 n2 c2, .int .i64 l2, .int .i64 f2, .bool g2] 42)).cell? ⟨w.heap.size + 1 + 1, 2, none⟩ = some (.int .i64 0) := by simp [World.cell?, Below.heap_alloc w2 _ _ (lt_of_block p2), p2]
  have d3 : (w2.alloc (.cells #[.slice a2 n2 c2, .int .i64 l2, .int .i64 f2, .bool g2] 42)).cell? ⟨w.heap.size + 1 + 1, 3, none⟩ = some (.bool false) := by simp [World.cell?, Below.heap_alloc w2 _ _ (lt_of_block p2), p2]
  have z0 : (w2.alloc (.cells #[.slice a2 n2 c2, .int .i64 l2, .int .i64 f2, .bool g2] 42)).frozen? ⟨w.heap.size + 1 + 1, 0, none⟩ = false := by simp [World.frozen?, Below.heap_alloc w2 _ _ (lt_of_block p2), p2]
  have z1 : (w2.alloc (.cells #[.slice a2 n2 c2, .int .i64 l2, .int .i64 f2, .bool g2] 42)).frozen? ⟨w.heap.size + 1 + 1, 1, none⟩ = false := by simp [World.frozen?, Below.heap_alloc w2 _ _ (lt_of_block p2), p2]
  have z2 : (w2.alloc (.cells #[.slice a2 n2 c2, .int .i64 l2, .int .i64 f2, .bool g2] 42)).frozen? ⟨w.heap.size + 1 + 1, 2, none⟩ = false := by simp [World.frozen?, Below.heap_alloc w2 _ _ (lt_of_block p2), p2]
  have z3 : (w2.alloc (.cells #[.slice a2 n2 c2, .int .i64 l2, .int .i64 f2, .bool g2] 42)).frozen? ⟨w.heap.size + 1 + 1, 3, none⟩ = false := by simp [World.frozen?, Below.heap_alloc w2 _ _ (lt_of_block p2), p2]
  have y1 : ¬ w.heap.size + 1 + 1 = w2.heap.size := by have := lt_of_block p2; omega
  have y2 : ¬ w2.heap.size = w.heap.size + 1 + 1 := by omega
  clear p2 hrk hb2 HN2 HL2 HF2 HG2 z12
  unfold rfv
  go_wp2
  refine bodyPost_ret (v := .tuple #[.agg #[.slice a2 n2 c2, .int .i64 l2, .int .i64 f2, .bool g2], .bool true]) (by simp [results, Try.results20, go_sem, *]) rfl ?_
  obtain ⟨hs1, hk1, p2, hz, ht1, hrf1⟩ := Q1.out
  obtain ⟨hr2, hrk, hb2⟩ := Q2.out
  obtain ⟨r1, r2⟩ := both_close H.out (three_touch w _ _ _) (by simp) hs1 hk1 hr2 hrk hb2 ((((((Touch.refl (fun k => k = w.heap.size + 2) w2).alloc _).setCell (p := ⟨w.heap.size + 1 + 1, 0, none⟩) (.inl rfl) (.slice a2 n2 c2)).setCell (p := ⟨w.heap.size + 1 + 1, 1, none⟩) (.inl rfl) (.int .i64 l2)).setCell (p := ⟨w.heap.size + 1 + 1, 2, none⟩) (.inl rfl) (.int .i64 f2)).setCell (p := ⟨w.heap.size + 1 + 1, 3, none⟩) (.inl rfl) (.bool g2))
  exact ⟨_, _, rfl, r1, r2⟩

set_option maxHeartbeats 2000000 in
theorem do_sync (w : World) (b : Nat) (v : Value) (s : St) (a : Option Addr) (n c : Nat) (m f : Int) (d : Bool) (N : Int) (t : ByteArray) (h : Both w b v (rfv a n c m f d) s) :
    Calls Try.prog 20 #[.pointer (some ⟨b, 0, none⟩), rfv a n c m f d, .agg #[.int .i64 1, .int .i64 N, .string t]] w fun e w' =>
      ∃ v' m', e = .returned (.tuple #[m', .bool true]) ∧ Both w' b v' m' s.sy.1 ∧ Step b v (rfv a n c m f d) w v' m' w' := by
  have H := Lib.hid h
  have HR := Lib.hid (fun (w1 : World) (hr : IsRf w1 (rfv a n c m f d) s) => rsync2 w1 _ s hr h.st.ok)
  clear h
  unfold rfv at *
  go_enter Try.func20, Try.ntmps20
  go_wp2_with fail
  refine (sync_any _ b v s (H.out.three _ _ _).st).mono ?_
  rintro e w1 ⟨rfl, hs1, hk1⟩
  obtain ⟨p0, p1, p2, hz, ht1⟩ := three_kept hk1.touch H.out.fp
  have hrf1 := H.out.rf.touch ht1 H.out.far
  have c00 : w1.cell? ⟨w.heap.size, 0, none⟩ = some (.slice a n c) := by simp [World.cell?, p0]
  have c01 : w1.cell? ⟨w.heap.size, 1, none⟩ = some (.int .i64 m) := by simp [World.cell?, p0]
  have c02 : w1.cell? ⟨w.heap.size, 2, none⟩ = some (.int .i64 f) := by simp [World.cell?, p0]
  have c03 : w1.cell? ⟨w.heap.size, 3, none⟩ = some (.bool d) := by simp [World.cell?, p0]
  have Q1 := Lib.hid (And.intro hs1 (And.intro hk1 (And.intro p2 (And.intro hz (And.intro ht1 hrf1)))))
  clear hs1 hk1 p0 p1 p2 hz ht1 hrf1
  go_wp2_with fail
  refine (HR.out _ Q1.out.2.2.2.2.2).mono ?_
  rintro e w2 ⟨m2, rfl, hr2, hrk, hb2⟩
  have p2 := (hb2.block _ (lt_of_block Q1.out.2.2.1)).trans Q1.out.2.2.1
  have z12 := hb2.size
  have Q2 := Lib.hid (And.intro hr2 (And.intro hrk hb2))
  obtain ⟨a2, c2, e2, _⟩ := hr2
  obtain ⟨n2, HN2⟩ : ∃ x, Hid (x = s.sy.1.ws.length) := ⟨_, rfl⟩
  obtain ⟨l2, HL2⟩ : ∃ x : Int, Hid (x = s.sy.1.last) := ⟨_, rfl⟩
  obtain ⟨f2, HF2⟩ : ∃ x, Hid (x = s.sy.1.fu) := ⟨_, rfl⟩
  obtain ⟨g2, HG2⟩ : ∃ x, Hid (x = s.sy.1.down) := ⟨_, rfl⟩
  rw [← HN2.out, ← HL2.out, ← HF2.out, ← HG2.out] at e2
  subst e2
  have d0 : (w2.alloc (.cells #[.slice a2 n2 c2, .int .i64 l2, .int .i64 f2, .bool g2] 42)).cell? ⟨w.heap.size + 1 + 1, 0, none⟩ = some (.slice none 0 0) := by simp [World.cell?, Below.heap_alloc w2 _ _ (lt_of_block p2), p2]
  have d1 : (w2.alloc (.cells #[.slice a2 n2 c2, .int .i64 l2, .int .i64 f2, .bool g2] 42)).cell? ⟨w.heap.size + 1 + 1, 1, none⟩ = some (.int .i64 0) := by simp [World.cell?, Below.heap_alloc w2 _ _ (lt_of_block p2), p2]
  have d2 : (w2.alloc (.cells #[.slice a2 n2 c2, .int .i64 l2, .int .i64 f2, .bool g2] 42)).cell? ⟨w.heap.size + 1 + 1, 2, none⟩ = some (.int .i64 0) := by simp [World.cell?, Below.heap_alloc w2 _ _ (lt_of_block p2), p2]
  have d3 : (w2.alloc (.cells #[.slice a2 n2 c2, .int .i64 l2, .int .i64 f2, .bool g2] 42)).cell? ⟨w.heap.size + 1 + 1, 3, none⟩ = some (.bool false) := by simp [World.cell?, Below.heap_alloc w2 _ _ (lt_of_block p2), p2]
  have z0 : (w2.alloc (.cells #[.slice a2 n2 c2, .int .i64 l2, .int .i64 f2, .bool g2] 42)).frozen? ⟨w.heap.size + 1 + 1, 0, none⟩ = false := by simp [World.frozen?, Below.heap_alloc w2 _ _ (lt_of_block p2), p2]
  have z1 : (w2.alloc (.cells #[.slice a2 n2 c2, .int .i64 l2, .int .i64 f2, .bool g2] 42)).frozen? ⟨w.heap.size + 1 + 1, 1, none⟩ = false := by simp [World.frozen?, Below.heap_alloc w2 _ _ (lt_of_block p2), p2]
  have z2 : (w2.alloc (.cells #[.slice a2 n2 c2, .int .i64 l2, .int .i64 f2, .bool g2] 42)).frozen? ⟨w.heap.size + 1 + 1, 2, none⟩ = false := by simp [World.frozen?, Below.heap_alloc w2 _ _ (lt_of_block p2), p2]
  have z3 : (w2.alloc (.cells #[.slice a2 n2 c2, .int .i64 l2, .int .i64 f2, .bool g2] 42)).frozen? ⟨w.heap.size + 1 + 1, 3, none⟩ = false := by simp [World.frozen?, Below.heap_alloc w2 _ _ (lt_of_block p2), p2]
  have y1 : ¬ w.heap.size + 1 + 1 = w2.heap.size := by have := lt_of_block p2; omega
  have y2 : ¬ w2.heap.size = w.heap.size + 1 + 1 := by omega
  clear p2 hrk hb2 HN2 HL2 HF2 HG2 z12
  unfold rfv
  go_wp2
  refine bodyPost_ret (v := .tuple #[.agg #[.slice a2 n2 c2, .int .i64 l2, .int .i64 f2, .bool g2], .bool true]) (by simp [results, Try.results20, go_sem, *]) rfl ?_
  obtain ⟨hs1, hk1, p2, hz, ht1, hrf1⟩ := Q1.out
  obtain ⟨hr2, hrk, hb2⟩ := Q2.out
  obtain ⟨r1, r2⟩ := both_close H.out (three_touch w _ _ _) (by simp) hs1 hk1 hr2 hrk hb2 ((((((Touch.refl (fun k => k = w.heap.size + 2) w2).alloc _).setCell (p := ⟨w.heap.size + 1 + 1, 0, none⟩) (.inl rfl) (.slice a2 n2 c2)).setCell (p := ⟨w.heap.size + 1 + 1, 1, none⟩) (.inl rfl) (.int .i64 l2)).setCell (p := ⟨w.heap.size + 1 + 1, 2, none⟩) (.inl rfl) (.int .i64 f2)).setCell (p := ⟨w.heap.size + 1 + 1, 3, none⟩) (.inl rfl) (.bool g2))
  exact ⟨_, _, rfl, r1, r2⟩

set_option maxHeartbeats 2000000 in
theorem do_crash (w : World) (b : Nat) (v : Value) (s : St) (a : Option Addr) (n c : Nat) (m f : Int) (d : Bool) (N : Int) (t : ByteArray) (h : Both w b v (rfv a n c m f d) s) :
    Calls Try.prog 20 #[.pointer (some ⟨b, 0, none⟩), rfv a n c m f d, .agg #[.int .i64 2, .int .i64 N, .string t]] w fun e w' =>
      ∃ v' m', e = .returned (.tuple #[m', .bool true]) ∧ Both w' b v' m' (s.crash N) ∧ Step b v (rfv a n c m f d) w v' m' w' := by
  have H := Lib.hid h
  have HR := Lib.hid (fun (w1 : World) (hr : IsRf w1 (rfv a n c m f d) s) => rcrash_any w1 _ s N hr h.st.ok)
  clear h
  unfold rfv at *
  go_enter Try.func20, Try.ntmps20
  go_wp2_with fail
  refine (crash_any _ b v s N (H.out.three _ _ _).st).mono ?_
  rintro e w1 ⟨v1, rfl, hs1, hk1⟩
  obtain ⟨p0, p1, p2, hz, ht1⟩ := three_kept hk1.touch H.out.fp
  have hrf1 := H.out.rf.touch ht1 H.out.far
  have c10 : w1.cell? ⟨w.heap.size + 1, 1, none⟩ = some (.int .i64 N) := by simp [World.cell?, p1]
  have c00 : w1.cell? ⟨w.heap.size, 0, none⟩ = some (.slice a n c) := by simp [World.cell?, p0]
  have c01 : w1.cell? ⟨w.heap.size, 1, none⟩ = some (.int .i64 m) := by simp [World.cell?, p0]
  have c02 : w1.cell? ⟨w.heap.size, 2, none⟩ = some (.int .i64 f) := by simp [World.cell?, p0]
  have c03 : w1.cell? ⟨w.heap.size, 3, none⟩ = some (.bool d) := by simp [World.cell?, p0]
  have Q1 := Lib.hid (And.intro hs1 (And.intro hk1 (And.intro p2 (And.intro hz (And.intro ht1 hrf1)))))
  clear hs1 hk1 p0 p1 p2 hz ht1 hrf1
  go_wp2_with fail
  refine (HR.out _ Q1.out.2.2.2.2.2).mono ?_
  rintro e w2 ⟨m2, rfl, hr2, hrk, hb2⟩
  have p2 := (hb2.block _ (lt_of_block Q1.out.2.2.1)).trans Q1.out.2.2.1
  have z12 := hb2.size
  have Q2 := Lib.hid (And.intro hr2 (And.intro hrk hb2))
  obtain ⟨a2, c2, e2, _⟩ := hr2
  obtain ⟨n2, HN2⟩ : ∃ x, Hid (x = (s.crash N).ws.length) := ⟨_, rfl⟩
  obtain ⟨l2, HL2⟩ : ∃ x : Int, Hid (x = (s.crash N).last) := ⟨_, rfl⟩
  obtain ⟨f2, HF2⟩ : ∃ x, Hid (x = (s.crash N).fu) := ⟨_, rfl⟩
  obtain ⟨g2, HG2⟩ : ∃ x, Hid (x = (s.crash N).down) := ⟨_, rfl⟩
  rw [← HN2.out, ← HL2.out, ← HF2.out, ← HG2.out] at e2
  subst e2
  have d0 : w2.cell? ⟨w.heap.size + 1 + 1, 0, none⟩ = some (.slice none 0 0) := by simp [World.cell?, p2]
  have d1 : w2.cell? ⟨w.heap.size + 1 + 1, 1, none⟩ = some (.int .i64 0) := by simp [World.cell?, p2]
  have d2 : w2.cell? ⟨w.heap.size + 1 + 1, 2, none⟩ = some (.int .i64 0) := by simp [World.cell?, p2]
  have d3 : w2.cell? ⟨w.heap.size + 1 + 1, 3, none⟩ = some (.bool false) := by simp [World.cell?, p2]
  have z0 : w2.frozen? ⟨w.heap.size + 1 + 1, 0, none⟩ = false := by simp [World.frozen?, p2]
  have z1 : w2.frozen? ⟨w.heap.size + 1 + 1, 1, none⟩ = false := by simp [World.frozen?, p2]
  have z2 : w2.frozen? ⟨w.heap.size + 1 + 1, 2, none⟩ = false := by simp [World.frozen?, p2]
  have z3 : w2.frozen? ⟨w.heap.size + 1 + 1, 3, none⟩ = false := by simp [World.frozen?, p2]
  have y1 : ¬ w.heap.size + 1 + 1 = w2.heap.size := by have := lt_of_block p2; omega
  have y2 : ¬ w2.heap.size = w.heap.size + 1 + 1 := by omega
  clear p2 hrk hb2 HN2 HL2 HF2 HG2 z12
  unfold rfv
  go_wp2
  refine bodyPost_ret (v := .tuple #[.agg #[.slice a2 n2 c2, .int .i64 l2, .int .i64 f2, .bool g2], .bool true]) (by simp [results, Try.results20, go_sem, *]) rfl ?_
  obtain ⟨hs1, hk1, p2, hz, ht1, hrf1⟩ := Q1.out
  obtain ⟨hr2, hrk, hb2⟩ := Q2.out
  obtain ⟨r1, r2⟩ := both_close H.out (three_touch w _ _ _) (by simp) hs1 hk1 (hr2.below hb2) hrk hb2 (((((Touch.refl (fun k => k = w.heap.size + 2) w2).setCell (p := ⟨w.heap.size + 1 + 1, 0, none⟩) (.inl rfl) (.slice a2 n2 c2)).setCell (p := ⟨w.heap.size + 1 + 1, 1, none⟩) (.inl rfl) (.int .i64 l2)).setCell (p := ⟨w.heap.size + 1 + 1, 2, none⟩) (.inl rfl) (.int .i64 f2)).setCell (p := ⟨w.heap.size + 1 + 1, 3, none⟩) (.inl rfl) (.bool g2))
  exact ⟨_, _, rfl, r1, r2⟩

set_option maxHeartbeats 2000000 in
theorem do_arm (w : World) (b : Nat) (v : Value) (s : St) (a : Option Addr) (n c : Nat) (m f : Int) (d : Bool) (N : Int) (t : ByteArray) (hN : N ≤ 9223372036854775807) (h : Both w b v (rfv a n c m f d) s) :
    Calls Try.prog 20 #[.pointer (some ⟨b, 0, none⟩), rfv a n c m f d, .agg #[.int .i64 3, .int .i64 N, .string t]] w fun e w' =>
      ∃ v' m', e = .returned (.tuple #[m', .bool true]) ∧ Both w' b v' m' (s.arm N) ∧ Step b v (rfv a n c m f d) w v' m' w' := by
  have H := Lib.hid h
  have HNN := Lib.hid hN
  clear hN
  have HR := Lib.hid (fun (w1 : World) (hr : IsRf w1 (rfv a n c m f d) s) => rarm2 w1 _ s N hr)
  clear h
  unfold rfv at *
  go_enter Try.func20, Try.ntmps20
  go_wp2_with fail
  refine (arm_any _ b v s N (H.out.three _ _ _).st HNN.out).mono ?_
  rintro e w1 ⟨rfl, hs1, hk1⟩
  obtain ⟨p0, p1, p2, hz, ht1⟩ := three_kept hk1.touch H.out.fp
  have hrf1 := H.out.rf.touch ht1 H.out.far
  have c10 : w1.cell? ⟨w.heap.size + 1, 1, none⟩ = some (.int .i64 N) := by simp [World.cell?, p1]
  have c00 : w1.cell? ⟨w.heap.size, 0, none⟩ = some (.slice a n c) := by simp [World.cell?, p0]
  have c01 : w1.cell? ⟨w.heap.size, 1, none⟩ = some (.int .i64 m) := by simp [World.cell?, p0]
  have c02 : w1.cell? ⟨w.heap.size, 2, none⟩ = some (.int .i64 f) := by simp [World.cell?, p0]
  have c03 : w1.cell? ⟨w.heap.size, 3, none⟩ = some (.bool d) := by simp [World.cell?, p0]
  have Q1 := Lib.hid (And.intro hs1 (And.intro hk1 (And.intro p2 (And.intro hz (And.intro ht1 hrf1)))))
  clear hs1 hk1 p0 p1 p2 hz ht1 hrf1
  go_wp2_with fail
  refine (HR.out _ Q1.out.2.2.2.2.2).mono ?_
  rintro e w2 ⟨m2, rfl, hr2, hrk, hb2⟩
  have p2 := (hb2.block _ (lt_of_block Q1.out.2.2.1)).trans Q1.out.2.2.1
  have z12 := hb2.size
  have Q2 := Lib.hid (And.intro hr2 (And.intro hrk hb2))
  obtain ⟨a2, c2, e2, _⟩ := hr2
  obtain ⟨n2, HN2⟩ : ∃ x, Hid (x = (s.arm N).ws.length) := ⟨_, rfl⟩
  obtain ⟨l2, HL2⟩ : ∃ x : Int, Hid (x = (s.arm N).last) := ⟨_, rfl⟩
  obtain ⟨f2, HF2⟩ : ∃ x, Hid (x = (s.arm N).fu) := ⟨_, rfl⟩
  obtain ⟨g2, HG2⟩ : ∃ x, Hid (x = (s.arm N).down) := ⟨_, rfl⟩
  rw [← HN2.out, ← HL2.out, ← HF2.out, ← HG2.out] at e2
  subst e2
  have d0 : w2.cell? ⟨w.heap.size + 1 + 1, 0, none⟩ = some (.slice none 0 0) := by simp [World.cell?, p2]
  have d1 : w2.cell? ⟨w.heap.size + 1 + 1, 1, none⟩ = some (.int .i64 0) := by simp [World.cell?, p2]
  have d2 : w2.cell? ⟨w.heap.size + 1 + 1, 2, none⟩ = some (.int .i64 0) := by simp [World.cell?, p2]
  have d3 : w2.cell? ⟨w.heap.size + 1 + 1, 3, none⟩ = some (.bool false) := by simp [World.cell?, p2]
  have z0 : w2.frozen? ⟨w.heap.size + 1 + 1, 0, none⟩ = false := by simp [World.frozen?, p2]
  have z1 : w2.frozen? ⟨w.heap.size + 1 + 1, 1, none⟩ = false := by simp [World.frozen?, p2]
  have z2 : w2.frozen? ⟨w.heap.size + 1 + 1, 2, none⟩ = false := by simp [World.frozen?, p2]
  have z3 : w2.frozen? ⟨w.heap.size + 1 + 1, 3, none⟩ = false := by simp [World.frozen?, p2]
  have y1 : ¬ w.heap.size + 1 + 1 = w2.heap.size := by have := lt_of_block p2; omega
  have y2 : ¬ w2.heap.size = w.heap.size + 1 + 1 := by omega
  clear p2 hrk hb2 HN2 HL2 HF2 HG2 z12
  unfold rfv
  go_wp2
  refine bodyPost_ret (v := .tuple #[.agg #[.slice a2 n2 c2, .int .i64 l2, .int .i64 f2, .bool g2], .bool true]) (by simp [results, Try.results20, go_sem, *]) rfl ?_
  obtain ⟨hs1, hk1, p2, hz, ht1, hrf1⟩ := Q1.out
  obtain ⟨hr2, hrk, hb2⟩ := Q2.out
  obtain ⟨r1, r2⟩ := both_close H.out (three_touch w _ _ _) (by simp) hs1 hk1 hr2 hrk hb2 (((((Touch.refl (fun k => k = w.heap.size + 2) w2).setCell (p := ⟨w.heap.size + 1 + 1, 0, none⟩) (.inl rfl) (.slice a2 n2 c2)).setCell (p := ⟨w.heap.size + 1 + 1, 1, none⟩) (.inl rfl) (.int .i64 l2)).setCell (p := ⟨w.heap.size + 1 + 1, 2, none⟩) (.inl rfl) (.int .i64 f2)).setCell (p := ⟨w.heap.size + 1 + 1, 3, none⟩) (.inl rfl) (.bool g2))
  exact ⟨_, _, rfl, r1, r2⟩

set_option maxHeartbeats 2000000 in
theorem do_read (w : World) (b : Nat) (v : Value) (s : St) (a : Option Addr) (n c : Nat) (m f : Int) (d : Bool) (N : Int) (t : ByteArray) (h : Both w b v (rfv a n c m f d) s) :
    Calls Try.prog 20 #[.pointer (some ⟨b, 0, none⟩), rfv a n c m f d, .agg #[.int .i64 4, .int .i64 N, .string t]] w fun e w' =>
      ∃ v' m', e = .returned (.tuple #[m', .bool true]) ∧ Both w' b v' m' s ∧ Step b v (rfv a n c m f d) w v' m' w' := by
  have H := Lib.hid h
  have HR := Lib.hid (fun (w1 : World) (hr : IsRf w1 (rfv a n c m f d) s) => rread_any w1 _ s N hr)
  have HS := Lib.hid (fun (w1 : World) (hr : IsSt w1 b v s) => read_any w1 b v s N hr)
  clear h
  unfold rfv rdV at *
  generalize (s.rd N).1 = x at HR HS
  generalize (s.rd N).2 = y at HR HS
  go_enter Try.func20, Try.ntmps20
  go_wp2_with fail
  refine (HS.out _ (H.out.three _ _ _).st).mono ?_
  rintro e w1 ⟨rfl, rfl⟩
  go_wp2_with fail
  refine (HR.out _ (H.out.three _ _ _).rf).mono ?_
  rintro e w2 ⟨rfl, hb2⟩
  obtain ⟨p0, p1, p2, hz, _⟩ := three_kept (S := fun _ => False) (w := w) (Touch.of_below hb2) (fun _ e => e.elim)
  have c00 : w2.cell? ⟨w.heap.size, 0, none⟩ = some (.slice a n c) := by simp [World.cell?, p0]
  have c01 : w2.cell? ⟨w.heap.size, 1, none⟩ = some (.int .i64 m) := by simp [World.cell?, p0]
  have c02 : w2.cell? ⟨w.heap.size, 2, none⟩ = some (.int .i64 f) := by simp [World.cell?, p0]
  have c03 : w2.cell? ⟨w.heap.size, 3, none⟩ = some (.bool d) := by simp [World.cell?, p0]
  have d0 : w2.cell? ⟨w.heap.size + 1 + 1, 0, none⟩ = some (.slice none 0 0) := by simp [World.cell?, p2]
  have d1 : w2.cell? ⟨w.heap.size + 1 + 1, 1, none⟩ = some (.int .i64 0) := by simp [World.cell?, p2]
  have d2 : w2.cell? ⟨w.heap.size + 1 + 1, 2, none⟩ = some (.int .i64 0) := by simp [World.cell?, p2]
  have d3 : w2.cell? ⟨w.heap.size + 1 + 1, 3, none⟩ = some (.bool false) := by simp [World.cell?, p2]
  have z0 : w2.frozen? ⟨w.heap.size + 1 + 1, 0, none⟩ = false := by simp [World.frozen?, p2]
  have z1 : w2.frozen? ⟨w.heap.size + 1 + 1, 1, none⟩ = false := by simp [World.frozen?, p2]
  have z2 : w2.frozen? ⟨w.heap.size + 1 + 1, 2, none⟩ = false := by simp [World.frozen?, p2]
  have z3 : w2.frozen? ⟨w.heap.size + 1 + 1, 3, none⟩ = false := by simp [World.frozen?, p2]
  have Q2 := Lib.hid hb2
  clear p0 p1 p2 hz hb2
  go_wp2
  refine bodyPost_ret (v := .tuple #[.agg #[.slice a n c, .int .i64 m, .int .i64 f, .bool d], .bool true]) (by simp [results, Try.results20, go_sem, *]) rfl ?_
  obtain ⟨r1, r2⟩ := both_close H.out (three_touch w _ _ _) (by simp) (H.out.three _ _ _).st (Keep.refl b v _) ((H.out.three _ _ _).rf.below Q2.out) (Rk.refl _ _) Q2.out (((((Touch.refl (fun k => k = w.heap.size + 2) w2).setCell (p := ⟨w.heap.size + 1 + 1, 0, none⟩) (.inl rfl) (.slice a n c)).setCell (p := ⟨w.heap.size + 1 + 1, 1, none⟩) (.inl rfl) (.int .i64 m)).setCell (p := ⟨w.heap.size + 1 + 1, 2, none⟩) (.inl rfl) (.int .i64 f)).setCell (p := ⟨w.heap.size + 1 + 1, 3, none⟩) (.inl rfl) (.bool d))
  exact ⟨_, _, rfl, r1, r2⟩

set_option maxHeartbeats 2000000 in
theorem do_other (w : World) (b : Nat) (v : Value) (s : St) (a : Option Addr) (n c : Nat) (m f : Int) (d : Bool) (K N : Int) (t : ByteArray) (h : Both w b v (rfv a n c m f d) s)
    (k0 : K ≠ 0) (k1 : K ≠ 1) (k2 : K ≠ 2) (k3 : K ≠ 3) (k4 : K ≠ 4) :
    Calls Try.prog 20 #[.pointer (some ⟨b, 0, none⟩), rfv a n c m f d, .agg #[.int .i64 K, .int .i64 N, .string t]] w fun e w' =>
      ∃ v' m', e = .returned (.tuple #[m', .bool true]) ∧ Both w' b v' m' s ∧ Step b v (rfv a n c m f d) w v' m' w' := by
  have H := Lib.hid h
  have g0 : (K == 0) = false := by simpa using k0
  have g1 : (K == 1) = false := by simpa using k1
  have g2 : (K == 2) = false := by simpa using k2
  have g3 : (K == 3) = false := by simpa using k3
  have g4 : (K == 4) = false := by simpa using k4
  clear h k0 k1 k2 k3 k4
  unfold rfv at *
  go_enter Try.func20, Try.ntmps20
  go_wp2
  refine bodyPost_ret (v := .tuple #[.agg #[.slice a n c, .int .i64 m, .int .i64 f, .bool d], .bool true]) (by simp [results, Try.results20, go_sem, *]) rfl ?_
  have ht : Touch (fun _ => False) w (((w.alloc (.cells #[.slice a n c, .int .i64 m, .int .i64 f, .bool d] 42)).alloc (.cells #[.int .i64 K, .int .i64 N, .string t] 47)).alloc (.cells #[.slice a n c, .int .i64 m, .int .i64 f, .bool d] 42)) := three_touch w _ _ _
  exact ⟨_, _, rfl, H.out.touch ht, ⟨⟨ht.mono (fun _ e => e.elim), fun k e => .inl e⟩, Rk.refl _ _⟩⟩

def St.op (K N : Int) (t : ByteArray) (s : St) : St := if K = 0 then (s.wr t).1 else if K = 1 then s.sy.1 else if K = 2 then s.crash N else if K = 3 then s.arm N else s

theorem do_any (w : World) (b : Nat) (v m : Value) (s : St) (K N : Int) (t : ByteArray) (h : Both w b v m s) (hN : N ≤ 9223372036854775807) :
    Calls Try.prog 20 #[.pointer (some ⟨b, 0, none⟩), m, .agg #[.int .i64 K, .int .i64 N, .string t]] w fun e w' =>
      ∃ v' m', e = .returned (.tuple #[m', .bool true]) ∧ Both w' b v' m' (s.op K N t) ∧ Step b v m w v' m' w' := by
  obtain ⟨a, c, e, _⟩ := h.rf
  subst e
  unfold St.op
  by_cases k0 : K = 0
  · subst k0; rw [if_pos rfl]; exact do_write w b v s a _ c _ _ _ N t h
  rw [if_neg k0]
  by_cases k1 : K = 1
  · subst k1; rw [if_pos rfl]; exact do_sync w b v s a _ c _ _ _ N t h
  rw [if_neg k1]
  by_cases k2 : K = 2
  · subst k2; rw [if_pos rfl]; exact do_crash w b v s a _ c _ _ _ N t h
  rw [if_neg k2]
  by_cases k3 : K = 3
  · subst k3; rw [if_pos rfl]; exact do_arm w b v s a _ c _ _ _ N t hN h
  rw [if_neg k3]
  by_cases k4 : K = 4
  · subst k4; exact do_read w b v s a _ c _ _ _ N t h
  exact do_other w b v s a _ c _ _ _ K N t h k0 k1 k2 k3 k4
end Go.Proofs.Ythfddgffanajaaa
