/-
  The store: New, Write, Sync, Len, Read, Down, Crash. (Put together of XStore, XStore2, XStore3 without Arm, XStore4.)
-/
import Derived.Test.YtllaahdbngjigaaDoorRows
import Derived.Test.YtllaahdbngjigaaDoorSep
import Derived.Deep.RegionLaw
namespace Go.Proofs.YtllaahdbngjigaaDoor
open Go Go.RowKit
set_option linter.unusedVariables false
set_option linter.unusedSimpArgs false

structure St where
  ws : List ByteArray
  last : Nat
  armed : Bool
  fuse : Int
  down : Bool

def St.cells (s : St) (v : Value) : Array Value := #[v, .int .i64 s.last, .bool s.armed, .int .i64 s.fuse, .bool s.down]

/-- Block b is the store s; its writes lie in the row v. -/
structure IsSt (w : World) (b : Nat) (v : Value) (s : St) : Prop where
  blk : w.heap[b]? = some (.cells (s.cells v) 101 (0, 0))
  row : w.ownsRow 0 9 1 v s.ws.length (s.ws.map Value.string)
  ne : v.ownBlock ≠ some b
  f0 : 0 ≤ s.fuse
  f1 : s.fuse ≤ 9223372036854775807
  len : s.ws.length ≤ 4096
  last : s.last ≤ s.ws.length

theorem IsSt.cell {w : World} {b : Nat} {v : Value} {s : St} (h : IsSt w b v s) (i : Nat) : w.cell? ⟨b, i, none⟩ = (s.cells v)[i]? := by simp [World.cell?, h.blk]
theorem IsSt.free {w : World} {b : Nat} {v : Value} {s : St} (h : IsSt w b v s) (i : Nat) : w.frozen? ⟨b, i, none⟩ = false := by simp [World.frozen?, h.blk]
theorem IsSt.lt {w : World} {b : Nat} {v : Value} {s : St} (h : IsSt w b v s) : b < w.heap.size := lt_of_block h.blk

/-- What a method may write. -/
def Fp (b : Nat) (v : Value) : Nat → Prop := fun k => k = b ∨ v.ownBlock = some k
/-- A method's frame: only its own blocks are written; the row stays, or moves to a new block. -/
structure Keep (b : Nat) (v : Value) (w : World) (v' : Value) (w' : World) : Prop where
  touch : Touch (Fp b v) w w'
  row : ∀ k, v'.ownBlock = some k → v.ownBlock = some k ∨ w.heap.size ≤ k
theorem Keep.refl (b : Nat) (v : Value) (w : World) : Keep b v w v w := ⟨Touch.refl _ _, fun _ h => .inl h⟩
theorem Keep.trans {b : Nat} {v v1 v2 : Value} {w w1 w2 : World} (h : Keep b v w v1 w1) (k : Keep b v1 w1 v2 w2) : Keep b v w v2 w2 :=
  ⟨h.touch.trans k.touch (fun x hx => hx.elim (fun e => .inl (.inl e)) (fun e => (h.row x e).elim (fun e => .inl (.inr e)) .inr)),
   fun x hx => (k.row x hx).elim (h.row x) (fun e => .inr (Nat.le_trans h.touch.size e))⟩

/-- A world that differs from w by new blocks and draws alone. -/
theorem IsSt.kept {w w' : World} {b : Nat} {v : Value} {s : St} {S : Nat → Prop} (h : IsSt w b v s) (ht : Touch S w w') (hb : ¬ S b) (hv : ∀ k, v.ownBlock = some k → ¬ S k) : IsSt w' b v s :=
  ⟨(ht.block b h.lt hb).trans h.blk, own_touch h.row ht hv, h.ne, h.f0, h.f1, h.len, h.last⟩

def St.new : St := ⟨[], 0, false, 0, false⟩

theorem new_any (w : World) :
    Calls Tryd.prog 14 #[] w fun e w' => ∃ b, e = .returned (.pointer (some ⟨b, 0, none⟩)) ∧ IsSt w' b (.slice none 0 0) St.new ∧ w.heap.size ≤ b ∧ Below w.heap.size w w' := by
  go_enter Tryd.func14, Tryd.ntmps14
  go_wp2
  go_ret
  refine ⟨w.heap.size, rfl, ⟨heap_alloc_new _ _, World.ownsRow_nil _ _ _ _, by simp [Value.ownBlock], by decide, by decide, by decide, by decide⟩, Nat.le_refl _, (Below.refl _ _).alloc (Nat.le_refl _) _⟩

theorem Tryd.info9 : (Tryd.prog.info? 9).map (fun i => (i.zero, i.size, i.bytes)) = some (some (.string ⟨#[]⟩), 1, 16) := by kernel_rfl

theorem heap_set {w : World} {b i : Nat} {cs : Array Value} {e : TypeId} {u : Value} (h : w.heap[b]? = some (.cells cs e (0, 0))) : (w.setCell ⟨b, i, none⟩ u).heap[b]? = some (.cells (cs.setIfInBounds i u) e (0, 0)) := by
  simp only [World.setCell, Array.getElem?_modify, if_pos, h]
  rfl

theorem one_str (t : ByteArray) : ∀ u ∈ [Value.string t], u.oneCell' = true := by intro u hu; simp at hu; subst hu; rfl

theorem grown_heap {w w' : World} {row : Option Nat} (h : w.grownBy w' row) {k : Nat} (hk : k < w.heap.size) (hn : row ≠ some k) : w'.heap[k]? = w.heap[k]? := h.block k hk (fun e => hn e.symm)

/-- The row and one cell of the struct are written anew. -/
theorem IsSt.put {w w1 : World} {b : Nat} {v v' : Value} {s s' : St} {i : Nat} {u : Value} (h : IsSt w b v s) (hb : w1.heap[b]? = some (.cells (s.cells v) 101 (0, 0))) (hr : w1.ownsRow 0 9 1 v' s'.ws.length (s'.ws.map Value.string)) (hne : v'.ownBlock ≠ some b)
    (hc : (s.cells v).setIfInBounds i u = s'.cells v') (f0 : 0 ≤ s'.fuse) (f1 : s'.fuse ≤ 9223372036854775807) (hl : s'.ws.length ≤ 4096) (hla : s'.last ≤ s'.ws.length) : IsSt (w1.setCell ⟨b, i, none⟩ u) b v' s' :=
  ⟨by rw [heap_set hb, hc], ownsRow_setCell_other hr hne u, hne, f0, f1, hl, hla⟩

set_option maxHeartbeats 1000000 in
/-- The closure of Write: the text is appended. -/
theorem write1_any (w : World) (b c1 c2 : Nat) (v : Value) (s : St) (t : ByteArray) (h : IsSt w b v s) (h1 : w.cell? ⟨c1, 0, none⟩ = some (.pointer (some ⟨b, 0, none⟩))) (h2 : w.cell? ⟨c2, 0, none⟩ = some (.string t)) (hl : s.ws.length < 4096) (n1 : v.ownBlock ≠ some c1) :
    Calls Tryd.prog 57 #[.pointer (some ⟨c1, 0, none⟩), .pointer (some ⟨c2, 0, none⟩)] w fun e w' => ∃ v', e = .returned (.tuple #[]) ∧ IsSt w' b v' { s with ws := s.ws ++ [t] } ∧ Keep b v w v' w' := by
  obtain ⟨i0, hi, hz0, hz1, hz2⟩ := info_parts Tryd.info9
  have H := Lib.hid h
  have k0 : w.cell? ⟨b, 0, none⟩ = some v := h.cell 0
  have kf : w.frozen? ⟨b, 0, none⟩ = false := h.free 0
  have hb := h.lt
  have hc1 : c1 < w.heap.size := World.block_lt_of_cell? _ _ h1
  have hc2 : c2 < w.heap.size := World.block_lt_of_cell? _ _ h2
  have L1 : s.ws.length + 1 ≤ maxLen := by unfold maxLen; omega
  have L2 : (s.ws.length + 1) * 16 ≤ 140737488355328 := by omega
  have Z5 : 0 < 1 := by decide
  have HO := Lib.hid (((h.row.alloc (.cells #[.string t] 9)).drew))
  go_enter Tryd.func57, Tryd.ntmps57
  go_wp2
  go_region_law (refine step_own rfl (.tmp 6) (.tmp 8) 44 rfl 9 i0 _ 1 16 Tryd.underlying44 hi hz0 hz1 hz2 rfl Z5 _ _ _ rfl HO.out ⟨w.heap.size, 0, none⟩ 1 1 [.string t] rfl rfl (new_cells _ _ _) (one_str t) L1 L2 ?_; intro v4 w4 hown4 hg4 hn4; obtain ⟨ao4, cap4, rfl⟩ := own_shape hown4; have q2 := (grown_heap hg4 (by simp; omega) H.out.ne).trans (by rw [show ((w.alloc (.cells #[.string t] 9)).drew).heap[b]? = (w.alloc (.cells #[.string t] 9)).heap[b]? from rfl, Below.heap_alloc _ _ _ hb]); have q3 : w4.cell? ⟨c1, 0, none⟩ = some (.pointer (some ⟨b, 0, none⟩)) := (heap_cell ((grown_heap hg4 (by simp; omega) n1).trans (by rw [show ((w.alloc (.cells #[.string t] 9)).drew).heap[c1]? = (w.alloc (.cells #[.string t] 9)).heap[c1]? from rfl, Below.heap_alloc _ _ _ hc1]))).trans h1; have q0 : w4.cell? ⟨b, 0, none⟩ = some v := (heap_cell q2).trans k0; have q1 : w4.frozen? ⟨b, 0, none⟩ = false := (World.frozen?_of_block q2).trans kf; have Q := Lib.hid (And.intro q2 (And.intro hown4 (And.intro hg4 hn4))); clear q2 hown4 hg4 hn4)
  all_goals
    go_end0
    obtain ⟨q2, hown4, hg4, hn4⟩ := Q.out
    have hne : (Value.slice ao4 (s.ws.length + 1) cap4).ownBlock ≠ some b := by
      intro e
      rcases hn4 b e with e | e
      · exact H.out.ne e
      · simp at e; omega
    refine ⟨_, rfl, H.out.put (q2.trans H.out.blk) (by simpa using hown4) hne (by simp [St.cells]) H.out.f0 H.out.f1 (by simp; omega) (by have := H.out.last; simp; omega), ⟨((((Touch.refl _ _).alloc _).drew).grown hg4 (fun k e => .inl (.inr e))).setCell (.inl (.inl rfl)) _, fun k e => (hn4 k e).imp id (fun h => by simp at h; omega)⟩⟩


/-- A call that may burn the fuse: what is left of the store, and is it done? -/
def St.wr (t : ByteArray) (s : St) : St × Int :=
  if s.down = true then (s, 14) else if 4096 < t.size then (s, 1) else if 4096 ≤ s.ws.length then (s, 7)
  else if s.armed = true then (if s.fuse = 0 then ({ s with down := true }, 14) else ({ s with fuse := s.fuse - 1, ws := s.ws ++ [t] }, 0))
  else ({ s with ws := s.ws ++ [t] }, 0)

theorem Keep.alloc {b : Nat} {v v1 : Value} {w w1 : World} (h : Keep b v w v1 w1) (o : Obj) : Keep b v w v1 (w1.alloc o) := ⟨h.touch.alloc o, h.row⟩
theorem Keep.set {b i : Nat} {v v1 : Value} {w w1 : World} (h : Keep b v w v1 w1) (u : Value) : Keep b v w v1 (w1.setCell ⟨b, i, none⟩ u) := ⟨h.touch.setCell (.inl (.inl rfl)) u, h.row⟩
theorem IsSt.alloc {w : World} {b : Nat} {v : Value} {s : St} (h : IsSt w b v s) (o : Obj) : IsSt (w.alloc o) b v s :=
  h.kept (S := fun _ => False) ((Touch.refl _ _).alloc o) id (fun _ _ => id)
/-- One cell of the struct is written. -/
theorem IsSt.one {w : World} {b i : Nat} {v u : Value} {s s' : St} (h : IsSt w b v s) (hw : s'.ws = s.ws) (hc : (s.cells v).setIfInBounds i u = s'.cells v) (f0 : 0 ≤ s'.fuse) (f1 : s'.fuse ≤ 9223372036854775807) (hl : s'.last ≤ s'.ws.length) : IsSt (w.setCell ⟨b, i, none⟩ u) b v s' :=
  h.put h.blk (by rw [hw]; exact h.row) h.ne hc f0 f1 (by rw [hw]; exact h.len) hl

theorem two_c1 (w : World) (x y : Obj) (u : Value) (e : Nat) (hx : x = .cells #[u] e) : ((w.alloc x).alloc y).cell? ⟨w.heap.size, 0, none⟩ = some u := by
  subst hx
  exact (heap_cell (Below.heap_alloc _ _ _ (by simp))).trans (by unfold World.cell?; rw [heap_alloc_new]; rfl)
theorem two_c2 (w : World) (x : Obj) (u : Value) (e : Nat) : ((w.alloc x).alloc (.cells #[u] e)).cell? ⟨w.heap.size + 1, 0, none⟩ = some u := by
  have h := heap_alloc_new (w.alloc x) (.cells #[u] e)
  rw [show (w.alloc x).heap.size = w.heap.size + 1 by simp] at h
  unfold World.cell?; rw [h]; rfl

theorem two_x1 (w : World) (y : Obj) (u : Value) (e : Nat) (n : Nat) (hn : n = w.heap.size) : ((w.alloc (.cells #[u] e)).alloc y).cell? ⟨n, 0, none⟩ = some u := by
  subst hn; exact two_c1 w _ y u e rfl
theorem two_x2 (w : World) (x : Obj) (u : Value) (e : Nat) {n : Nat} (hn : n = w.heap.size + 1) : ((w.alloc x).alloc (.cells #[u] e)).cell? ⟨n, 0, none⟩ = some u := by
  subst hn; exact two_c2 w x u e

set_option maxHeartbeats 2000000 in
theorem write_any (w : World) (b : Nat) (v : Value) (s : St) (t : ByteArray) (h : IsSt w b v s) :
    Calls Tryd.prog 24 #[.pointer (some ⟨b, 0, none⟩), .string t] w fun e w' => ∃ v', e = .returned (.int .i64 (s.wr t).2) ∧ IsSt w' b v' (s.wr t).1 ∧ Keep b v w v' w' := by
  have HV := Lib.hid h.row
  obtain ⟨ao, cap, e⟩ := own_shape h.row
  obtain ⟨n, hn⟩ : ∃ n, n = s.ws.length := ⟨_, rfl⟩
  rw [← hn] at e
  have HN := Lib.hid hn
  clear hn
  have H := Lib.hid h
  have hb := h.lt
  have k0 : w.cell? ⟨b, 0, none⟩ = some v := h.cell 0
  have k2 : w.cell? ⟨b, 2, none⟩ = some (.bool s.armed) := h.cell 2
  have k3 : w.cell? ⟨b, 3, none⟩ = some (.int .i64 s.fuse) := h.cell 3
  have k4 : w.cell? ⟨b, 4, none⟩ = some (.bool s.down) := h.cell 4
  have kf3 : w.frozen? ⟨b, 3, none⟩ = false := h.free 3
  have kf4 : w.frozen? ⟨b, 4, none⟩ = false := h.free 4
  have f0 := h.f0
  have F1 := Lib.hid h.f1
  have H2 := Lib.hid ((h.alloc (.cells #[.pointer (some ⟨b, 0, none⟩)] 46)).alloc (.cells #[.string t] 9))
  have K2 := Lib.hid (((Keep.refl b v w).alloc (.cells #[.pointer (some ⟨b, 0, none⟩)] 46)).alloc (.cells #[.string t] 9))
  have HNE := Lib.hid (fun k hk => own_lt h.row (k := k) hk)
  clear h HV
  cases hd : s.down with
  | true =>
    have HE := Lib.hid (show s.wr t = (s, 14) by unfold St.wr; rw [if_pos hd])
    rw [hd] at k4
    clear hd
    subst e
    go_enter Tryd.func24, Tryd.ntmps24
    go_wp2
    go_ret
    exact ⟨_, by rw [HE.out]; rfl, by rw [HE.out]; exact H2.out, K2.out⟩
  | false =>
    rw [hd] at k4
    by_cases h1 : 4096 < t.size
    · have HE := Lib.hid (show s.wr t = (s, 1) by unfold St.wr; rw [if_neg (by simp [hd]), if_pos h1])
      have d1 : decide ((4096 : Int) < (t.size : Int)) = true := by simp; omega
      clear hd h1
      subst e
      go_enter Tryd.func24, Tryd.ntmps24
      go_wp2
      go_ret
      exact ⟨_, by rw [HE.out]; rfl, by rw [HE.out]; exact H2.out, K2.out⟩
    · have d1 : decide ((4096 : Int) < (t.size : Int)) = false := by simp; omega
      by_cases h2 : 4096 ≤ n
      · have HE := Lib.hid (show s.wr t = (s, 7) by unfold St.wr; rw [if_neg (by simp [hd]), if_neg h1, if_pos (by rw [← HN.out]; exact h2)])
        have d2 : decide ((4096 : Int) ≤ (n : Int)) = true := by simp; omega
        clear hd h1
        subst e
        go_enter Tryd.func24, Tryd.ntmps24
        go_wp2
        go_ret
        exact ⟨_, by rw [HE.out]; rfl, by rw [HE.out]; exact H2.out, K2.out⟩
      · have d2 : decide ((4096 : Int) ≤ (n : Int)) = false := by simp; omega
        cases ha : s.armed with
        | true =>
          rw [ha] at k2
          by_cases hf : s.fuse = 0
          · have HE := Lib.hid (show s.wr t = ({ s with down := true }, 14) by unfold St.wr; rw [if_neg (by simp [hd]), if_neg h1, if_neg (by rw [← HN.out]; exact h2), if_pos ha, if_pos hf])
            have d3 : (s.fuse == 0) = true := by simpa using hf
            have HF := Lib.hid (((show IsSt (w.setCell ⟨b, 4, none⟩ (.bool true)) b v { s with down := true } from H.out.one rfl rfl f0 F1.out H.out.last).alloc (.cells #[.pointer (some ⟨b, 0, none⟩)] 46)).alloc (.cells #[.string t] 9))
            have KF := Lib.hid ((((Keep.refl b v w).set (i := 4) (.bool true)).alloc (.cells #[.pointer (some ⟨b, 0, none⟩)] 46)).alloc (.cells #[.string t] 9))
            clear hd h1 ha hf H2 K2
            subst e
            go_enter Tryd.func24, Tryd.ntmps24
            go_wp2_with (go_at_call 56; go_in)
            go_ret
            exact ⟨_, by rw [HE.out]; rfl, by rw [HE.out]; exact HF.out, KF.out⟩
          · have HE := Lib.hid (show s.wr t = ({ s with fuse := s.fuse - 1, ws := s.ws ++ [t] }, 0) by unfold St.wr; rw [if_neg (by simp [hd]), if_neg h1, if_neg (by rw [← HN.out]; exact h2), if_pos ha, if_neg hf])
            have d3 : (s.fuse == 0) = false := by simpa using hf
            have m1 : wrap64 (s.fuse - 1) = s.fuse - 1 := IntWalk.wrap64_in _ (by have := F1.out; omega)
            have HF := Lib.hid (((show IsSt (w.setCell ⟨b, 3, none⟩ (.int .i64 (s.fuse - 1))) b v { s with fuse := s.fuse - 1 } from H.out.one rfl rfl (show 0 ≤ s.fuse - 1 by omega) (show s.fuse - 1 ≤ _ by have := F1.out; omega) H.out.last).alloc (.cells #[.pointer (some ⟨b, 0, none⟩)] 46)).alloc (.cells #[.string t] 9))
            have KF := Lib.hid ((((Keep.refl b v w).set (i := 3) (.int .i64 (s.fuse - 1))).alloc (.cells #[.pointer (some ⟨b, 0, none⟩)] 46)).alloc (.cells #[.string t] 9))
            have HL := Lib.hid (show s.ws.length < 4096 by rw [← HN.out]; omega)
            clear hd h1 ha hf H2 K2
            subst e
            go_enter Tryd.func24, Tryd.ntmps24
            go_wp2_with (go_at_call 56; go_in)
            refine (write1_any _ b _ _ _ _ t HF.out (two_x1 _ _ _ _ _ (by simp)) (two_x2 _ _ _ _ (by simp)) HL.out (fun e => by have := HNE.out _ e; omega)).mono ?_
            rintro e w5 ⟨v5, rfl, h5, k5⟩
            have H5 := Lib.hid h5
            clear h5
            go_wp2
            go_ret
            exact ⟨v5, by rw [HE.out]; rfl, by rw [HE.out]; exact H5.out, KF.out.trans k5⟩
        | false =>
          rw [ha] at k2
          have HE := Lib.hid (show s.wr t = ({ s with ws := s.ws ++ [t] }, 0) by unfold St.wr; rw [if_neg (by simp [hd]), if_neg h1, if_neg (by rw [← HN.out]; exact h2), if_neg (by simp [ha])])
          have HL := Lib.hid (show s.ws.length < 4096 by rw [← HN.out]; omega)
          clear hd h1 ha
          subst e
          go_enter Tryd.func24, Tryd.ntmps24
          go_wp2_with (go_at_call 56; go_in)
          refine (write1_any _ b _ _ _ _ t H2.out (two_x1 _ _ _ _ _ (by simp)) (two_x2 _ _ _ _ (by simp)) HL.out (fun e => by have := HNE.out _ e; omega)).mono ?_
          rintro e w5 ⟨v5, rfl, h5, k5⟩
          have H5 := Lib.hid h5
          clear h5
          go_wp2
          go_ret
          exact ⟨v5, by rw [HE.out]; rfl, by rw [HE.out]; exact H5.out, K2.out.trans k5⟩


def St.sy (s : St) : St × Int :=
  if s.down = true then (s, 14)
  else if s.armed = true then (if s.fuse = 0 then ({ s with down := true }, 14) else ({ s with fuse := s.fuse - 1, last := s.ws.length }, 0))
  else ({ s with last := s.ws.length }, 0)

set_option maxHeartbeats 1000000 in
theorem sync1_any (w : World) (b c1 : Nat) (v : Value) (s : St) (h : IsSt w b v s) (h1 : w.cell? ⟨c1, 0, none⟩ = some (.pointer (some ⟨b, 0, none⟩))) :
    Calls Tryd.prog 83 #[.pointer (some ⟨c1, 0, none⟩)] w fun e w' => e = .returned (.tuple #[]) ∧ IsSt w' b v { s with last := s.ws.length } ∧ Keep b v w v w' := by
  obtain ⟨ao, cap, e⟩ := own_shape h.row
  have H := Lib.hid h
  have k0 : w.cell? ⟨b, 0, none⟩ = some v := h.cell 0
  have k1 : w.cell? ⟨b, 1, none⟩ = some (.int .i64 s.last) := h.cell 1
  have kf : w.frozen? ⟨b, 1, none⟩ = false := h.free 1
  clear h
  subst e
  go_enter Tryd.func83, Tryd.ntmps83
  go_wp2
  go_region
  all_goals
    go_end0
    exact ⟨rfl, (show IsSt (w.setCell ⟨b, 1, none⟩ (.int .i64 s.ws.length)) b _ { s with last := s.ws.length } from H.out.one rfl rfl H.out.f0 H.out.f1 (Nat.le_refl _)).kept (S := fun _ => False) (Touch.refl _ _).drew id (fun _ _ => id), ⟨((Touch.refl _ _).setCell (.inl (.inl rfl)) _).drew, fun k h => .inl h⟩⟩

theorem one_x (w : World) (u : Value) (e : Nat) {n : Nat} (hn : n = w.heap.size) : (w.alloc (.cells #[u] e)).cell? ⟨n, 0, none⟩ = some u := by
  subst hn; unfold World.cell?; rw [heap_alloc_new]; rfl

set_option maxHeartbeats 2000000 in
theorem sync_any (w : World) (b : Nat) (v : Value) (s : St) (h : IsSt w b v s) :
    Calls Tryd.prog 53 #[.pointer (some ⟨b, 0, none⟩)] w fun e w' => e = .returned (.int .i64 s.sy.2) ∧ IsSt w' b v s.sy.1 ∧ Keep b v w v w' := by
  have H := Lib.hid h
  have hb := h.lt
  have k2 : w.cell? ⟨b, 2, none⟩ = some (.bool s.armed) := h.cell 2
  have k3 : w.cell? ⟨b, 3, none⟩ = some (.int .i64 s.fuse) := h.cell 3
  have k4 : w.cell? ⟨b, 4, none⟩ = some (.bool s.down) := h.cell 4
  have kf3 : w.frozen? ⟨b, 3, none⟩ = false := h.free 3
  have kf4 : w.frozen? ⟨b, 4, none⟩ = false := h.free 4
  have f0 := h.f0
  have F1 := Lib.hid h.f1
  have H2 := Lib.hid (h.alloc (.cells #[.pointer (some ⟨b, 0, none⟩)] 46))
  have K2 := Lib.hid ((Keep.refl b v w).alloc (.cells #[.pointer (some ⟨b, 0, none⟩)] 46))
  clear h
  cases hd : s.down with
  | true =>
    have HE := Lib.hid (show s.sy = (s, 14) by unfold St.sy; rw [if_pos hd])
    rw [hd] at k4
    clear hd
    go_enter Tryd.func53, Tryd.ntmps53
    go_wp2
    go_ret
    exact ⟨by rw [HE.out]; rfl, by rw [HE.out]; exact H2.out, K2.out⟩
  | false =>
    rw [hd] at k4
    cases ha : s.armed with
    | true =>
      rw [ha] at k2
      by_cases hf : s.fuse = 0
      · have HE := Lib.hid (show s.sy = ({ s with down := true }, 14) by unfold St.sy; rw [if_neg (by simp [hd]), if_pos ha, if_pos hf])
        have d3 : (s.fuse == 0) = true := by simpa using hf
        have HF := Lib.hid ((show IsSt (w.setCell ⟨b, 4, none⟩ (.bool true)) b v { s with down := true } from H.out.one rfl rfl f0 F1.out H.out.last).alloc (.cells #[.pointer (some ⟨b, 0, none⟩)] 46))
        have KF := Lib.hid (((Keep.refl b v w).set (i := 4) (.bool true)).alloc (.cells #[.pointer (some ⟨b, 0, none⟩)] 46))
        clear hd ha hf H2 K2
        go_enter Tryd.func53, Tryd.ntmps53
        go_wp2_with (go_at_call 56; go_in)
        go_ret
        exact ⟨by rw [HE.out]; rfl, by rw [HE.out]; exact HF.out, KF.out⟩
      · have HE := Lib.hid (show s.sy = ({ s with fuse := s.fuse - 1, last := s.ws.length }, 0) by unfold St.sy; rw [if_neg (by simp [hd]), if_pos ha, if_neg hf])
        have d3 : (s.fuse == 0) = false := by simpa using hf
        have m1 : wrap64 (s.fuse - 1) = s.fuse - 1 := IntWalk.wrap64_in _ (by have := F1.out; omega)
        have HF := Lib.hid ((show IsSt (w.setCell ⟨b, 3, none⟩ (.int .i64 (s.fuse - 1))) b v { s with fuse := s.fuse - 1 } from H.out.one rfl rfl (show 0 ≤ s.fuse - 1 by omega) (show s.fuse - 1 ≤ _ by have := F1.out; omega) H.out.last).alloc (.cells #[.pointer (some ⟨b, 0, none⟩)] 46))
        have KF := Lib.hid (((Keep.refl b v w).set (i := 3) (.int .i64 (s.fuse - 1))).alloc (.cells #[.pointer (some ⟨b, 0, none⟩)] 46))
        clear hd ha hf H2 K2
        go_enter Tryd.func53, Tryd.ntmps53
        go_wp2_with (go_at_call 56; go_in)
        refine (sync1_any _ b _ _ _ HF.out (one_x _ _ _ (by simp))).mono ?_
        rintro e w5 ⟨rfl, h5, k5⟩
        have H5 := Lib.hid h5
        clear h5
        go_wp2
        go_ret
        exact ⟨by rw [HE.out]; rfl, by rw [HE.out]; exact H5.out, KF.out.trans k5⟩
    | false =>
      rw [ha] at k2
      have HE := Lib.hid (show s.sy = ({ s with last := s.ws.length }, 0) by unfold St.sy; rw [if_neg (by simp [hd]), if_neg (by simp [ha])])
      clear hd ha
      go_enter Tryd.func53, Tryd.ntmps53
      go_wp2_with (go_at_call 56; go_in)
      refine (sync1_any _ b _ _ _ H2.out (one_x _ _ _ (by simp))).mono ?_
      rintro e w5 ⟨rfl, h5, k5⟩
      have H5 := Lib.hid h5
      clear h5
      go_wp2
      go_ret
      exact ⟨by rw [HE.out]; rfl, by rw [HE.out]; exact H5.out, K2.out.trans k5⟩

def St.arm (n : Int) (s : St) : St := { s with armed := decide (0 ≤ n), fuse := max n 0 }

theorem len_any (w : World) (b : Nat) (v : Value) (s : St) (h : IsSt w b v s) :
    Calls Tryd.prog 21 #[.pointer (some ⟨b, 0, none⟩)] w fun e w' => e = .returned (.int .i64 s.ws.length) ∧ w = w' := by
  obtain ⟨ao, cap, e⟩ := own_shape h.row
  have k0 : w.cell? ⟨b, 0, none⟩ = some v := h.cell 0
  clear h
  subst e
  go_enter Tryd.func21, Tryd.ntmps21
  go_wp2
  go_ret
  exact ⟨rfl, rfl⟩
theorem down_any (w : World) (b : Nat) (v : Value) (s : St) (h : IsSt w b v s) :
    Calls Tryd.prog 76 #[.pointer (some ⟨b, 0, none⟩)] w fun e w' => e = .returned (.bool s.down) ∧ w = w' := by
  have k0 : w.cell? ⟨b, 4, none⟩ = some (.bool s.down) := h.cell 4
  clear h
  go_enter Tryd.func76, Tryd.ntmps76
  go_wp2
  go_ret
  exact ⟨rfl, rfl⟩

def St.rd (i : Int) (s : St) : ByteArray × Int := if s.down = true then (⟨#[]⟩, 14) else if i < 0 ∨ (s.ws.length : Int) ≤ i then (⟨#[]⟩, 3) else (s.ws.getD i.toNat ⟨#[]⟩, 0)
def rdV (x : ByteArray × Int) : Value := .tuple #[.string x.1, .int .i64 x.2]

set_option maxHeartbeats 1000000 in
theorem read_any (w : World) (b : Nat) (v : Value) (s : St) (i : Int) (h : IsSt w b v s) :
    Calls Tryd.prog 22 #[.pointer (some ⟨b, 0, none⟩), .int .i64 i] w fun e w' => e = .returned (rdV (s.rd i)) ∧ w = w' := by
  obtain ⟨ao, cap, e⟩ := own_shape h.row
  have H := Lib.hid h
  have k0 : w.cell? ⟨b, 0, none⟩ = some v := h.cell 0
  have k4 : w.cell? ⟨b, 4, none⟩ = some (.bool s.down) := h.cell 4
  obtain ⟨n, HN⟩ : ∃ n, Hid (n = s.ws.length) := ⟨_, rfl⟩
  rw [← HN.out] at e
  clear h
  cases hd : s.down with
  | true =>
    have HE := Lib.hid (show s.rd i = (⟨#[]⟩, 14) by unfold St.rd; rw [if_pos hd])
    rw [hd] at k4
    subst e
    clear hd
    go_enter Tryd.func22, Tryd.ntmps22
    go_wp2
    go_ret2
    exact ⟨by rw [HE.out]; rfl, rfl⟩
  | false =>
    rw [hd] at k4
    by_cases h0 : i < 0
    · have HE := Lib.hid (show s.rd i = (⟨#[]⟩, 3) by unfold St.rd; rw [if_neg (by simp [hd]), if_pos (.inl h0)])
      have d0 : decide (i < 0) = true := by simpa using h0
      subst e
      clear hd h0
      go_enter Tryd.func22, Tryd.ntmps22
      go_wp2
      go_ret2
      exact ⟨by rw [HE.out]; rfl, rfl⟩
    · have d0 : decide (i < 0) = false := by simp; omega
      by_cases h1 : (n : Int) ≤ i
      · have HE := Lib.hid (show s.rd i = (⟨#[]⟩, 3) by unfold St.rd; rw [if_neg (by simp [hd]), if_pos (.inr (by rw [← HN.out]; exact h1))])
        have d1 : decide ((n : Int) ≤ i) = true := by simpa using h1
        subst e
        clear hd h1
        go_enter Tryd.func22, Tryd.ntmps22
        go_wp2
        go_ret2
        exact ⟨by rw [HE.out]; rfl, rfl⟩
      · obtain ⟨j, rfl⟩ := Int.eq_ofNat_of_zero_le (show 0 ≤ i by omega)
        have hj : j < s.ws.length := by rw [← HN.out]; omega
        have hjn : j < n := by omega
        have d1 : decide ((n : Int) ≤ (j : Int)) = false := by simp; omega
        have HE := Lib.hid (show s.rd j = (s.ws[j], 0) by unfold St.rd; rw [if_neg (by simp [hd]), if_neg (by rw [← HN.out]; omega)]; simp [hj])
        obtain ⟨g, off, cap', e', _, _, _, hc⟩ := Row.at (Row.of_own H.out.row) (by simp; omega)
        rw [e, ← HN.out] at e'
        cases e'
        have c1 := hc j (by simpa using hj)
        rw [List.getElem_map] at c1
        generalize s.ws[j] = x at *
        subst e
        clear hc hd h1 hj
        go_enter Tryd.func22, Tryd.ntmps22
        go_wp2
        go_ret2
        exact ⟨by rw [HE.out]; rfl, rfl⟩

set_option maxHeartbeats 400000 in
theorem clone_any (zs : List ByteArray) (v : Value) (w : World) (hv : Row w v 1 zs.length (zs.map Value.string)) (hb : zs.length * 16 ≤ 140737488355328) :
    Calls Tryd.prog 54 #[v] w fun e w' => ∃ u, e = .returned u ∧ w'.ownsRow w.heap.size 9 1 u zs.length (zs.map Value.string) ∧ Below w.heap.size w w' := by
  obtain ⟨_, ao, cap, rfl, h1, h2, h3, hc⟩ := hv
  cases ao with
  | none =>
    obtain rfl := h3 rfl
    obtain rfl : zs = [] := List.eq_nil_of_length_eq_zero (by omega)
    have hn := @Lib.run_eql_slice_nil Tryd.prog
    go_enter Tryd.func54, Tryd.ntmps54
    go_wp2
    go_ret
    exact ⟨_, rfl, World.ownsRow_nil _ _ _ _, Below.refl _ _⟩
  | some a =>
    obtain ⟨i0, hi, hz0, hz1, hz2⟩ := info_parts Tryd.info9
    have hn := @Lib.run_eql_slice_nil Tryd.prog
    have hb1 : Below w.heap.size w (w.alloc (.cells #[] 9)) := (Below.refl _ _).alloc (Nat.le_refl _) _
    have HC := Lib.hid (show ∀ j u, (zs.map Value.string)[j]? = some u → (w.alloc (.cells #[] 9)).cell? (a.add j) = some u from fun j u hu => cell_later hb1 (hc a rfl j u hu))
    have H1 := Lib.hid (show ∀ u ∈ zs.map Value.string, u.oneCell' = true from fun u hu => by obtain ⟨z, _, rfl⟩ := List.mem_map.1 hu; rfl)
    have HB := Lib.hid hb1
    clear hb1
    have HO := Lib.hid (own_lit w 9 0 #[] (by unfold maxLen; omega) rfl)
    clear hc
    go_enter Tryd.func54, Tryd.ntmps54
    go_wp2_with (at_builtin; refine wpList_append_own _ rfl _ _ 44 rfl w.heap.size 9 i0 _ 1 16 Tryd.underlying44 hi hz0 hz1 hz2 rfl (by decide) _ _ _ rfl HO.out a zs.length cap (zs.map Value.string) rfl (by simp) HC.out H1.out (by simp only [maxLen]; omega) (by omega) (by simp) ?_; intro v' w1 hown hgrow hnil)
    go_ret
    exact ⟨_, rfl, by simpa using hown, HB.out.grown hgrow (by simp) (fun k hk => by cases hk; exact Nat.le_refl _)⟩


def St.crash (keep : Int) (s : St) : St :=
  let n := s.last + (min (max keep 0) ((s.ws.length : Int) - s.last)).toNat
  ⟨s.ws.take n, n, false, 0, false⟩

theorem five_sets {w1 : World} {b : Nat} {v u : Value} {s : St} {ws : List ByteArray} (hb : w1.heap[b]? = some (.cells (s.cells v) 101 (0, 0))) (hr : w1.ownsRow 0 9 1 u ws.length (ws.map Value.string)) (hne : u.ownBlock ≠ some b) (hl : ws.length ≤ 4096) :
    IsSt (((((w1.setCell ⟨b, 0, none⟩ u).setCell ⟨b, 1, none⟩ (.int .i64 ws.length)).setCell ⟨b, 2, none⟩ (.bool false)).setCell ⟨b, 3, none⟩ (.int .i64 0)).setCell ⟨b, 4, none⟩ (.bool false)) b u ⟨ws, ws.length, false, 0, false⟩ :=
  ⟨by rw [heap_set (heap_set (heap_set (heap_set (heap_set hb))))]; rfl,
   ownsRow_setCell_other (ownsRow_setCell_other (ownsRow_setCell_other (ownsRow_setCell_other (ownsRow_setCell_other hr hne _) hne _) hne _) hne _) hne _, hne, show (0 : Int) ≤ 0 by decide, show (0 : Int) ≤ _ by decide, hl, Nat.le_refl _⟩

theorem row_take {w : World} {ao : Option Addr} {n m cap : Nat} {cs : List Value} (h : Row w (.slice ao n cap) 1 n cs) (hm : m ≤ n) : Row w (.slice ao m cap) 1 m (cs.take m) := by
  obtain ⟨h1, ao', cap', e, h3, h4, h5, h6⟩ := h
  cases e
  refine ⟨by rw [List.length_take]; omega, ao, cap, rfl, by omega, h4, h5, fun a ha j u hu => h6 a ha j u ?_⟩
  rw [List.getElem?_take] at hu
  split at hu
  · exact hu
  · cases hu

set_option maxHeartbeats 2000000 in
theorem crash_any (w : World) (b : Nat) (v : Value) (s : St) (keep : Int) (h : IsSt w b v s) :
    Calls Tryd.prog 18 #[.pointer (some ⟨b, 0, none⟩), .int .i64 keep] w fun e w' => ∃ v', e = .returned (.tuple #[]) ∧ IsSt w' b v' (s.crash keep) ∧ Keep b v w v' w' := by
  obtain ⟨ao, cap, e⟩ := own_shape h.row
  have H := Lib.hid h
  have k0 : w.cell? ⟨b, 0, none⟩ = some v := h.cell 0
  have k1 : w.cell? ⟨b, 1, none⟩ = some (.int .i64 s.last) := h.cell 1
  have kf0 : w.frozen? ⟨b, 0, none⟩ = false := h.free 0
  have kf1 : w.frozen? ⟨b, 1, none⟩ = false := h.free 1
  have kf2 : w.frozen? ⟨b, 2, none⟩ = false := h.free 2
  have kf3 : w.frozen? ⟨b, 3, none⟩ = false := h.free 3
  have kf4 : w.frozen? ⟨b, 4, none⟩ = false := h.free 4
  obtain ⟨n, HN⟩ : ∃ n, Hid (n = s.ws.length) := ⟨_, rfl⟩
  rw [← HN.out] at e
  have hl1 : s.last ≤ n := by rw [HN.out]; exact h.last
  have hl2 : n ≤ 4096 := by rw [HN.out]; exact h.len
  clear h
  subst e
  have m1 : IntKind.i64.wrap ((n : Int) - s.last) = (n : Int) - s.last := IntWalk.i64_in _ (by omega)
  go_enter Tryd.func18, Tryd.ntmps18
  go_wp2
  go_quiet (fail)
  obtain ⟨k, HK⟩ : ∃ k : Nat, Hid (k = (min (max keep 0) ((s.ws.length : Int) - s.last)).toNat) := ⟨_, rfl⟩
  have hk := HK.out
  rw [← HN.out] at hk
  have E1 : (if (n : Int) - s.last < (if keep < 0 then 0 else keep) then (n : Int) - s.last else if keep < 0 then 0 else keep) = (k : Int) := by
    rw [hk]; split <;> split <;> omega
  have hk1 : s.last + k ≤ n := by omega
  have HE := Lib.hid (show s.crash keep = ⟨s.ws.take (s.last + k), s.last + k, false, 0, false⟩ by unfold St.crash; rw [HK.out])
  rw [E1]
  clear E1 hk m1 HK
  generalize (if keep < 0 then (0 : Int) else keep) = kk
  obtain ⟨zs, HZ⟩ : ∃ zs, Hid (zs = s.ws.take (s.last + k)) := ⟨_, rfl⟩
  have hzl : zs.length = s.last + k := by rw [HZ.out, List.length_take, ← HN.out]; omega
  obtain ⟨_, _, cap', e', hcap, hcap2, _⟩ := Row.of_own H.out.row
  have hcn : n ≤ cap := by rw [← HN.out] at e' hcap; cases e'; exact hcap
  have HR := Lib.hid (show Row w (.slice ao zs.length cap) 1 zs.length (zs.map Value.string) from by
    have h1 : Row w (.slice ao n cap) 1 n (s.ws.map Value.string) := by have := Row.of_own H.out.row; rwa [← HN.out] at this
    have := row_take h1 hk1
    rw [hzl, HZ.out, List.map_take]; exact this)
  have HZL := Lib.hid hzl
  have HB16 := Lib.hid (show zs.length * 16 ≤ 140737488355328 by omega)
  have m1 : IntKind.i64.wrap ((s.last : Int) + (k : Int)) = (s.last : Int) + (k : Int) := IntWalk.i64_in _ (by omega)
  have m2 : (0 : Int) ≤ (s.last : Int) + (k : Int) := by omega
  have m3 : (s.last : Int) + (k : Int) ≤ (cap : Int) := by omega
  have m4 : ((s.last : Int) + (k : Int)).toNat = zs.length := by rw [hzl]; omega
  clear hzl e' hcap hcap2
  go_wp2
  go_region_with (go_at_call 54; refine (clone_any zs _ _ (Row.drewN HR.out _) HB16.out).mono ?_; rintro e w2 ⟨u, rfl, ho, hb2⟩; obtain ⟨ao2, cap2, rfl⟩ := own_shape ho; have q2 : w2.heap[b]? = w.heap[b]? := hb2.block b H.out.lt; have q0 : w2.cell? ⟨b, 0, none⟩ = some (.slice ao n cap) := (heap_cell q2).trans k0; have q1 : w2.frozen? ⟨b, 0, none⟩ = false := (World.frozen?_of_block q2).trans kf0; have Q := Lib.hid (And.intro q2 (And.intro ho hb2)); clear q2 ho hb2)
  all_goals
    obtain ⟨q2, ho, hb2⟩ := Q.out
    have hne : (Value.slice ao2 zs.length cap2).ownBlock ≠ some b := by
      intro e
      have h1 := own_block ho e
      have h2 := H.out.lt
      simp at h1; omega
    have HF := Lib.hid (five_sets (q2.trans H.out.blk) (show w2.ownsRow 0 9 1 _ zs.length (zs.map Value.string) from ⟨ho.1, ho.2.imp id (fun ⟨g, c, cur, a1, _, a3⟩ => ⟨g, c, cur, a1, Nat.zero_le _, a3⟩)⟩) hne (by rw [HZL.out]; omega))
    have KF := Lib.hid (show Keep b (.slice ao n cap) w (.slice ao2 zs.length cap2) (((((w2.setCell ⟨b, 0, none⟩ (.slice ao2 zs.length cap2)).setCell ⟨b, 1, none⟩ (.int .i64 zs.length)).setCell ⟨b, 2, none⟩ (.bool false)).setCell ⟨b, 3, none⟩ (.int .i64 0)).setCell ⟨b, 4, none⟩ (.bool false)) from
      (((((⟨(Touch.of_below (a := w) ⟨hb2.os, hb2.tape, hb2.output, hb2.size, hb2.block⟩), fun k hk => .inr (own_block ho hk)⟩ : Keep b (.slice ao n cap) w (.slice ao2 zs.length cap2) w2).set _).set _).set _).set _).set _)
    have HLZ := Lib.hid (show (⟨zs, zs.length, false, 0, false⟩ : St) = s.crash keep by rw [HE.out, ← HZ.out, HZL.out])
    have r1 : w2.cell? ⟨b, 1, none⟩ = some (.int .i64 s.last) := (heap_cell q2).trans k1
    have r2 : w2.cell? ⟨b, 2, none⟩ = some (.bool s.armed) := (heap_cell q2).trans (H.out.cell 2)
    have r3 : w2.cell? ⟨b, 3, none⟩ = some (.int .i64 s.fuse) := (heap_cell q2).trans (H.out.cell 3)
    have r4 : w2.cell? ⟨b, 4, none⟩ = some (.bool s.down) := (heap_cell q2).trans (H.out.cell 4)
    have z1 : w2.frozen? ⟨b, 1, none⟩ = false := (World.frozen?_of_block q2).trans kf1
    have z2 : w2.frozen? ⟨b, 2, none⟩ = false := (World.frozen?_of_block q2).trans kf2
    have z3 : w2.frozen? ⟨b, 3, none⟩ = false := (World.frozen?_of_block q2).trans kf3
    have z4 : w2.frozen? ⟨b, 4, none⟩ = false := (World.frozen?_of_block q2).trans kf4
    clear q2 ho hb2 hne Q HR HZ HN HZL HB16 m1 m2 m3 m4 k0 k1 kf0 kf1 kf2 kf3 kf4 HE H hl1 hl2 hk1 hcn
    go_wp2
    go_end0
    exact ⟨_, rfl, HLZ.out ▸ HF.out, KF.out⟩

end Go.Proofs.YtllaahdbngjigaaDoor
