/-
  The store's methods: Write, Sync, Arm, Read, Len, Lasting, Down.
-/
import Derived.Test.YthfddgffanajaaaStore
namespace Go.Proofs.Ythfddgffanajaaa
open Go Go.RowKit
set_option linter.unusedVariables false
set_option linter.unusedSimpArgs false

/-- A call that may burn the fuse: what is left of the store, and is it done? -/
def St.wr (t : ByteArray) (s : St) : St × Int :=
  if s.down = true then (s, 14) else if 4096 < t.size then (s, 1) else if 4096 ≤ s.ws.length then (s, 7)
  else if s.armed = true then (if s.fuse = 0 then ({ s with down := true }, 14) else ({ s with fuse := s.fuse - 1, ws := s.ws ++ [t] }, 0))
  else ({ s with ws := s.ws ++ [t] }, 0)

theorem Keep.alloc {b : Nat} {v v1 : Value} {w w1 : World} (h : Keep b v w v1 w1) (o : Obj) : Keep b v w v1 (w1.alloc o) := ⟨h.touch.alloc o, h.row⟩
theorem Keep.set {b i : Nat} {v v1 : Value} {w w1 : World} (h : Keep b v w v1 w1) (u : Value) : Keep b v w v1 (w1.setCell ⟨b, i, none⟩ u) := ⟨h.touch.setCell (.inl (.inl rfl)) u, h.row⟩
theorem IsSt.alloc {w : World} {b : Nat} {v : Value} {s : St} (h : IsSt w b v s) (o : Obj) : IsSt (w.alloc o) b v s :=
  h.kept (S := fun _ => False) ((Touch.refl _ _).alloc o) id (fun _ _ => id)
/-- One cell of the struct is written. -/
theorem IsSt.one {w : World} {b i : Nat} {v u : Value} {s s' : St} (h : IsSt w b v s) (hw : s'.ws = s.ws) (hc : (s.cells v).setIfInBounds i u = s'.cells v) (f0 : 0 ≤ s'.fuse) (f1 : s'.fuse ≤ 9223372036854775807) (hl : s'.last ≤ s'.ws.length) : IsSt (w.setCell ⟨b, i, none⟩ u) b v s' :=
  h.put h.blk (by rw [hw]; exact h.row) h.ne hc f0 f1 (by rw [hw]; exact h.len) hl

theorem two_c1 (w : World) (x y : Obj) (u : Value) (e : Nat) (hx : x = .cells #[u] e) : ((w.alloc x).alloc y).cell? ⟨w.heap.size, 0, none⟩ = some u := by
  subst hx
  exact (heap_cell (Below.heap_alloc _ _ _ (by simp))).trans (by unfold World.cell?; rw [heap_alloc_new]; rfl)
theorem two_c2 (w : World) (x : Obj) (u : Value) (e : Nat) : ((w.alloc x).alloc (.cells #[u] e)).cell? ⟨w.heap.size + 1, 0, none⟩ = some u := by
  have h := heap_alloc_new (w.alloc x) (.cells #[u] e)
  rw [show (w.alloc x).heap.size = w.heap.size + 1 by simp] at h
  unfold World.cell?; rw [h]; rfl

theorem two_x1 (w : World) (y : Obj) (u : Value) (e : Nat) (n : Nat) (hn : n = w.heap.size) : ((w.alloc (.cells #[u] e)).alloc y).cell? ⟨n, 0, none⟩ = some u := by
  subst hn; exact two_c1 w _ y u e rfl
theorem two_x2 (w : World) (x : Obj) (u : Value) (e : Nat) {n : Nat} (hn : n = w.heap.size + 1) : ((w.alloc x).alloc (.cells #[u] e)).cell? ⟨n, 0, none⟩ = some u := by
  subst hn; exact two_c2 w x u e

set_option maxHeartbeats 2000000 in
theorem write_any (w : World) (b : Nat) (v : Value) (s : St) (t : ByteArray) (h : IsSt w b v s) :
    Calls Try.prog 12 #[.pointer (some ⟨b, 0, none⟩), .string t] w fun e w' => ∃ v', e = .returned (.int .i64 (s.wr t).2) ∧ IsSt w' b v' (s.wr t).1 ∧ Keep b v w v' w' := by
  have HV := Lib.hid h.row
  obtain ⟨ao, cap, e⟩ := own_shape h.row
  obtain ⟨n, hn⟩ : ∃ n, n = s.ws.length := ⟨_, rfl⟩
  rw [← hn] at e
  have HN := Lib.hid hn
  clear hn
  have H := Lib.hid h
  have hb := h.lt
  have k0 : w.cell? ⟨b, 0, none⟩ = some v := h.cell 0
  have k2 : w.cell? ⟨b, 2, none⟩ = some (.bool s.armed) := h.cell 2
  have k3 : w.cell? ⟨b, 3, none⟩ = some (.int .i64 s.fuse) := h.cell 3
  have k4 : w.cell? ⟨b, 4, none⟩ = some (.bool s.down) := h.cell 4
  have kf3 : w.frozen? ⟨b, 3, none⟩ = false := h.free 3
  have kf4 : w.frozen? ⟨b, 4, none⟩ = false := h.free 4
  have f0 := h.f0
  have F1 := Lib.hid h.f1
  have H2 := Lib.hid ((h.alloc (.cells #[.pointer (some ⟨b, 0, none⟩)] 25)).alloc (.cells #[.string t] 9))
  have K2 := Lib.hid (((Keep.refl b v w).alloc (.cells #[.pointer (some ⟨b, 0, none⟩)] 25)).alloc (.cells #[.string t] 9))
  have HNE := Lib.hid (fun k hk => own_lt h.row (k := k) hk)
  clear h HV
  cases hd : s.down with
  | true =>
    have HE := Lib.hid (show s.wr t = (s, 14) by unfold St.wr; rw [if_pos hd])
    rw [hd] at k4
    clear hd
    subst e
    go_enter Try.func12, Try.ntmps12
    go_wp2
    go_ret
    exact ⟨_, by rw [HE.out]; rfl, by rw [HE.out]; exact H2.out, K2.out⟩
  | false =>
    rw [hd] at k4
    by_cases h1 : 4096 < t.size
    · have HE := Lib.hid (show s.wr t = (s, 1) by unfold St.wr; rw [if_neg (by simp [hd]), if_pos h1])
      have d1 : decide ((4096 : Int) < (t.size : Int)) = true := by simp; omega
      clear hd h1
      subst e
      go_enter Try.func12, Try.ntmps12
      go_wp2
      go_ret
      exact ⟨_, by rw [HE.out]; rfl, by rw [HE.out]; exact H2.out, K2.out⟩
    · have d1 : decide ((4096 : Int) < (t.size : Int)) = false := by simp; omega
      by_cases h2 : 4096 ≤ n
      · have HE := Lib.hid (show s.wr t = (s, 7) by unfold St.wr; rw [if_neg (by simp [hd]), if_neg h1, if_pos (by rw [← HN.out]; exact h2)])
        have d2 : decide ((4096 : Int) ≤ (n : Int)) = true := by simp; omega
        clear hd h1
        subst e
        go_enter Try.func12, Try.ntmps12
        go_wp2
        go_ret
        exact ⟨_, by rw [HE.out]; rfl, by rw [HE.out]; exact H2.out, K2.out⟩
      · have d2 : decide ((4096 : Int) ≤ (n : Int)) = false := by simp; omega
        cases ha : s.armed with
        | true =>
          rw [ha] at k2
          by_cases hf : s.fuse = 0
          · have HE := Lib.hid (show s.wr t = ({ s with down := true }, 14) by unfold St.wr; rw [if_neg (by simp [hd]), if_neg h1, if_neg (by rw [← HN.out]; exact h2), if_pos ha, if_pos hf])
            have d3 : (s.fuse == 0) = true := by simpa using hf
            have HF := Lib.hid (((show IsSt (w.setCell ⟨b, 4, none⟩ (.bool true)) b v { s with down := true } from H.out.one rfl rfl f0 F1.out H.out.last).alloc (.cells #[.pointer (some ⟨b, 0, none⟩)] 25)).alloc (.cells #[.string t] 9))
            have KF := Lib.hid ((((Keep.refl b v w).set (i := 4) (.bool true)).alloc (.cells #[.pointer (some ⟨b, 0, none⟩)] 25)).alloc (.cells #[.string t] 9))
            clear hd h1 ha hf H2 K2
            subst e
            go_enter Try.func12, Try.ntmps12
            go_wp2_with (go_at_call 25; go_in)
            go_ret
            exact ⟨_, by rw [HE.out]; rfl, by rw [HE.out]; exact HF.out, KF.out⟩
          · have HE := Lib.hid (show s.wr t = ({ s with fuse := s.fuse - 1, ws := s.ws ++ [t] }, 0) by unfold St.wr; rw [if_neg (by simp [hd]), if_neg h1, if_neg (by rw [← HN.out]; exact h2), if_pos ha, if_neg hf])
            have d3 : (s.fuse == 0) = false := by simpa using hf
            have m1 : wrap64 (s.fuse - 1) = s.fuse - 1 := IntWalk.wrap64_in _ (by have := F1.out; omega)
            have HF := Lib.hid (((show IsSt (w.setCell ⟨b, 3, none⟩ (.int .i64 (s.fuse - 1))) b v { s with fuse := s.fuse - 1 } from H.out.one rfl rfl (show 0 ≤ s.fuse - 1 by omega) (show s.fuse - 1 ≤ _ by have := F1.out; omega) H.out.last).alloc (.cells #[.pointer (some ⟨b, 0, none⟩)] 25)).alloc (.cells #[.string t] 9))
            have KF := Lib.hid ((((Keep.refl b v w).set (i := 3) (.int .i64 (s.fuse - 1))).alloc (.cells #[.pointer (some ⟨b, 0, none⟩)] 25)).alloc (.cells #[.string t] 9))
            have HL := Lib.hid (show s.ws.length < 4096 by rw [← HN.out]; omega)
            clear hd h1 ha hf H2 K2
            subst e
            go_enter Try.func12, Try.ntmps12
            go_wp2_with (go_at_call 25; go_in)
            refine (write1_any _ b _ _ _ _ t HF.out (two_x1 _ _ _ _ _ (by simp)) (two_x2 _ _ _ _ (by simp)) HL.out (fun e => by have := HNE.out _ e; omega)).mono ?_
            rintro e w5 ⟨v5, rfl, h5, k5⟩
            have H5 := Lib.hid h5
            clear h5
            go_wp2
            go_ret
            exact ⟨v5, by rw [HE.out]; rfl, by rw [HE.out]; exact H5.out, KF.out.trans k5⟩
        | false =>
          rw [ha] at k2
          have HE := Lib.hid (show s.wr t = ({ s with ws := s.ws ++ [t] }, 0) by unfold St.wr; rw [if_neg (by simp [hd]), if_neg h1, if_neg (by rw [← HN.out]; exact h2), if_neg (by simp [ha])])
          have HL := Lib.hid (show s.ws.length < 4096 by rw [← HN.out]; omega)
          clear hd h1 ha
          subst e
          go_enter Try.func12, Try.ntmps12
          go_wp2_with (go_at_call 25; go_in)
          refine (write1_any _ b _ _ _ _ t H2.out (two_x1 _ _ _ _ _ (by simp)) (two_x2 _ _ _ _ (by simp)) HL.out (fun e => by have := HNE.out _ e; omega)).mono ?_
          rintro e w5 ⟨v5, rfl, h5, k5⟩
          have H5 := Lib.hid h5
          clear h5
          go_wp2
          go_ret
          exact ⟨v5, by rw [HE.out]; rfl, by rw [HE.out]; exact H5.out, K2.out.trans k5⟩
end Go.Proofs.Ythfddgffanajaaa
