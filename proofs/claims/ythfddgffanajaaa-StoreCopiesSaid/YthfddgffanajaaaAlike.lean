/-
  Few, and alike.
-/
import Derived.Test.YthfddgffanajaaaOps
namespace Go.Proofs.Ythfddgffanajaaa
open Go Go.RowKit Go.Deep
set_option linter.unusedVariables false
set_option linter.unusedSimpArgs false

def SomeBool (w : World) (e : Ending) (w' : World) : Prop := ∃ x : Bool, e = .returned (.bool x) ∧ w = w'

set_option maxHeartbeats 1000000 in
theorem few_any (w : World) (v : Value) (l : List OpV) (h : Ops w v l) :
    Calls Try.prog 18 #[v] w (SomeBool w) := by
  obtain ⟨ao, cap, e, k1, k2, k3⟩ := h.shape
  obtain ⟨n, HN⟩ : ∃ n, Hid (n = l.length) := ⟨_, rfl⟩
  rw [← HN.out] at e k1
  unfold maxLen at k2
  have H := Lib.hid h
  clear h
  subst e
  go_enter Try.func18, Try.ntmps18
  go_wp2
  go_loop [3] (fun i => ∃ k : Nat, k ≤ n ∧ i = .int .i64 k) (fun i => n - (intOf i).toNat)
  case atStart => exact ⟨0, Nat.zero_le _, rfl⟩
  case round =>
    obtain ⟨k, hk, rfl⟩ := hrel
    by_cases hlt : k < n
    · obtain ⟨b, off, cap', e, _, _, hb, hc⟩ := H.out.at (by rw [← HN.out]; omega)
      obtain ⟨c0, c1, c2⟩ := hc k (by rw [← HN.out]; exact hlt)
      rw [← HN.out] at e
      cases e
      generalize l[k].t = t at c2
      clear hc c0 c1
      by_cases h60 : 60 < k
      · have g1 : decide ((60 : Int) < (k : Int)) = true := by simp; omega
        go_wp2
        go_ret
        exact ⟨_, rfl, rfl⟩
      · have g1 : decide ((60 : Int) < (k : Int)) = false := by simp; omega
        by_cases h200 : 200 < t.size
        · have g2 : decide ((200 : Int) < (t.size : Int)) = true := by simp; omega
          go_wp2
          go_ret
          exact ⟨_, rfl, rfl⟩
        · have g2 : decide ((200 : Int) < (t.size : Int)) = false := by simp; omega
          go_wp2
          go_round
          case rel => exact ⟨k + 1, by omega, by go_num⟩
          case measure => simp [intOf]; omega
    · go_wp2
      go_ret
      exact ⟨_, rfl, rfl⟩

theorem Both.below {w w' : World} {b : Nat} {v m : Value} {s : St} (h : Both w b v m s) (hb : Below w.heap.size w w') : Both w' b v m s := h.touch (Touch.of_below hb)
theorem Both.drewN {w : World} {b : Nat} {v m : Value} {s : St} (h : Both w b v m s) (n : Nat) : Both (w.drewN n) b v m s := h.touch ((Touch.refl _ _).drewN n)

set_option maxHeartbeats 2000000 in
theorem alike_any (w : World) (b : Nat) (v m : Value) (s : St) (h : Both w b v m s) :
    Calls Try.prog 21 #[.pointer (some ⟨b, 0, none⟩), m] w fun e w' => e = .returned (.bool true) ∧ Below w.heap.size w w' := by
  obtain ⟨a, c, e, _⟩ := h.rf
  have HLEN := Lib.hid (show s.ws.length ≤ 4096 from h.st.len)
  have H := Lib.hid h
  clear h
  subst e
  have HL := Lib.hid (fun (w1 : World) (n : Nat) (hr : IsSt w1 b v s) => show Calls Try.prog 16 #[.pointer (some ⟨b, 0, none⟩)] (w1.drewN n) fun e w' => e = .returned (.int .i64 s.ws.length) ∧ w' = w1.drewN n from
    (len_any _ b v s (hr.kept (S := fun _ => False) ((Touch.refl _ _).drewN n) id (fun _ _ => id))).mono (fun e w' h => ⟨h.1, h.2.symm⟩))
  have HA := Lib.hid (fun (w1 : World) (n : Nat) (hr : IsSt w1 b v s) => show Calls Try.prog 14 #[.pointer (some ⟨b, 0, none⟩)] (w1.drewN n) fun e w' => e = .returned (.int .i64 s.last) ∧ w' = w1.drewN n from
    (lasting_any _ b v s (hr.kept (S := fun _ => False) ((Touch.refl _ _).drewN n) id (fun _ _ => id))).mono (fun e w' h => ⟨h.1, h.2.symm⟩))
  have HD := Lib.hid (fun (w1 : World) (n : Nat) (hr : IsSt w1 b v s) => show Calls Try.prog 23 #[.pointer (some ⟨b, 0, none⟩)] (w1.drewN n) fun e w' => e = .returned (.bool s.down) ∧ w' = w1.drewN n from
    (down_any _ b v s (hr.kept (S := fun _ => False) ((Touch.refl _ _).drewN n) id (fun _ _ => id))).mono (fun e w' h => ⟨h.1, h.2.symm⟩))
  have HR := Lib.hid (fun (w1 : World) (N : Int) (hr : Both w1 b v (rfv a s.ws.length c s.last s.fu s.down) s) => show Calls Try.prog 33 #[rfv a s.ws.length c s.last s.fu s.down, .int .i64 N] w1 fun e w' => e = .returned (.tuple #[.string (s.rd N).1, .int .i64 (s.rd N).2]) ∧ Below w1.heap.size w1 w' from rread_any w1 _ s N hr.rf)
  have HS := Lib.hid (fun (w1 : World) (N : Int) (hr : Both w1 b v (rfv a s.ws.length c s.last s.fu s.down) s) => show Calls Try.prog 17 #[.pointer (some ⟨b, 0, none⟩), .int .i64 N] w1 fun e w' => e = .returned (.tuple #[.string (s.rd N).1, .int .i64 (s.rd N).2]) ∧ w1 = w' from read_any w1 b v s N hr.st)
  have H0 := Lib.hid (show Both (w.alloc (.cells #[.slice a s.ws.length c, .int .i64 s.last, .int .i64 s.fu, .bool s.down] 42)) b v _ s from H.out.touch ((Touch.refl _ _).alloc _))
  unfold rfv at *
  generalize (fun N => (s.rd N).1) = x at *
  generalize s.fu = f at *
  generalize s.down = d at *
  generalize s.last = l at *
  generalize s.ws.length = n at *
  have hn := HLEN.out
  go_enter Try.func21, Try.ntmps21
  go_wp2_with fail
  obtain ⟨wa, hwa⟩ : ∃ wa, Hid (wa = w.alloc (.cells #[.slice a n c, .int .i64 l, .int .i64 f, .bool d] 42)) := ⟨_, rfl⟩
  have q0 : wa.heap[w.heap.size]? = some (.cells #[.slice a n c, .int .i64 l, .int .i64 f, .bool d] 42 (0, 0)) := by rw [hwa.out]; exact heap_alloc_new _ _
  have c0 : wa.cell? ⟨w.heap.size, 0, none⟩ = some (.slice a n c) := by simp [World.cell?, q0]
  have c1 : wa.cell? ⟨w.heap.size, 1, none⟩ = some (.int .i64 l) := by simp [World.cell?, q0]
  have c2 : wa.cell? ⟨w.heap.size, 2, none⟩ = some (.int .i64 f) := by simp [World.cell?, q0]
  have c3 : wa.cell? ⟨w.heap.size, 3, none⟩ = some (.bool d) := by simp [World.cell?, q0]
  have Q0 := Lib.hid q0
  have hb1 : Below w.heap.size w wa := by rw [hwa.out]; exact (Below.refl _ _).alloc (Nat.le_refl _) _
  have HB1 := Lib.hid hb1
  rw [← hwa.out] at H0 ⊢
  clear q0 hb1 hwa
  go_quiet (first | (go_at_call 16; exact Calls.quiet_of_same (HL.out wa _ H0.out.st)) | (go_at_call 14; exact Calls.quiet_of_same (HA.out wa _ H0.out.st)) | (go_at_call 23; exact Calls.quiet_of_same (HD.out wa _ H0.out.st)))
  go_wp2_with fail
  clear c0 c1 c2 c3 HL HA HD
  go_loopw [5] (fun i wr => ∃ k : Nat, k ≤ n ∧ i = .int .i64 k ∧ Below wa.heap.size wa wr) (fun i _ => n - (intOf i).toNat)
  case atStart => exact ⟨0, Nat.zero_le _, rfl, below_drewN (Below.refl _ _) _⟩
  case round =>
    obtain ⟨k, hk, rfl, hbr⟩ := hrel
    have q1 := (hbr.block _ (lt_of_block Q0.out)).trans Q0.out
    have hB := H0.out.below hbr
    have HB := Lib.hid hB
    have HBR := Lib.hid hbr
    have c0 : wr.cell? ⟨w.heap.size, 0, none⟩ = some (.slice a n c) := by simp [World.cell?, q1]
    have c1 : wr.cell? ⟨w.heap.size, 1, none⟩ = some (.int .i64 l) := by simp [World.cell?, q1]
    have c2 : wr.cell? ⟨w.heap.size, 2, none⟩ = some (.int .i64 f) := by simp [World.cell?, q1]
    have c3 : wr.cell? ⟨w.heap.size, 3, none⟩ = some (.bool d) := by simp [World.cell?, q1]
    clear q1 hB hbr
    by_cases hlt : k < n
    · have HSk := Lib.hid (HS.out wr k HB.out)
      have HRk := Lib.hid (HR.out wr k HB.out)
      clear HS HR
      generalize (s.rd k).1 = x at HSk HRk
      generalize (s.rd k).2 = y at HSk HRk
      go_wp2_with fail
      refine HSk.out.mono ?_
      rintro e w1 ⟨rfl, rfl⟩
      go_wp2_with fail
      refine HRk.out.mono ?_
      rintro e w2 ⟨rfl, hb2⟩
      have HB2 := Lib.hid hb2
      clear hb2
      go_wp2
      go_roundw
      case rel => exact ⟨k + 1, by omega, by go_num, HBR.out.trans (HB2.out.mono HBR.out.size)⟩
      case measure => simp [intOf]; omega
    · go_wp2
      go_ret
      exact ⟨rfl, HB1.out.trans (HBR.out.mono HB1.out.size)⟩
end Go.Proofs.Ythfddgffanajaaa
