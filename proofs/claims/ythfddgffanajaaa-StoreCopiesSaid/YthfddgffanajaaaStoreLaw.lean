/-
  One store of the call's own: what the statements' walks ask; and the example.
-/
import Derived.Test.YthfddgffanajaaaStore4
namespace Go.Proofs.Ythfddgffanajaaa
open Go Go.RowKit
set_option linter.unusedVariables false
set_option linter.unusedSimpArgs false

/-- From W on the call has made one store, which lies in block b and is s. -/
def One (W w : World) (b : Nat) (s : St) : Prop := ∃ v, IsSt w b v s ∧ W.heap.size ≤ b ∧ (∀ k, v.ownBlock = some k → W.heap.size ≤ k) ∧ Below W.heap.size W w

theorem One.bel {W w : World} {b : Nat} {s : St} (h : One W w b s) : Below W.heap.size W w := let ⟨_, _, _, _, h⟩ := h; h
theorem One.keep {W w w' : World} {b : Nat} {v v' : Value} {s s' : St} (h1 : IsSt w b v s) (h2 : W.heap.size ≤ b) (h3 : ∀ k, v.ownBlock = some k → W.heap.size ≤ k) (h4 : Below W.heap.size W w) (h : IsSt w' b v' s') (k : Keep b v w v' w') : One W w' b s' :=
  ⟨v', h, h2, fun x hx => (k.row x hx).elim (h3 x) (fun e => Nat.le_trans h4.size e), h4.trans (k.touch.below h4.size (fun x hx => hx.elim (fun e => e ▸ h2) (h3 x)))⟩
theorem One.new {W : World} : Calls Try.prog 11 #[] W fun e w' => ∃ b, e = .returned (.pointer (some ⟨b, 0, none⟩)) ∧ One W w' b St.new :=
  (new_any W).mono fun e w' ⟨b, h1, h2, h3, h4⟩ => ⟨b, h1, _, h2, h3, (fun _ h => by cases h), h4⟩
/-- The store is made later than W. -/
theorem One.after {W0 W w : World} {b : Nat} {s : St} (h : One W w b s) (hb : Below W0.heap.size W0 W) : One W0 w b s := by
  obtain ⟨v, h1, h2, h3, h4⟩ := h
  exact ⟨v, h1, Nat.le_trans hb.size h2, fun k hk => Nat.le_trans hb.size (h3 k hk), hb.trans (h4.mono hb.size)⟩
theorem One.drewN {W w : World} {b : Nat} {s : St} (h : One W w b s) (n : Nat) : One W (w.drewN n) b s := by
  obtain ⟨v, h1, h2, h3, h4⟩ := h
  exact ⟨v, h1.kept (S := fun _ => False) ((Touch.refl _ _).drewN n) id (fun _ _ => id), h2, h3, below_drewN h4 n⟩

section
variable {W w : World} {b : Nat} {s : St}
theorem o_write (t : ByteArray) (h : One W w b s) : Calls Try.prog 12 #[.pointer (some ⟨b, 0, none⟩), .string t] w fun e w' => e = .returned (.int .i64 (s.wr t).2) ∧ One W w' b (s.wr t).1 := by
  obtain ⟨v, h1, h2, h3, h4⟩ := h
  exact (write_any w b v s t h1).mono fun e w' ⟨v', a, b, c⟩ => ⟨a, One.keep h1 h2 h3 h4 b c⟩
theorem o_sync (h : One W w b s) : Calls Try.prog 13 #[.pointer (some ⟨b, 0, none⟩)] w fun e w' => e = .returned (.int .i64 s.sy.2) ∧ One W w' b s.sy.1 := by
  obtain ⟨v, h1, h2, h3, h4⟩ := h
  exact (sync_any w b v s h1).mono fun e w' ⟨a, b, c⟩ => ⟨a, One.keep h1 h2 h3 h4 b c⟩
theorem o_crash (n : Int) (h : One W w b s) : Calls Try.prog 15 #[.pointer (some ⟨b, 0, none⟩), .int .i64 n] w fun e w' => e = .returned (.tuple #[]) ∧ One W w' b (s.crash n) := by
  obtain ⟨v, h1, h2, h3, h4⟩ := h
  exact (crash_any w b v s n h1).mono fun e w' ⟨v', a, b, c⟩ => ⟨a, One.keep h1 h2 h3 h4 b c⟩
theorem o_arm (n : Int) (hn : n ≤ 9223372036854775807) (h : One W w b s) : Calls Try.prog 22 #[.pointer (some ⟨b, 0, none⟩), .int .i64 n] w fun e w' => e = .returned (.tuple #[]) ∧ One W w' b (s.arm n) := by
  obtain ⟨v, h1, h2, h3, h4⟩ := h
  exact (arm_any w b v s n h1 hn).mono fun e w' ⟨a, b, c⟩ => ⟨a, One.keep h1 h2 h3 h4 b c⟩
theorem o_read (i : Int) (h : One W w b s) : Calls Try.prog 17 #[.pointer (some ⟨b, 0, none⟩), .int .i64 i] w fun e w' => e = .returned (rdV (s.rd i)) ∧ w = w' := by
  obtain ⟨v, h1, h2, h3, h4⟩ := h
  exact read_any w b v s i h1
theorem o_len (h : One W w b s) : Calls Try.prog 16 #[.pointer (some ⟨b, 0, none⟩)] w fun e w' => e = .returned (.int .i64 s.ws.length) ∧ w = w' := by
  obtain ⟨v, h1, h2, h3, h4⟩ := h
  exact len_any w b v s h1
theorem o_last (h : One W w b s) : Calls Try.prog 14 #[.pointer (some ⟨b, 0, none⟩)] w fun e w' => e = .returned (.int .i64 s.last) ∧ w = w' := by
  obtain ⟨v, h1, h2, h3, h4⟩ := h
  exact lasting_any w b v s h1
theorem o_down (h : One W w b s) : Calls Try.prog 23 #[.pointer (some ⟨b, 0, none⟩)] w fun e w' => e = .returned (.bool s.down) ∧ w = w' := by
  obtain ⟨v, h1, h2, h3, h4⟩ := h
  exact down_any w b v s h1
end

def sA : ByteArray := ⟨#[97]⟩
def sB : ByteArray := ⟨#[98]⟩
def sC : ByteArray := ⟨#[99]⟩

set_option maxHeartbeats 1000000 in
theorem awake_any (w : World) :
    Calls Try.prog 10 #[] w fun e w' => e = .returned (.bool true) ∧ Below w.heap.size w w' := by
  have H1 := Lib.hid (fun b w' (h : One w w' b St.new) => show Calls _ _ #[.pointer (some ⟨b, 0, none⟩), .string ⟨#[97]⟩] w' fun e w'' => e = .returned (.int .i64 0) ∧ One w w'' b ⟨[sA], 0, false, 0, false⟩ from o_write sA h)
  have H2 := Lib.hid (fun b w' (h : One w w' b ⟨[sA], 0, false, 0, false⟩) => show Calls _ _ #[.pointer (some ⟨b, 0, none⟩)] w' fun e w'' => e = .returned (.int .i64 0) ∧ One w w'' b ⟨[sA], 1, false, 0, false⟩ from o_sync h)
  have H3 := Lib.hid (fun b w' (h : One w w' b ⟨[sA], 1, false, 0, false⟩) => show Calls _ _ #[.pointer (some ⟨b, 0, none⟩), .string ⟨#[98]⟩] w' fun e w'' => e = .returned (.int .i64 0) ∧ One w w'' b ⟨[sA, sB], 1, false, 0, false⟩ from o_write sB h)
  have H4 := Lib.hid (fun b w' (h : One w w' b ⟨[sA, sB], 1, false, 0, false⟩) => show Calls _ _ #[.pointer (some ⟨b, 0, none⟩), .string ⟨#[99]⟩] w' fun e w'' => e = .returned (.int .i64 0) ∧ One w w'' b ⟨[sA, sB, sC], 1, false, 0, false⟩ from o_write sC h)
  have H5 := Lib.hid (fun b w' (h : One w w' b ⟨[sA, sB, sC], 1, false, 0, false⟩) => show Calls _ _ #[.pointer (some ⟨b, 0, none⟩), .int .i64 1] w' fun e w'' => e = .returned (.tuple #[]) ∧ One w w'' b ⟨[sA, sB], 2, false, 0, false⟩ from o_crash 1 h)
  have H6 := Lib.hid (fun b w' (h : One w w' b ⟨[sA, sB], 2, false, 0, false⟩) => show Calls _ _ #[.pointer (some ⟨b, 0, none⟩), .int .i64 1] w' fun e w'' => e = .returned (.tuple #[.string ⟨#[98]⟩, .int .i64 0]) ∧ w' = w'' from o_read 1 h)
  have H7 := Lib.hid (fun b w' (h : One w w' b ⟨[sA, sB], 2, false, 0, false⟩) => show Calls _ _ #[.pointer (some ⟨b, 0, none⟩)] w' fun e w'' => e = .returned (.int .i64 2) ∧ w' = w'' from o_len h)
  have H8 := Lib.hid (fun b w' (h : One w w' b ⟨[sA, sB], 2, false, 0, false⟩) => show Calls _ _ #[.pointer (some ⟨b, 0, none⟩)] w' fun e w'' => e = .returned (.int .i64 2) ∧ w' = w'' from o_last h)
  go_enter Try.func10, Try.ntmps10
  go_wp2_with fail
  refine One.new.mono ?_
  rintro e w1 ⟨b, rfl, h1⟩
  go_wp2_with fail
  refine (H1.out _ _ h1).mono ?_
  rintro e w2 ⟨rfl, h2⟩
  go_wp2_with fail
  refine (H2.out _ _ h2).mono ?_
  rintro e w3 ⟨rfl, h3⟩
  go_wp2_with fail
  refine (H3.out _ _ h3).mono ?_
  rintro e w4 ⟨rfl, h4⟩
  go_wp2_with fail
  refine (H4.out _ _ h4).mono ?_
  rintro e w5 ⟨rfl, h5⟩
  go_wp2_with fail
  refine (H5.out _ _ h5).mono ?_
  rintro e w6 ⟨rfl, h6⟩
  go_wp2_with fail
  refine (H6.out _ _ h6).mono ?_
  rintro e w7 ⟨rfl, rfl⟩
  go_wp2_with fail
  refine (H7.out _ _ h6).mono ?_
  rintro e w7 ⟨rfl, rfl⟩
  go_wp2_with fail
  refine (H8.out _ _ h6).mono ?_
  rintro e w7 ⟨rfl, rfl⟩
  go_wp2
  go_ret
  exact ⟨rfl, h6.bel⟩

theorem bt {W w w' : World} (h1 : Below W.heap.size W w) (h2 : Below w.heap.size w w') : Below W.heap.size W w' := h1.trans (h2.mono h1.size)
theorem take_snoc {α : Type} (l : List α) (k : Nat) (h : k < l.length) : l.take (k + 1) = l.take k ++ [l[k]] := by
  rw [List.take_succ_eq_append_getElem h]
theorem wr_ok {ws : List ByteArray} {m : Nat} {t : ByteArray} (ht : t.size ≤ 4096) (hl : ws.length < 4096) : (⟨ws, m, false, 0, false⟩ : St).wr t = (⟨ws ++ [t], m, false, 0, false⟩, 0) := by
  unfold St.wr; rw [if_neg (by simp), if_neg (by omega), if_neg (by simp; omega), if_neg (by simp)]
theorem sy_ok {ws : List ByteArray} {m : Nat} : (⟨ws, m, false, 0, false⟩ : St).sy = (⟨ws, ws.length, false, 0, false⟩, 0) := by
  unfold St.sy; rw [if_neg (by simp), if_neg (by simp)]
end Go.Proofs.Ythfddgffanajaaa
