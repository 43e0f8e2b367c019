/-
  The document's store: a struct that is passed by value.
-/
import Derived.Test.YthfddgffanajaaaStoreLaw
import Derived.Test.YthfddgffanajaaaArgS
import Derived.Laws.AppendOwnNone
namespace Go.Proofs.Ythfddgffanajaaa
open Go Go.RowKit
set_option linter.unusedVariables false
set_option linter.unusedSimpArgs false

def St.fu (s : St) : Int := if s.armed = true then s.fuse else -1
structure St.Ok (s : St) : Prop where
  f0 : 0 ≤ s.fuse
  f1 : s.fuse ≤ 9223372036854775807
  len : s.ws.length ≤ 4096
  last : s.last ≤ s.ws.length
theorem IsSt.ok {w : World} {b : Nat} {v : Value} {s : St} (h : IsSt w b v s) : s.Ok := ⟨h.f0, h.f1, h.len, h.last⟩

/-- The document's store as a value; its texts lie in the slice. -/
def rfv (a : Option Addr) (n c : Nat) (m f : Int) (d : Bool) : Value := .agg #[.slice a n c, .int .i64 m, .int .i64 f, .bool d]
def sblk : Option Value → Option Nat
  | some (Value.slice (some a) n _) => if n = 0 then none else some a.block
  | _ => none
def rblk : Value → Option Nat
  | .agg xs => sblk xs[0]?
  | _ => none
def IsRf (w : World) (m : Value) (s : St) : Prop := ∃ a c, m = rfv a s.ws.length c s.last s.fu s.down ∧ Strs w (.slice a s.ws.length c) s.ws
theorem rblk_rfv (a : Addr) (n c : Nat) (m f : Int) (d : Bool) (hn : n ≠ 0) : rblk (rfv (some a) n c m f d) = some a.block := by
  show (if n = 0 then none else some a.block) = _; rw [if_neg hn]
theorem rblk_some {a : Option Addr} {n c : Nat} {m f : Int} {d : Bool} {k : Nat} (h : rblk (rfv a n c m f d) = some k) : n ≠ 0 ∧ ∃ x, a = some x ∧ x.block = k := by
  cases a with
  | none => cases h
  | some x =>
    have h' : (if n = 0 then none else some x.block) = some k := h
    split at h'
    · cases h'
    · rename_i hn; cases h'; exact ⟨hn, x, rfl, rfl⟩
theorem IsRf.touch {S : Nat → Prop} {w w' : World} {m : Value} {s : St} (h : IsRf w m s) (ht : Touch S w w') (hn : ∀ k, rblk m = some k → ¬ S k) : IsRf w' m s := by
  obtain ⟨a, c, rfl, h1⟩ := h
  exact ⟨a, c, rfl, row_touch h1 ht fun x cap e hne => hn _ (by cases e; exact rblk_rfv _ _ _ _ _ _ (fun e => hne (by rw [List.map_eq_nil_iff]; exact List.eq_nil_of_length_eq_zero e)))⟩
theorem IsRf.lt {w : World} {m : Value} {s : St} (h : IsRf w m s) {k : Nat} (hk : rblk m = some k) : k < w.heap.size := by
  obtain ⟨a, c, rfl, h1⟩ := h
  obtain ⟨hn, x, rfl, rfl⟩ := rblk_some hk
  obtain ⟨b, off, cap, e, _, _, hb, _⟩ := h1.at (by omega)
  cases e; exact hb
theorem IsRf.below {w w' : World} {m : Value} {s : St} (h : IsRf w m s) (hb : Below w.heap.size w w') : IsRf w' m s := by
  obtain ⟨a, c, rfl, h1⟩ := h
  exact ⟨a, c, rfl, h1.below hb⟩
/-- The slice's block is the same, or a new one. -/
def Rk (w : World) (m m' : Value) : Prop := ∀ k, rblk m' = some k → rblk m = some k ∨ w.heap.size ≤ k
theorem Rk.refl (w : World) (m : Value) : Rk w m m := fun _ h => .inl h
/-- The same slice. -/
theorem Rk.same {w : World} {a : Option Addr} {n c n' c' : Nat} {m f m' f' : Int} {d d' : Bool} (hn : n' ≤ n) : Rk w (rfv a n c m f d) (rfv a n' c' m' f' d') := fun k h => by
  obtain ⟨h1, x, rfl, rfl⟩ := rblk_some h
  exact .inl (rblk_rfv _ _ _ _ _ _ (by omega))

theorem rnew_any (w : World) : Calls Try.prog 19 #[] w fun e w' => e = .returned (rfv none 0 0 0 (-1) false) ∧ Below w.heap.size w w' := by
  go_enter Try.func19, Try.ntmps19
  go_wp2
  refine bodyPost_ret (v := rfv none 0 0 0 (-1) false) (by simp [results, Try.results19, go_sem, rfv]) rfl ⟨rfl, ?_⟩
  exact (Below.refl _ _).alloc (Nat.le_refl _) _
theorem IsRf.new (w : World) : IsRf w (rfv none 0 0 0 (-1) false) St.new := ⟨none, 0, rfl, Row.nil w 1⟩

theorem two_new (w : World) (x y : Obj) : Below w.heap.size w ((w.alloc x).alloc y) := ((Below.refl _ _).alloc (Nat.le_refl _) _).alloc (by simp) _
theorem rcall0 (w : World) (a : Option Addr) (n c : Nat) (m : Int) (d : Bool) :
    Calls Try.prog 34 #[rfv a n c m 0 d] w fun e w' => e = .returned (.tuple #[rfv a n c m 0 true, .bool false]) ∧ Below w.heap.size w w' := by
  unfold rfv
  go_enter Try.func34, Try.ntmps34
  go_wp2
  refine bodyPost_ret (v := .tuple #[.agg #[.slice a n c, .int .i64 m, .int .i64 0, .bool true], .bool false]) (by simp [results, Try.results34, go_sem]) rfl ⟨rfl, ?_⟩
  exact two_new _ _ _
theorem rcallp (w : World) (a : Option Addr) (n c : Nat) (m f : Int) (d : Bool) (h0 : 0 < f) (h1 : f ≤ 9223372036854775807) :
    Calls Try.prog 34 #[rfv a n c m f d] w fun e w' => e = .returned (.tuple #[rfv a n c m (f - 1) d, .bool true]) ∧ Below w.heap.size w w' := by
  have g1 : (f == 0) = false := by simp; omega
  have g2 : decide (0 < f) = true := by simp; omega
  have m1 : IntKind.i64.wrap (f - 1) = f - 1 := IntWalk.i64_in _ (by omega)
  unfold rfv
  go_enter Try.func34, Try.ntmps34
  go_wp2
  refine bodyPost_ret (v := .tuple #[.agg #[.slice a n c, .int .i64 m, .int .i64 (f - 1), .bool d], .bool true]) (by simp [results, Try.results34, go_sem]) rfl ⟨rfl, ?_⟩
  exact two_new _ _ _
theorem rcalln (w : World) (a : Option Addr) (n c : Nat) (m : Int) (d : Bool) :
    Calls Try.prog 34 #[rfv a n c m (-1) d] w fun e w' => e = .returned (.tuple #[rfv a n c m (-1) d, .bool true]) ∧ Below w.heap.size w w' := by
  unfold rfv
  go_enter Try.func34, Try.ntmps34
  go_wp2
  refine bodyPost_ret (v := .tuple #[.agg #[.slice a n c, .int .i64 m, .int .i64 (-1), .bool d], .bool true]) (by simp [results, Try.results34, go_sem]) rfl ⟨rfl, ?_⟩
  exact two_new _ _ _
/-- What a call does to the fuse: (fuse, done). -/
theorem rcall_done (w : World) (a : Option Addr) (n c : Nat) (m : Int) (s : St) (d : Bool) (h : s.Ok) (hz : ¬ (s.armed = true ∧ s.fuse = 0)) :
    Calls Try.prog 34 #[rfv a n c m s.fu d] w fun e w' => e = .returned (.tuple #[rfv a n c m (St.fu { s with fuse := s.fuse - 1 }) d, .bool true]) ∧ Below w.heap.size w w' := by
  by_cases ha : s.armed = true
  · rw [show s.fu = s.fuse from if_pos ha, show St.fu { s with fuse := s.fuse - 1 } = s.fuse - 1 from if_pos ha]
    exact rcallp w a n c m _ d (by have := h.f0; have : s.fuse ≠ 0 := fun e => hz ⟨ha, e⟩; omega) h.f1
  · rw [show s.fu = -1 from if_neg ha, show St.fu { s with fuse := s.fuse - 1 } = -1 from if_neg ha]
    exact rcalln w a n c m d

theorem rarm_any (w : World) (a : Option Addr) (l c : Nat) (m : Int) (s : St) (n : Int) :
    Calls Try.prog 32 #[rfv a l c m s.fu s.down, .int .i64 n] w fun e w' => e = .returned (rfv a l c m (s.arm n).fu (s.arm n).down) ∧ Below w.heap.size w w' := by
  rw [show (s.arm n).down = s.down from rfl]
  generalize s.down = d
  generalize s.fu = f
  by_cases hn : n < 0
  · rw [show (s.arm n).fu = -1 by simp [St.fu, St.arm]; omega]
    have g1 : decide (n < 0) = true := by simpa using hn
    unfold rfv
    go_enter Try.func32, Try.ntmps32
    go_wp2
    refine bodyPost_ret (v := .agg #[.slice a l c, .int .i64 m, .int .i64 (-1), .bool d]) (by simp [results, Try.results32, go_sem]) rfl ⟨rfl, ?_⟩
    exact two_new _ _ _
  · rw [show (s.arm n).fu = n by simp [St.fu, St.arm]; omega]
    have g1 : decide (n < 0) = false := by simpa using hn
    unfold rfv
    go_enter Try.func32, Try.ntmps32
    go_wp2
    refine bodyPost_ret (v := .agg #[.slice a l c, .int .i64 m, .int .i64 n, .bool d]) (by simp [results, Try.results32, go_sem]) rfl ⟨rfl, ?_⟩
    exact two_new _ _ _
end Go.Proofs.Ythfddgffanajaaa
