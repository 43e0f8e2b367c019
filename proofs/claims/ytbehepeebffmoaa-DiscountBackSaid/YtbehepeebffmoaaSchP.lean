/-
  What is paid back, and what interest, at each of any payments: plain; and the closure of discount.Schedule.
-/
import Derived.Test.YtbehepeebffmoaaDisc
import Derived.Test.YtbehepeebffmoaaEven
import Derived.Test.YtbehepeebffmoaaRefSplit
import Derived.Test.YtbehepeebffmoaaAppRow
namespace Go.Proofs.Ytbehepeebffmoaa
open Go Go.RowKit
set_option linter.unusedVariables false
set_option linter.unusedSimpArgs false

/-- A sum shared evenly. -/
def evenL (T n : Nat) : List Nat := outL T (ones n) (List.range n) (leftL T (ones n))
theorem even_is (T n : Nat) : IsSplit T (ones n) (evenL T n) := by
  refine ⟨List.range n, by rw [ones_len], ?_, rfl⟩
  refine List.Pairwise.imp_of_mem ?_ List.pairwise_lt_range
  intro a b ha hb hab
  right
  refine ⟨?_, hab⟩
  have h1 := List.mem_range.1 ha
  have h2 := List.mem_range.1 hb
  simp [keyL, ones_rts, h1, h2]
theorem even_len (T n : Nat) : (evenL T n).length = n := by rw [(even_is T n).len, ones_len]
theorem even_sum (T n : Nat) (h : 1 ≤ n) : (evenL T n).sum = T := split_sum (even_is T n) (fun _ => by rw [ones_sum]; omega)
/-- What is left ahead of the k-th payment. -/
def rst (S : Int) (out : List Nat) (k : Nat) : Int := S - ((out.take k).sum : Nat)
def okK (S N D T B : Int) (out : List Nat) (k : Nat) : Bool := (intP (rst S out k) N D T B).2.2
def nearK (S N D T B : Int) (out : List Nat) (k : Nat) : Nat := nearN (intP (rst S out k) N D T B).1.toNat (intP (rst S out k) N D T B).2.1.toNat
def nears (S N D T B : Int) (out : List Nat) : List Nat := (List.range out.length).map (nearK S N D T B out)
theorem nears_len (S N D T B : Int) (out : List Nat) : (nears S N D T B out).length = out.length := by simp [nears]
theorem nears_get {S N D T B : Int} {out : List Nat} {k : Nat} (h : k < out.length) : (nears S N D T B out)[k]? = some (nearK S N D T B out k) := by simp [nears, h]
def schV (S N D T B n : Int) : Prop := 1 ≤ n ∧ n ≤ 4096 ∧ 0 ≤ S ∧ S ≤ 1099511627776 ∧ ∀ k : Nat, k < n.toNat → okK S N D T B (evenL S.toNat n.toNat) k = true
theorem take_sum_next {out : List Nat} {k x : Nat} (hx : out[k]? = some x) : (out.take (k + 1)).sum = (out.take k).sum + x := by
  obtain ⟨h1, h2⟩ := List.getElem?_eq_some_iff.1 hx
  rw [List.take_succ_eq_append_getElem h1, h2, List.sum_append]; simp
theorem rst_next {S : Int} {out : List Nat} {k x : Nat} (hx : out[k]? = some x) : rst S out (k + 1) = rst S out k - (x : Int) := by
  unfold rst; rw [take_sum_next hx]; omega
theorem take_le (out : List Nat) (k : Nat) : (out.take k).sum ≤ out.sum := by
  have h : out.sum = (out.take k).sum + (out.drop k).sum := by rw [← List.sum_append, List.take_append_drop]
  omega
theorem rst_bd {S : Nat} {out : List Nat} (hs : out.sum = S) {k x : Nat} (hx : out[k]? = some x) : 0 ≤ rst S out k ∧ rst S out k ≤ S ∧ (x : Int) ≤ rst S out k := by
  have h1 := take_le out (k + 1)
  have h2 := take_sum_next hx
  unfold rst
  omega

/-- What Schedule tells. -/
def SchPost (S N D T B n : Int) (w : World) (e : Ending) (w' : World) : Prop := Below w.heap.size w w' ∧
  ((¬ schV S N D T B n ∧ e = .returned (.tuple #[.slice none 0 0, .slice none 0 0, .bool false])) ∨
   (schV S N D T B n ∧ ∃ u v, e = .returned (.tuple #[u, v, .bool true]) ∧ Ints w' u (natI (evenL S.toNat n.toNat)) ∧ Ints w' v (natI (nears S N D T B (evenL S.toNat n.toNat)))))

/-- What the closure of Schedule captures. -/
structure Env (br bp bd bb : Nat) (w : World) (R N D T B : Int) : Prop where
  r : w.cell? ⟨br, 0, none⟩ = some (.int .i64 R)
  rf : w.frozen? ⟨br, 0, none⟩ = false
  p1 : w.cell? ⟨bp, 0, none⟩ = some (.int .i64 N)
  p2 : w.cell? ⟨bp, 1, none⟩ = some (.int .i64 D)
  d : w.cell? ⟨bd, 0, none⟩ = some (.int .i64 T)
  e : w.cell? ⟨bb, 0, none⟩ = some (.int .i64 B)
  np : ¬ br = bp
  nd : ¬ br = bd
  nb : ¬ br = bb
theorem Env.lt {br bp bd bb : Nat} {w : World} {R N D T B : Int} (h : Env br bp bd bb w R N D T B) : br < w.heap.size ∧ bp < w.heap.size ∧ bd < w.heap.size ∧ bb < w.heap.size :=
  ⟨World.block_lt_of_cell? _ _ h.r, World.block_lt_of_cell? _ _ h.p1, World.block_lt_of_cell? _ _ h.d, World.block_lt_of_cell? _ _ h.e⟩
theorem Env.below {br bp bd bb : Nat} {w w' : World} {R N D T B : Int} (h : Env br bp bd bb w R N D T B) (hb : Below w.heap.size w w') : Env br bp bd bb w' R N D T B :=
  ⟨cell_later hb h.r, by rw [hb.frozen (p := ⟨br, 0, none⟩) h.lt.1]; exact h.rf, cell_later hb h.p1, cell_later hb h.p2, cell_later hb h.d, cell_later hb h.e, h.np, h.nd, h.nb⟩
theorem Env.set {br bp bd bb : Nat} {w : World} {R N D T B : Int} (h : Env br bp bd bb w R N D T B) (R' : Int) : Env br bp bd bb (w.setCell ⟨br, 0, none⟩ (.int .i64 R')) R' N D T B := by
  obtain ⟨r, rf, p1, p2, d, e, np, nd, nb⟩ := h
  have np' : ¬ bp = br := fun h => np h.symm
  have nd' : ¬ bd = br := fun h => nd h.symm
  have nb' : ¬ bb = br := fun h => nb h.symm
  exact ⟨by simp [go_sem, r, rf], by simp [go_sem, r, rf], by simp [go_sem, p1, np, np'], by simp [go_sem, p2, np, np'], by simp [go_sem, d, nd, nd'], by simp [go_sem, e, nb, nb'], np, nd, nb⟩
theorem Env.other {br bp bd bb b : Nat} {w : World} {R N D T B : Int} (h : Env br bp bd bb w R N D T B) (h1 : ¬ br = b) (h2 : ¬ bp = b) (h3 : ¬ bd = b) (h4 : ¬ bb = b) (i : Nat) (u : Value) : Env br bp bd bb (w.setCell ⟨b, i, none⟩ u) R N D T B := by
  obtain ⟨r, rf, p1, p2, d, e, np, nd, nb⟩ := h
  have g1 : ¬ b = br := fun h => h1 h.symm
  have g2 : ¬ b = bp := fun h => h2 h.symm
  have g3 : ¬ b = bd := fun h => h3 h.symm
  have g4 : ¬ b = bb := fun h => h4 h.symm
  exact ⟨by simp [go_sem, r, h1, g1], by simp [go_sem, rf, h1, g1], by simp [go_sem, p1, h2, g2], by simp [go_sem, p2, h2, g2], by simp [go_sem, d, h3, g3], by simp [go_sem, e, h4, g4], np, nd, nb⟩

theorem bta' {W w w' : World} {o : Obj} (h1 : Below W.heap.size W w) (h2 : Below (w.alloc o).heap.size (w.alloc o) w') : Below W.heap.size W w' := btd (h1.alloc h1.size _) h2

set_option maxHeartbeats 2000000 in
theorem next_no (br bp bd bb : Nat) (R N D T B p q x : Int) (w : World) (hE : Env br bp bd bb w R N D T B) (hi : intP R N D T B = (p, q, false)) :
    Calls Try.prog 41 #[.int .i64 x, .pointer (some ⟨br, 0, none⟩), .pointer (some ⟨bp, 0, none⟩), .pointer (some ⟨bd, 0, none⟩), .pointer (some ⟨bb, 0, none⟩)] w fun e w' =>
      e = .returned (.tuple #[.int .i64 0, .bool false]) ∧ Below w.heap.size w w' := by
  have HI := Lib.hid (fun w => interest_any R N D T B w)
  obtain ⟨rfl, rfl⟩ := none_of hi
  rw [hi] at HI
  unfold vR at HI
  obtain ⟨e1, e2, e3, e4, e5, e6, -, -, -⟩ := hE
  clear hi
  go_enter Try.func41, Try.ntmps41
  go_wp2_with fail
  refine (HI.out _).mono ?_
  rintro e w1 ⟨rfl, hb⟩
  have HB := Lib.hid hb
  clear hb
  go_wp2
  go_ret2
  exact ⟨rfl, HB.out.alloc HB.out.size _⟩

set_option maxHeartbeats 4000000 in
theorem next_ok (br bp bd bb : Nat) (R N D T B p q x : Int) (w : World) (hE : Env br bp bd bb w R N D T B) (hi : intP R N D T B = (p, q, true)) (h0 : 0 ≤ x) (h1 : x ≤ R) :
    Calls Try.prog 41 #[.int .i64 x, .pointer (some ⟨br, 0, none⟩), .pointer (some ⟨bp, 0, none⟩), .pointer (some ⟨bd, 0, none⟩), .pointer (some ⟨bb, 0, none⟩)] w fun e w' =>
      e = .returned (.tuple #[.int .i64 (nearN p.toNat q.toNat : Nat), .bool true]) ∧ Env br bp bd bb w' (R - x) N D T B ∧ Touch (fun b => b = br) w w' := by
  have HI := Lib.hid (fun w => interest_any R N D T B w)
  obtain ⟨P, Q, rfl, rfl, hf⟩ := fine_of hi
  rw [hi] at HI
  unfold vR at HI
  have HN := Lib.hid (fun w => near_any P Q hf.lt (by have := hf.le; omega) hf.pos w)
  have hR := hf.ok.2.1
  have v1 : IntKind.i64.wrap (R - x) = R - x := IntWalk.i64_in _ (by omega)
  have HE := Lib.hid hE
  obtain ⟨e1, e2, e3, e4, e5, e6, -, -, -⟩ := hE
  have hPQ : nearN (P : Int).toNat (Q : Int).toNat = nearN P Q := by simp
  rw [hPQ]
  generalize nearN P Q = n at *
  clear hi hf h0 h1 hR hPQ
  go_enter Try.func41, Try.ntmps41
  go_wp2_with fail
  refine (HI.out _).mono ?_
  rintro e w1 ⟨rfl, hb⟩
  have HB := Lib.hid hb
  have hlt := (HE.out.below hb).lt.1
  have HE1 := (HE.out.below hb).below ((Below.refl w1.heap.size w1).alloc (Nat.le_refl _) (.cells #[.int .i64 (P : Int), .int .i64 (Q : Int)] 23))
  have n1 : ¬ br = w1.heap.size := by omega
  have n2 : ¬ w1.heap.size = br := by omega
  have HE1 := Lib.hid HE1
  clear hb hlt e1 e2 e3 e4 e5 e6
  obtain ⟨e1, e2, -, -, -, -, -, -, -⟩ := HE1.out
  go_wp2_with fail
  refine (HN.out _).mono ?_
  rintro e w2 ⟨rfl, hb⟩
  have HB2 := Lib.hid hb
  clear hb
  go_wp2
  go_ret2
  refine ⟨rfl, (HE1.out.set (R - x)).below HB2.out, ?_⟩
  exact (((Touch.of_below (S := fun b => b = br) HB.out).alloc _).setCell (p := ⟨br, 0, none⟩) (.inl rfl) _).trans (S' := fun _ => False) (Touch.of_below HB2.out) (fun _ h => h.elim)
end Go.Proofs.Ytbehepeebffmoaa
