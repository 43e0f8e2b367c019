/-
  append of a slice that came in, nil or not.
-/
import Derived.Test.YtllaahdbngjigaaDoorSep
import Derived.Laws.AppendOwnNone
namespace Go.Proofs.YtllaahdbngjigaaDoor
open Go Go.RowKit
set_option linter.unusedVariables false
set_option linter.unusedSimpArgs false

theorem hold {p : Prop} (h : Hid p) : p := h.out
theorem lit0 (W : World) (e : TypeId) (n : Nat) (h : n = W.heap.size) : (W.alloc (.cells #[] e)).ownsRow 0 e 1 (.slice (some ⟨n, 0, none⟩) 0 0) 0 [] := by
  subst h
  obtain ⟨h1, h2⟩ := own_lit W e 0 #[] (by unfold maxLen; omega) rfl
  rcases h2 with ⟨h2, _⟩ | ⟨g, cap, cur, e', h3, h4⟩
  · cases h2
  · exact ⟨h1, .inr ⟨g, cap, cur, e', Nat.zero_le _, h4⟩⟩

/-- append of a row that came in, nil or not. -/
theorem wpList_row {P : Program} {w : World} {ops : Array Oper} {rest : List Oper} {o : Oper} {a : Act} {Q : Exit → Act → World → Prop} (hgd : o.guard = none) (s x : Operand) (t : TypeId)
    (ho : o.op = .call { callee := .builtin .append, args := #[s, x], argTypes := #[t, t] })
    (e : TypeId) (i : TypeInfo) (z : Value) (sz bytes : Nat) (ht : P.underlying t = some (.slice e)) (hi : P.info? e = some i) (hz : i.zero = some z)
    (hsize : i.size = sz) (hby : i.bytes = bytes) (hzs : z.cells.size = sz) (hsz : 0 < sz)
    (v : Value) (n : Nat) (xs : List Value) (hs : a.eval s = v) (hown : w.ownsRow 0 e sz v n xs)
    (xa : Option Addr) (m c : Nat) (news : List Value) (hx : a.eval x = .slice xa m c) (hr : Row w (.slice xa m c) sz m news) (h1 : ∀ u ∈ news, u.oneCell' = true)
    (h63 : n + m ≤ maxLen) (hbytes : (n + m) * bytes ≤ 140737488355328)
    (h : ∀ v' w', w'.ownsRow 0 e sz v' (n + m) (xs ++ news) → Touch (fun k => v.ownBlock = some k) w w' → (∀ k, v'.ownBlock = some k → v.ownBlock = some k ∨ w.heap.size ≤ k) → wpList P ops Q rest (a.put o.dst v') w') :
    wpList P ops Q (o :: rest) a w := by
  obtain ⟨l1, ao, cap, e1, l2, l3, l4, l5⟩ := hr
  cases e1
  cases xa with
  | none =>
    obtain rfl : c = 0 := l4 rfl
    obtain rfl : m = 0 := by omega
    obtain rfl : news = [] := List.eq_nil_of_length_eq_zero (by omega)
    refine wpList_append_own_none hgd s x t ho 0 e i sz ht hi v n xs hs hown hx ?_
    exact h v w (by simpa using hown) (Touch.refl _ _) (fun k hk => .inl hk)
  | some ad =>
    refine wpList_own hgd s x t ho e i z sz bytes ht hi hz hsize hby hzs hsz v n xs hs hown ad m c news hx l1 (l5 ad rfl) h1 h63 hbytes ?_
    intro v' w' h2 h3 h4
    exact h v' w' h2 ((Touch.refl _ _).grown h3 (fun k hk => .inl hk)) h4
end Go.Proofs.YtllaahdbngjigaaDoor
