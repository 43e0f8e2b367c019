/-
  ClaimNever. (Put together of average/XMap, XClaimQ, XNevP, XNever, XNeverB.)
-/
import Derived.Test.YtamfdkigokicoaaSep
import Derived.Maps.OwnOps
import Derived.Maps.OwnSet
import Derived.Maps.Views
import Derived.StringKeys
import Derived.Test.YtamfdkigokicoaaClaimP
import Derived.Test.YtamfdkigokicoaaFRec
import Derived.Test.YtamfdkigokicoaaCWhole
import Derived.Test.YtamfdkigokicoaaMRec
import Derived.Maps.RangeWalk
namespace Go.Proofs.Ytamfdkigokicoaa
open Go Go.RowKit Go.Maps Go.WideMaps
set_option linter.unusedVariables false
set_option linter.unusedSimpArgs false

theorem plain_bool_inv {H : Type} {P : Program} {e : TypeId} (he : P.underlying e = some .bool) {v : Value} {z : DataW H × List MemPlace} (h : plainElem P e v = some z) : ∃ x, v = .bool x ∧ z = (.lit (.bool x), []) := by
  unfold plainElem at h
  rw [he] at h
  cases v <;> simp at h
  exact ⟨_, rfl, h.symm⟩

def nkey (s : ByteArray) : Lit := .string s.data.toList
theorem nkey_ne {s t : ByteArray} (h : s ≠ t) : nkey s ≠ nkey t := by
  intro e
  unfold nkey at e
  apply h
  have : s.data.toList = t.data.toList := by injection e
  cases s; cases t
  simp at this
  simp [this]
theorem nkey_is (s : ByteArray) : WideAt.IsKeyLit (nkey s) := by simp [nkey, WideAt.IsKeyLit]

theorem owns_touch {H : Type} {P : Program} {k : TypeId} {R : Value → Option (DataW H × List MemPlace)} {w w' : World} {b n : Nat} {D : DataW H} {S : Nat → Prop} (h : w.ownsMap P k R b n D) (ht : Touch S w w') (hn : ¬ S b) : w'.ownsMap P k R b n D := by
  have hlt := h.lt
  obtain ⟨es, clock, hb, F, hs, hD⟩ := h
  exact ⟨es, clock, (ht.block b hlt hn).trans hb, F, hs, hD⟩
theorem touch_grown {w w' : World} {b : Nat} (h : w.grownBy w' (some b)) : Touch (fun k => k = b) w w' :=
  (Touch.refl _ w).grown h (fun k hk => .inl (by cases hk; rfl))

/-- Block b is a map of at most n entries that tells f. -/
def BMap (P : Program) (k e : TypeId) (w : World) (b n : Nat) (f : ByteArray → Bool) : Prop :=
  ∃ D : DataW Unit, w.ownsMap P k (plainElem P e) b n D ∧ ∀ s, D.atKey (nkey s) (.lit (.bool false)) = .lit (.bool (f s))
theorem BMap.made (P : Program) (k e : TypeId) (w : World) : BMap P k e (w.alloc (.map #[] 0)) w.heap.size 0 (fun _ => false) := ⟨.map [], World.ownsMap_made _ _ _ _, fun s => rfl⟩
theorem BMap.touch {P : Program} {k e : TypeId} {w w' : World} {b n : Nat} {f : ByteArray → Bool} {S : Nat → Prop} (h : BMap P k e w b n f) (ht : Touch S w w') (hn : ¬ S b) : BMap P k e w' b n f := by
  obtain ⟨D, h1, h2⟩ := h
  exact ⟨D, owns_touch h1 ht hn, h2⟩
theorem BMap.lt {P : Program} {k e : TypeId} {w : World} {b n : Nat} {f : ByteArray → Bool} (h : BMap P k e w b n f) : b < w.heap.size := by
  obtain ⟨D, h1, h2⟩ := h
  exact h1.lt

theorem wpList_bget {P : Program} (w : World) {ops : Array Oper} {rest : List Oper} {o : Oper} {a : Act} {Q : Exit → Act → World → Prop}
    (hg : o.guard = none) (m x : Operand) (t : TypeId) (hop : o.op = Op.lookup t m x false) (k e : TypeId) (hk : P.underlying k = some .string) (ht : P.underlying t = some (.map k e)) (he : P.underlying e = some .bool) (hz : (zeroValue e).run P w = .ok (.bool false) w)
    (b n : Nat) (f : ByteArray → Bool) (hm : a.eval m = .map (some b)) (h : BMap P k e w b n f) (s : ByteArray) (hx : a.eval x = .string s) (hs : s.size ≤ maxLen)
    (hK : wpList P ops Q rest (a.put o.dst (.bool (f s))) w) : wpList P ops Q (o :: rest) a w := by
  refine wpList_plain hg fun K' hK' => ?_
  obtain ⟨D, ho, hf⟩ := h
  obtain ⟨v, ps, hrun, hv⟩ := ho.lookup (string_keyed hk) ht hz (plainElem_bool he false) (keyOf_string_mk hk hs)
  obtain ⟨c, rfl, hc⟩ := plain_bool_inv he hv
  simp only [Prod.mk.injEq] at hc
  have h1 := (hf s).symm.trans hc.1
  have e : f s = c := by injection h1 with h1; injection h1
  subst e
  unfold Oper.wp
  simp [execOp, hop, hm, hx, hrun, Result.andThen]
  exact hK' _ _ hK

theorem wpList_bset {P : Program} (w : World) {ops : Array Oper} {rest : List Oper} {o : Oper} {a : Act} {Q : Exit → Act → World → Prop}
    (hg : o.guard = none) (m x v : Operand) (t : TypeId) (hop : o.op = Op.mapUpdate t m x v) (k e : TypeId) (hk : P.underlying k = some .string) (ht : P.underlying t = some (.map k e)) (he : P.underlying e = some .bool)
    (b n : Nat) (f : ByteArray → Bool) (hm : a.eval m = .map (some b)) (h : BMap P k e w b n f) (hn : n < maxLen) (s : ByteArray) (hx : a.eval x = .string s) (hs : s.size ≤ maxLen) (y : Bool) (hv : a.eval v = .bool y)
    (hK : ∀ w', BMap P k e w' b (n + 1) (fun u => if u = s then y else f u) → Touch (fun k => k = b) w w' → wpList P ops Q rest (a.put o.dst undef) w') : wpList P ops Q (o :: rest) a w := by
  obtain ⟨D, ho, hf⟩ := h
  refine wpList_mapUpdate_own w hg m x v t hop k e (string_keyed hk) ht _ b n D hm ho hn _ _ (nkey s) hx hv (keyOf_string_mk hk hs) _ [] (plainElem_bool he y) ?_
  intro w' h1 h2
  refine hK w' ⟨_, h1, fun u => ?_⟩ (touch_grown h2)
  by_cases hu : u = s
  · subst hu
    rw [atKey_put_same ho.isMap (nkey_is u)]
    simp
  · rw [atKey_put_other (nkey_ne hu), hf]
    simp [hu]

/-- .. of numbers. -/
def IMap (P : Program) (k e : TypeId) (w : World) (b n : Nat) (f : ByteArray → Int) : Prop :=
  ∃ D : DataW Unit, w.ownsMap P k (plainElem P e) b n D ∧ ∀ s, D.atKey (nkey s) (.lit (.int .i64 0)) = .lit (.int .i64 (f s))
theorem IMap.made (P : Program) (k e : TypeId) (w : World) : IMap P k e (w.alloc (.map #[] 0)) w.heap.size 0 (fun _ => 0) := ⟨.map [], World.ownsMap_made _ _ _ _, fun s => rfl⟩
theorem IMap.touch {P : Program} {k e : TypeId} {w w' : World} {b n : Nat} {f : ByteArray → Int} {S : Nat → Prop} (h : IMap P k e w b n f) (ht : Touch S w w') (hn : ¬ S b) : IMap P k e w' b n f := by
  obtain ⟨D, h1, h2⟩ := h
  exact ⟨D, owns_touch h1 ht hn, h2⟩
theorem IMap.lt {P : Program} {k e : TypeId} {w : World} {b n : Nat} {f : ByteArray → Int} (h : IMap P k e w b n f) : b < w.heap.size := by
  obtain ⟨D, h1, h2⟩ := h
  exact h1.lt

theorem wpList_iget {P : Program} (w : World) {ops : Array Oper} {rest : List Oper} {o : Oper} {a : Act} {Q : Exit → Act → World → Prop}
    (hg : o.guard = none) (m x : Operand) (t : TypeId) (hop : o.op = Op.lookup t m x false) (k e : TypeId) (hk : P.underlying k = some .string) (ht : P.underlying t = some (.map k e)) (he : P.underlying e = some (.int .i64)) (hz : (zeroValue e).run P w = .ok (.int .i64 0) w)
    (b n : Nat) (f : ByteArray → Int) (hm : a.eval m = .map (some b)) (h : IMap P k e w b n f) (s : ByteArray) (hx : a.eval x = .string s) (hs : s.size ≤ maxLen)
    (hK : wpList P ops Q rest (a.put o.dst (.int .i64 (f s))) w) : wpList P ops Q (o :: rest) a w := by
  obtain ⟨D, ho, hf⟩ := h
  refine wpList_lookup_own_int w hg m x t hop k e .i64 (string_keyed hk) ht he hz b n D hm ho _ (nkey s) hx (keyOf_string_mk hk hs) ?_
  intro c hc _
  have h1 := (hf s).symm.trans hc
  have e : f s = c := by injection h1 with h1; injection h1
  rw [← e]
  exact hK

theorem wpList_iset {P : Program} (w : World) {ops : Array Oper} {rest : List Oper} {o : Oper} {a : Act} {Q : Exit → Act → World → Prop}
    (hg : o.guard = none) (m x v : Operand) (t : TypeId) (hop : o.op = Op.mapUpdate t m x v) (k e : TypeId) (hk : P.underlying k = some .string) (ht : P.underlying t = some (.map k e)) (he : P.underlying e = some (.int .i64))
    (b n : Nat) (f : ByteArray → Int) (hm : a.eval m = .map (some b)) (h : IMap P k e w b n f) (hn : n < maxLen) (s : ByteArray) (hx : a.eval x = .string s) (hs : s.size ≤ maxLen) (y : Int) (hv : a.eval v = .int .i64 y) (hy : (Lit.int .i64 y).wf = true)
    (hK : ∀ w', IMap P k e w' b (n + 1) (fun u => if u = s then y else f u) → Touch (fun k => k = b) w w' → wpList P ops Q rest (a.put o.dst undef) w') : wpList P ops Q (o :: rest) a w := by
  obtain ⟨D, ho, hf⟩ := h
  refine wpList_mapUpdate_own w hg m x v t hop k e (string_keyed hk) ht _ b n D hm ho hn _ _ (nkey s) hx hv (keyOf_string_mk hk hs) _ [] (plainElem_int he hy) ?_
  intro w' h1 h2
  refine hK w' ⟨_, h1, fun u => ?_⟩ (touch_grown h2)
  by_cases hu : u = s
  · subst hu
    rw [atKey_put_same ho.isMap (nkey_is u)]
    simp
  · rw [atKey_put_other (nkey_ne hu), hf]
    simp [hu]


theorem paid_add (f : Fi) (t : ByteArray) (n : Int) : paidF (addF f t n) = paidF f + min n (leftF f) ∧ (addF f t n).loss = f.loss ∧ (addF f t n).own = f.own := by
  refine ⟨by simp [paidF, addF], rfl, rfl⟩
/-- Claimed of one behind the other. -/
def addsF (f : Fi) : List (ByteArray × Int) → Fi
  | [] => f
  | x :: l => addsF (addF f x.1 x.2) l
theorem paid_all : ∀ (l : List (ByteArray × Int)) (f : Fi), (∀ x ∈ l, 0 ≤ x.2) → paidF f + f.own ≤ f.loss → paidF (addsF f l) = min (f.loss - f.own) (paidF f + (l.map fun x => x.2).sum)
  | [], f, _, h => by simp [addsF]; omega
  | x :: l, f, hx, h => by
    have h1 := hx x (by simp)
    obtain ⟨e1, e2, e3⟩ := paid_add f x.1 x.2
    have hl : leftF f = f.loss - paidF f - f.own := rfl
    have IH := paid_all l (addF f x.1 x.2) (fun y hy => hx y (by simp [hy])) (by rw [e1, e2, e3]; omega)
    have hs : 0 ≤ (l.map fun x => x.2).sum := by
      have : ∀ (l : List (ByteArray × Int)), (∀ x ∈ l, 0 ≤ x.2) → 0 ≤ (l.map fun x => x.2).sum := by
        intro l
        induction l with
        | nil => intro _; simp
        | cons y l ih =>
          intro hy
          have := hy y (by simp)
          have := ih (fun z hz => hy z (by simp [hz]))
          rw [List.map_cons, List.sum_cons]; omega
      exact this l (fun y hy => hx y (by simp [hy]))
    rw [addsF, IH, e1, e2, e3, List.map_cons, List.sum_cons]
    omega
theorem sum_rev : ∀ (l : List (ByteArray × Int)), (l.reverse.map fun x => x.2).sum = (l.map fun x => x.2).sum
  | [] => rfl
  | x :: l => by
    rw [List.reverse_cons, List.map_append, List.sum_append, sum_rev l, List.map_cons, List.sum_cons]
    simp; omega
/-- Whoever pays first, all together is the same. -/
theorem paid_order (l : List (ByteArray × Int)) (f : Fi) (h0 : ∀ x ∈ l, 0 ≤ x.2) (h : paidF f + f.own ≤ f.loss) : paidF (addsF f l) = paidF (addsF f l.reverse) ∧ paidF (addsF f l) ≤ f.loss - f.own := by
  have e1 := paid_all l f h0 h
  have e2 := paid_all l.reverse f (fun x hx => h0 x (List.mem_reverse.1 hx)) h
  rw [sum_rev] at e2
  refine ⟨by rw [e1, e2], by rw [e1]; omega⟩

/-- What entries of one name bring. -/
def backE : List En → ByteArray → Int
  | [], _ => 0
  | x :: D, u => (if x.t = u then x.z else 0) + backE D u
theorem backE_app : ∀ (A B : List En) (u : ByteArray), backE (A ++ B) u = backE A u + backE B u
  | [], B, u => by simp [backE]
  | x :: A, B, u => by rw [List.cons_append, backE, backE, backE_app A B u]; omega
theorem giveS_back {t : ByteArray} {most : Int} {r : RS} (h0 : 0 ≤ r.s) (hm : 0 ≤ most) (u : ByteArray) : backE (giveS t most r).D u = backE r.D u + if t = u then giveN most r else 0 := by
  unfold giveS giveN
  split
  · show backE (r.D ++ [_]) u = _
    rw [backE_app]
    congr 1
    simp [backE]
  · have : min r.s most = 0 := by omega
    rw [this]; simp
/-- What came back to the name u by the file. -/
def backL : List Pm → ByteArray → Int
  | [], _ => 0
  | o :: L, u => (if o.t = u then o.b else 0) + backL L u
/-- Entries and the file tell the same. -/
theorem recK_back : ∀ {L : List Pm} {r : RS} (u : ByteArray), (∀ o ∈ L, 0 ≤ o.b ∧ o.b ≤ o.p) → 0 ≤ r.s → backE (recK L r).2.D u - backE r.D u = backL (recK L r).1 u - backL L u
  | [], r, u, _, _ => by simp [recK, backL]
  | o :: L, r, u, h, h0 => by
    have h1 := h o (by simp)
    have hs := giveS_s (t := o.t) (most := o.p - o.b) h0 (by omega)
    have hg : 0 ≤ giveN (o.p - o.b) r ∧ giveN (o.p - o.b) r ≤ r.s := by unfold giveN; omega
    have IH := recK_back (L := L) (r := giveS o.t (o.p - o.b) r) u (fun x hx => h x (by simp [hx])) (by omega)
    have hb := giveS_back (t := o.t) (most := o.p - o.b) h0 (by omega) u
    rw [recK]
    show backE (recK L (giveS o.t (o.p - o.b) r)).2.D u - backE r.D u = backL (⟨o.t, o.p, o.b + giveN (o.p - o.b) r⟩ :: (recK L (giveS o.t (o.p - o.b) r)).1) u - backL (o :: L) u
    rw [backL, backL]
    dsimp only
    by_cases e : o.t = u
    · rw [if_pos e] at hb
      rw [if_pos e, if_pos e]; omega
    · rw [if_neg e] at hb
      rw [if_neg e, if_neg e]; omega


/-- What the name u paid, by the file. -/
def paidT : List Pm → ByteArray → Int
  | [], _ => 0
  | o :: L, u => (if o.t = u then o.p else 0) + paidT L u
theorem paidT_app : ∀ (A B : List Pm) (u : ByteArray), paidT (A ++ B) u = paidT A u + paidT B u
  | [], B, u => by simp [paidT]
  | x :: A, B, u => by rw [List.cons_append, paidT, paidT, paidT_app A B u]; omega
theorem backL_app : ∀ (A B : List Pm) (u : ByteArray), backL (A ++ B) u = backL A u + backL B u
  | [], B, u => by simp [backL]
  | x :: A, B, u => by rw [List.cons_append, backL, backL, backL_app A B u]; omega
theorem paidT_none : ∀ {L : List Pm} {u : ByteArray}, (∀ o ∈ L, o.t ≠ u) → paidT L u = 0
  | [], u, _ => rfl
  | o :: L, u, h => by
    rw [paidT, if_neg (h o (by simp)), paidT_none (L := L) (fun x hx => h x (by simp [hx]))]; rfl
theorem backL_none : ∀ {L : List Pm} {u : ByteArray}, (∀ o ∈ L, o.t ≠ u) → backL L u = 0
  | [], u, _ => rfl
  | o :: L, u, h => by
    rw [backL, if_neg (h o (by simp)), backL_none (L := L) (fun x hx => h x (by simp [hx]))]; rfl
theorem has_none {L : List Pm} {u : ByteArray} (h : hasF L u = false) : ∀ o ∈ L, o.t ≠ u := by
  intro o ho e
  unfold hasF at h
  rw [List.any_eq_false] at h
  exact h o ho (by simp [e])
theorem back_le_paid : ∀ {L : List Pm} (u : ByteArray), (∀ o ∈ L, 0 ≤ o.b ∧ o.b ≤ o.p) → 0 ≤ backL L u ∧ backL L u ≤ paidT L u ∧ paidT L u ≤ (L.map fun o => o.p).sum
  | [], u, _ => by simp [backL, paidT]
  | o :: L, u, h => by
    have h1 := h o (by simp)
    have h2 := back_le_paid (L := L) u (fun x hx => h x (by simp [hx]))
    rw [backL, paidT, List.map_cons, List.sum_cons]
    split <;> omega
theorem recK_paidT : ∀ (L : List Pm) (r : RS) (u : ByteArray), paidT (recK L r).1 u = paidT L u
  | [], r, u => rfl
  | o :: L, r, u => by
    rw [recK]
    show paidT (_ :: (recK L _).1) u = _
    rw [paidT, paidT, recK_paidT L _ u]
theorem recK_t : ∀ (L : List Pm) (r : RS), ∀ o ∈ (recK L r).1, ∃ p ∈ L, o.t = p.t
  | [], r, o, ho => by simp [recK] at ho
  | x :: L, r, o, ho => by
    rw [recK] at ho
    rcases List.mem_cons.1 ho with e | ho
    · subst e; exact ⟨x, by simp, rfl⟩
    · obtain ⟨p, hp, e⟩ := recK_t L _ o ho
      exact ⟨p, by simp [hp], e⟩
/-- Entries: of names that paid, and of more than nothing. -/
theorem giveS_ent {t : ByteArray} {most : Int} {r : RS} {S : ByteArray → Prop} (ht : S t) (h : ∀ x ∈ r.D, S x.t ∧ 0 ≤ x.z) : ∀ x ∈ (giveS t most r).D, S x.t ∧ 0 ≤ x.z := by
  unfold giveS
  split
  · intro x hx
    rcases List.mem_append.1 hx with hx | hx
    · exact h x hx
    · simp at hx; subst hx
      exact ⟨ht, by dsimp only; omega⟩
  · exact h
theorem recK_ents {S : ByteArray → Prop} : ∀ (L : List Pm) (r : RS), (∀ o ∈ L, S o.t) → (∀ x ∈ r.D, S x.t ∧ 0 ≤ x.z) → ∀ x ∈ (recK L r).2.D, S x.t ∧ 0 ≤ x.z
  | [], r, _, h => h
  | o :: L, r, hL, h => by
    rw [recK]
    exact recK_ents L _ (fun x hx => hL x (by simp [hx])) (giveS_ent (hL o (by simp)) h)
theorem giveS_len (t : ByteArray) (most : Int) (r : RS) : (giveS t most r).D.length ≤ r.D.length + 1 := by
  unfold giveS
  split
  · simp
  · omega
theorem recK_dlen : ∀ (L : List Pm) (r : RS), (recK L r).2.D.length ≤ r.D.length + L.length
  | [], r => Nat.le_refl _
  | o :: L, r => by
    rw [recK]
    have h1 := recK_dlen L (giveS o.t (o.p - o.b) r)
    have h2 := giveS_len o.t (o.p - o.b) r
    simp only [List.length_cons]
    omega
theorem backE_bd : ∀ {D : List En} (u : ByteArray), (∀ x ∈ D, 0 ≤ x.z) → 0 ≤ backE D u ∧ backE D u ≤ sumE D
  | [], u, _ => by simp [backE, sumE]
  | x :: D, u, h => by
    have h1 := h x (by simp)
    have h2 := backE_bd (D := D) u (fun y hy => h y (by simp [hy]))
    have e : sumE (x :: D) = x.z + sumE D := by simp [sumE]
    rw [backE, e]
    split <;> omega
theorem sumE_take {D : List En} (h : ∀ x ∈ D, 0 ≤ x.z) (k : Nat) : 0 ≤ sumE (D.take k) ∧ sumE (D.take k) ≤ sumE D := by
  have e : sumE (D.take k) + sumE (D.drop k) = sumE D := by rw [← sumE_app, List.take_append_drop]
  have h1 := (backE_bd (D := D.take k) ⟨#[]⟩ (fun x hx => h x (List.mem_of_mem_take hx)))
  have h2 := (backE_bd (D := D.drop k) ⟨#[]⟩ (fun x hx => h x (List.mem_of_mem_drop hx)))
  omega

/-- The law's own books tell what the file tells. -/
structure Nev (F : Fi) (fp fb : ByteArray → Int) (all : Int) : Prop where
  eall : all = paidF F
  efp : ∀ u, fp u = paidT F.L u
  efb : ∀ u, u ≠ ⟨#[]⟩ → fb u = backL F.L u
  efb0 : fb ⟨#[]⟩ = F.own
  nm : ∀ o ∈ F.L, nameB o.t = true
theorem name_ne {u : ByteArray} (h : nameB u = true) : u ≠ ⟨#[]⟩ := by
  intro e; subst e; revert h; decide
theorem Nev.new (loss value : Int) : Nev (Fi.new loss value) (fun _ => 0) (fun _ => 0) 0 := ⟨rfl, fun _ => rfl, fun _ _ => rfl, rfl, fun o ho => by simp [Fi.new] at ho⟩
theorem Nev.bd {F : Fi} {fp fb : ByteArray → Int} {all : Int} (h : Nev F fp fb all) (ok : FileOk F) (u : ByteArray) : 0 ≤ fb u ∧ fb u ≤ 1099511627776 ∧ 0 ≤ fp u ∧ fp u ≤ 1099511627776 := by
  have h1 := back_le_paid (L := F.L) u ok.each
  have h2 : paidF F = (F.L.map fun o => o.p).sum := rfl
  have h3 := ok.own; have h4 := ok.all; have h5 := ok.l1; have h6 := ok.v1
  have h8 : 0 ≤ paidF F := by omega
  rw [h.efp u]
  by_cases e : u = ⟨#[]⟩
  · subst e; rw [h.efb0]; omega
  · rw [h.efb u e]; omega
theorem Nev.le {F : Fi} {fp fb : ByteArray → Int} {all : Int} (h : Nev F fp fb all) (ok : FileOk F) {u : ByteArray} (hu : u ≠ ⟨#[]⟩) : fb u ≤ fp u := by
  have h1 := back_le_paid (L := F.L) u ok.each
  rw [h.efb u hu, h.efp u]; omega
/-- A payment more. -/
theorem Nev.add {F : Fi} {fp fb : ByteArray → Int} {all : Int} (h : Nev F fp fb all) {u : ByteArray} (n : Int) (hu : nameB u = true) (hn : hasF F.L u = false) :
    fp u = 0 ∧ Nev (addF F u n) (fun x => if x = u then min n (leftF F) else fp x) fb (all + min n (leftF F)) := by
  have h0 := has_none hn
  have e0 : fp u = 0 := by rw [h.efp u]; exact paidT_none h0
  refine ⟨e0, by rw [h.eall]; simp [paidF, addF], fun x => ?_, fun x hx => ?_, h.efb0, fun o ho => ?_⟩
  · show _ = paidT (F.L ++ [⟨u, min n (leftF F), 0⟩]) x
    rw [paidT_app, ← h.efp x]
    by_cases e : x = u
    · subst e; rw [if_pos rfl, e0]; simp [paidT]
    · rw [if_neg e]; simp [paidT, show ¬ u = x from fun e2 => e e2.symm]
  · show _ = backL (F.L ++ [⟨u, min n (leftF F), 0⟩]) x
    rw [backL_app, ← h.efb x hx]
    simp [backL]
  · rcases List.mem_append.1 ho with ho | ho
    · exact h.nm o ho
    · simp at ho; subst ho; exact hu
/-- Something came back. -/
theorem Nev.back {F : Fi} {fp fb : ByteArray → Int} {all : Int} (h : Nev F fp fb all) (ok : FileOk F) {s : Int} (h0 : 0 ≤ s) (h1 : s ≤ outF F) :
    Nev (recF F s).1 fp (fun u => fb u + backE (recF F s).2 u) all := by
  have hp := (recF_ok ok h0 h1).2.2
  have hr := fun u => recK_back (L := F.L) (r := ⟨s, []⟩) u ok.each h0
  have hs2 := (recK_sum (r := ⟨s, []⟩) ok.each h0).2.1
  have hl : 0 ≤ leftF F := by have := ok.all; unfold leftF; omega
  have hg := fun u => giveS_back (t := ⟨#[]⟩) (most := leftF F) (r := (recK F.L ⟨s, []⟩).2) hs2 hl u
  have e0 : ∀ u, backE (recF F s).2 u = backE (giveS ⟨#[]⟩ (leftF F) (recK F.L ⟨s, []⟩).2).D u := fun u => rfl
  have z0 : ∀ u, backE ([] : List En) u = 0 := fun u => rfl
  refine ⟨by rw [hp]; exact h.eall, fun u => ?_, fun u hu => ?_, ?_, fun o ho => ?_⟩
  · show _ = paidT (recK F.L ⟨s, []⟩).1 u
    rw [recK_paidT]; exact h.efp u
  · show fb u + backE (recF F s).2 u = backL (recK F.L ⟨s, []⟩).1 u
    have r1 := hr u
    have r2 := hg u
    rw [if_neg (fun e => hu e.symm)] at r2
    have r3 := h.efb u hu
    have r1 : backE (recK F.L ⟨s, []⟩).2.D u - 0 = backL (recK F.L ⟨s, []⟩).1 u - backL F.L u := r1
    rw [e0]; omega
  · show fb ⟨#[]⟩ + backE (recF F s).2 ⟨#[]⟩ = F.own + giveN (leftF F) (recK F.L ⟨s, []⟩).2
    have r1 := hr ⟨#[]⟩
    have r2 := hg ⟨#[]⟩
    rw [if_pos rfl] at r2
    have r1 : backE (recK F.L ⟨s, []⟩).2.D ⟨#[]⟩ - 0 = backL (recK F.L ⟨s, []⟩).1 ⟨#[]⟩ - backL F.L ⟨#[]⟩ := r1
    rw [backL_none (fun o ho => name_ne (h.nm o ho)), backL_none (fun o ho e => by obtain ⟨p, hp, e2⟩ := recK_t F.L _ o ho; exact name_ne (h.nm p hp) (by rw [← e2]; exact e))] at r1
    have r3 := h.efb0
    rw [e0]; omega
  · obtain ⟨p, hp, e⟩ := recK_t F.L _ o ho
    rw [e]; exact h.nm p hp
/-- The entries of what came back. -/
theorem Nev.ents {F : Fi} {fp fb : ByteArray → Int} {all : Int} (h : Nev F fp fb all) (s : Int) : (∀ x ∈ (recF F s).2, (x.t = ⟨#[]⟩ ∨ nameB x.t = true) ∧ 0 ≤ x.z) ∧ (recF F s).2.length ≤ F.L.length + 1 := by
  constructor
  · exact giveS_ent (S := fun t => t = ⟨#[]⟩ ∨ nameB t = true) (.inl rfl) (recK_ents (S := fun t => t = ⟨#[]⟩ ∨ nameB t = true) F.L ⟨s, []⟩ (fun o ho => .inr (h.nm o ho)) (fun x hx => by simp at hx))
  · have h1 := giveS_len ⟨#[]⟩ (leftF F) (recK F.L ⟨s, []⟩).2
    have h2 := recK_dlen F.L ⟨s, []⟩
    show (giveS ⟨#[]⟩ (leftF F) (recK F.L ⟨s, []⟩).2).D.length ≤ _
    simp at h2
    omega


theorem imap_run {P : Program} {k e t : TypeId} {w : World} {b n : Nat} {f : ByteArray → Int} (h : IMap P k e w b n f) (hk : P.underlying k = some .string) (ht : P.underlying t = some (.map k e)) (he : P.underlying e = some (.int .i64)) (hz : (zeroValue e).run P w = .ok (.int .i64 0) w)
    (s : ByteArray) (hs : s.size ≤ maxLen) : (Instr.lookup t (.map (some b)) (.string s) false).run P w = .ok (.int .i64 (f s)) w := by
  obtain ⟨D, ho, hf⟩ := h
  obtain ⟨c, hrun, hat, _⟩ := ho.lookup_int (Maps.string_keyed hk) ht he hz (WideMaps.keyOf_string_mk hk hs)
  have h1 := (hf s).symm.trans hat
  have e : f s = c := by injection h1 with h1; injection h1
  rw [e]; exact hrun
theorem zeroI64 (w : World) : (zeroValue 2).run Try.prog w = .ok (.int .i64 0) w := by kernel_rfl

/-- What reads as a key of a text's type is that text. -/
theorem keyOf_string_inv {P : Program} {k : TypeId} (hk : P.underlying k = some .string) {key : Value} {kl : Lit} (h : Go.keyOf P k key = some kl) : ∃ x : ByteArray, key = .string x ∧ kl = nkey x ∧ x.size ≤ maxLen := by
  cases key <;> simp [Go.keyOf, hk, mapKey] at h
  obtain ⟨hw, rfl⟩ := h
  exact ⟨_, rfl, rfl, by simpa using hw⟩

theorem wpList_next_si {P : Program} (w : World) {ops : Array Oper} {rest : List Oper} {o : Oper} {a : Act} {Q : Exit → Act → World → Prop}
    (hg : o.guard = none) (it : Operand) (hop : o.op = Op.next it false) (k e : TypeId) (hk : P.underlying k = some .string) (he : P.underlying e = some (.int .i64))
    (b r n : Nat) (D : DataW Unit) (left : Lit → Bool) (cnt : Nat) (hit : a.eval it = .pointer (some ⟨r, 0, none⟩)) (h : w.ranges P k (plainElem P e) b r n D left cnt)
    (hDone : wpList P ops Q rest (a.put o.dst (.tuple #[.bool false])) w)
    (hMore : ∀ (x : ByteArray) (c : Int) (w' : World) (left' : Lit → Bool) (cnt' : Nat), x.size ≤ maxLen → (∀ zd, D.atKey (nkey x) zd = .lit (.int .i64 c)) → w'.ranges P k (plainElem P e) b r n D left' cnt' → cnt' < cnt →
      w.grownBy w' (some r) → (Instr.entry (.pointer (some ⟨r, 0, none⟩))).run P w' = .ok (.tuple #[.string x, .int .i64 c]) w' → wpList P ops Q rest (a.put o.dst (.tuple #[.bool true, .string x, .int .i64 c])) w') :
    wpList P ops Q (o :: rest) a w :=
  wpList_next_ranges w hg it hop k (Maps.string_keyed hk) (plainElem P e) Value.string (Value.int .i64) (fun key kl hkey => by obtain ⟨x, rfl, _⟩ := keyOf_string_inv hk hkey; exact ⟨x, rfl⟩) (fun v y hv => by obtain ⟨c, rfl, _⟩ := plainElem_int_inv he hv; exact ⟨c, rfl⟩)
    b r n D left cnt hit h (fun _ _ => hDone) (fun x c kl y w' cnt' hkey hlk hv hat hrg hlt hgr hsz hen => by
      obtain ⟨x', ex, rfl, hwx⟩ := keyOf_string_inv hk hkey
      cases ex
      obtain ⟨c', ec, rfl, hwc⟩ := plainElem_int_inv he hv
      cases ec
      exact hMore x c w' _ cnt' hwx hat hrg hlt hgr hen)

/-- A file and two maps, apart. -/
structure Nv (w0 w : World) (bf : Nat) (v : Value) (bp cp bb cb : Nat) (F : Fi) (fp fb : ByteArray → Int) : Prop where
  fi : IsFi w bf v F
  mp : IMap Try.prog 9 2 w bp cp fp
  mb : IMap Try.prog 9 2 w bb cb fb
  lf : w0.heap.size ≤ bf
  lp : w0.heap.size ≤ bp
  lb : w0.heap.size ≤ bb
  lv : ∀ k, v.ownBlock = some k → w0.heap.size ≤ k
  n1 : bf ≠ bp
  n2 : bf ≠ bb
  n3 : bp ≠ bb
  n4 : v.ownBlock ≠ some bp
  n5 : v.ownBlock ≠ some bb
  bel : Below w0.heap.size w0 w
theorem Nv.later {w0 w w' : World} {bf bp cp bb cb : Nat} {v : Value} {F : Fi} {fp fb : ByteArray → Int} (h : Nv w0 w bf v bp cp bb cb F fp fb) (hb : Below w.heap.size w w') : Nv w0 w' bf v bp cp bb cb F fp fb := by
  obtain ⟨fi, mp, mb, lf, lp, lb, lv, n1, n2, n3, n4, n5, bel⟩ := h
  exact ⟨fi.below hb, mp.touch (Touch.of_below (S := fun _ => False) hb) (fun h => h), mb.touch (Touch.of_below (S := fun _ => False) hb) (fun h => h), lf, lp, lb, lv, n1, n2, n3, n4, n5, bt bel hb⟩
theorem Nv.stepF {w0 w w' : World} {bf bp cp bb cb : Nat} {v v' : Value} {F F' : Fi} {fp fb : ByteArray → Int} (h : Nv w0 w bf v bp cp bb cb F fp fb) (hf : IsFi w' bf v' F') (hk : Keep bf v w v' w') : Nv w0 w' bf v' bp cp bb cb F' fp fb := by
  obtain ⟨fi, mp, mb, lf, lp, lb, lv, n1, n2, n3, n4, n5, bel⟩ := h
  have hs := bel.size
  refine ⟨hf, mp.touch hk.touch ?_, mb.touch hk.touch ?_, lf, lp, lb, fun k e => ?_, n1, n2, n3, fun e => ?_, fun e => ?_, bel.trans (hk.touch.below hs ?_)⟩
  · rintro (e | e)
    · exact n1 e.symm
    · exact n4 e
  · rintro (e | e)
    · exact n2 e.symm
    · exact n5 e
  · rcases hk.row k e with e | e
    · exact lv k e
    · omega
  · rcases hk.row _ e with e | e
    · exact n4 e
    · have := mp.lt; omega
  · rcases hk.row _ e with e | e
    · exact n5 e
    · have := mb.lt; omega
  · rintro x (e | e)
    · subst e; exact lf
    · exact lv x e
theorem Nv.stepP {w0 w w' : World} {bf bp cp cp' bb cb : Nat} {v : Value} {F : Fi} {fp fp' fb : ByteArray → Int} (h : Nv w0 w bf v bp cp bb cb F fp fb) (hm : IMap Try.prog 9 2 w' bp cp' fp') (ht : Touch (fun k => k = bp) w w') : Nv w0 w' bf v bp cp' bb cb F fp' fb := by
  obtain ⟨fi, mp, mb, lf, lp, lb, lv, n1, n2, n3, n4, n5, bel⟩ := h
  exact ⟨fi.kept ht n1 (fun k hk e => by subst e; exact n4 hk), hm, mb.touch ht (fun e => n3 e.symm), lf, lp, lb, lv, n1, n2, n3, n4, n5, bel.trans (ht.below bel.size (fun x hx => by omega))⟩
theorem Nv.stepB {w0 w w' : World} {bf bp cp cb' bb cb : Nat} {v : Value} {F : Fi} {fp fb' fb : ByteArray → Int} (h : Nv w0 w bf v bp cp bb cb F fp fb) (hm : IMap Try.prog 9 2 w' bb cb' fb') (ht : Touch (fun k => k = bb) w w') : Nv w0 w' bf v bp cp bb cb' F fp fb' := by
  obtain ⟨fi, mp, mb, lf, lp, lb, lv, n1, n2, n3, n4, n5, bel⟩ := h
  exact ⟨fi.kept ht n2 (fun k hk e => by subst e; exact n5 hk), mp.touch ht n3, hm, lf, lp, lb, lv, n1, n2, n3, n4, n5, bel.trans (ht.below bel.size (fun x hx => by omega))⟩

/-- Entries lie in no map. -/
theorem Ens.off_map {w w' : World} {ao : Option Addr} {n cap bb cb : Nat} {D : List En} {f : ByteArray → Int} (h : Ens w (.slice ao n cap) D) (hn : n = D.length) (hm : IMap Try.prog 9 2 w bb cb f) (ht : Touch (fun k => k = bb) w w') : Ens w' (.slice ao n cap) D := by
  refine row_touch h ht (fun a c e hne g => ?_)
  cases e
  have hp : 0 < D.length := by
    cases D with
    | nil => exact absurd rfl hne
    | cons d D => simp
  obtain ⟨bl, off, e2, _, hc⟩ := h.get rfl hp
  cases e2
  obtain ⟨Dm, ho, _⟩ := hm
  obtain ⟨es, clock, hb, _⟩ := ho
  have h1 := (hc 0 hp).1
  rw [show bl = bb from g] at h1
  simp [World.cell?, hb] at h1

theorem backE_take {D : List En} {k : Nat} (hk : k < D.length) (u : ByteArray) : backE (D.take (k + 1)) u = backE (D.take k) u + (if (D.getD k default).t = u then (D.getD k default).z else 0) := by
  rw [List.take_succ_eq_append_getElem hk, backE_app, List.getD_eq_getElem?_getD, List.getElem?_eq_getElem hk]
  simp [backE]
theorem sumE_tk {D : List En} {k : Nat} (hk : k < D.length) : sumE (D.take (k + 1)) = sumE (D.take k) + (D.getD k default).z := by
  rw [List.take_succ_eq_append_getElem hk, sumE_app, List.getD_eq_getElem?_getD, List.getElem?_eq_getElem hk]
  simp [sumE]


theorem claim_cases (F : Fi) (u : ByteArray) (o : Po) : ((F.claim u o).2.2 ≠ 0 ∧ (F.claim u o).1 = F) ∨
    (o.may = true ∧ u = o.i ∧ hasF F.L u = false ∧ F.claim u o = (addF F u (o.paysN F.loss.toNat F.value.toNat : Int), min (o.paysN F.loss.toNat F.value.toNat : Int) (leftF F), 0)) := by
  unfold Fi.claim
  split
  · exact .inl ⟨by simp, rfl⟩
  · rename_i h1
    split
    · exact .inl ⟨by simp, rfl⟩
    · rename_i h2
      split
      · exact .inl ⟨by simp, rfl⟩
      · rename_i h3
        refine .inr ⟨by revert h1; cases o.may <;> simp, by simpa using h2, by revert h3; cases hasF F.L u <;> simp, rfl⟩
theorem rec_cases (F : Fi) (s : Int) : ((F.recover s).2.2 ≠ 0 ∧ (F.recover s).1 = F ∧ (F.recover s).2.1 = []) ∨ (1 ≤ s ∧ s ≤ 1099511627776 ∧ s ≤ outF F ∧ F.recover s = ((recF F s).1, (recF F s).2, 0)) := by
  unfold Fi.recover
  split
  · exact .inl ⟨by simp, rfl, rfl⟩
  · split
    · exact .inl ⟨by simp, rfl, rfl⟩
    · rename_i h1 h2
      exact .inr ⟨by omega, by omega, by omega, rfl⟩
theorem keeps_loss (F : Fi) (s : Int) : (F.recover s).1.loss = F.loss ∧ (F.recover s).1.L.length = F.L.length := by
  unfold Fi.recover
  repeat' split
  all_goals first | exact ⟨rfl, rfl⟩ | exact ⟨rfl, recK_len _ _⟩

theorem name_few {s : ByteArray} (h : nameB s = true) : s.size ≤ maxLen := by
  have := (name_iff s).1 h
  unfold maxLen; omega
theorem touch_of_grown {w w' : World} {row : Option Nat} (h : w.grownBy w' row) : Touch (fun k => row = some k) w w' :=
  (Touch.refl _ w).grown h (fun k hk => .inl hk)
theorem nrec_all {F : Fi} {fp fb : ByteArray → Int} {all : Int} (hE : Nev F fp fb all) (ok : FileOk F) (hl : F.L.length ≤ 20) (s : Int) :
    (∀ x ∈ (F.recover s).2.1, (x.t = ⟨#[]⟩ ∨ nameB x.t = true) ∧ 0 ≤ x.z) ∧ (F.recover s).2.1.length ≤ 21 ∧ sumE (F.recover s).2.1 ≤ 1099511627776 ∧ Nev (F.recover s).1 fp (fun u => fb u + backE (F.recover s).2.1 u) all ∧ ((F.recover s).2.2 = 0 → sumE (F.recover s).2.1 = s) ∧ ((F.recover s).2.2 ≠ 0 → (F.recover s).2.1 = []) := by
  rcases rec_cases F s with ⟨h1, h2, h3⟩ | ⟨h1, h2, h3, h4⟩
  · rw [h2, h3]
    refine ⟨by simp, by simp, by simp [sumE], ?_, fun h => absurd h h1, fun _ => rfl⟩
    have e : (fun u => fb u + backE ([] : List En) u) = fb := by funext u; simp [backE]
    rw [e]; exact hE
  · rw [h4]
    have k1 := hE.ents s
    have k2 := recF_ok ok (by omega) h3
    refine ⟨k1.1, by have := k1.2; show (recF F s).2.length ≤ 21; omega, by show sumE (recF F s).2 ≤ _; rw [k2.2.1]; exact h2, hE.back ok (by omega) h3, fun _ => k2.2.1, fun h => absurd rfl h⟩
theorem box_new2 {j : Nat} {v : Value} (w : World) (cs : Array Value) (t : TypeId) (h : cs[j]? = some v) : (w.alloc (.cells cs t)).cell? ⟨w.heap.size, j, none⟩ = some v := by
  unfold World.cell?; rw [heap_alloc_new]; exact h
theorem Nv.box {w0 w W3 : World} {bf bp cp bb cb : Nat} {v v' : Value} {F : Fi} {fp fb : ByteArray → Int} {cs : Array Value} {t : TypeId} (h : Nv w0 w bf v bp cp bb cb F fp fb) (hk : Keep bf v (w.alloc (.cells cs t)) v' W3) : W3.heap[w.heap.size]? = some (.cells cs t) := by
  refine (hk.touch.block w.heap.size (by simp) ?_).trans (heap_alloc_new _ _)
  rintro (e | e)
  · have := h.fi.lt; omega
  · have := own_lt h.fi.row e; omega
theorem Nv.left {w0 w : World} {bf bp cp bb cb : Nat} {v : Value} {F : Fi} {fp fb : ByteArray → Int} (h : Nv w0 w bf v bp cp bb cb F fp fb) : 0 ≤ leftF F ∧ leftF F ≤ 1099511627776 ∧ 0 ≤ paidF F ∧ paidF F + F.own ≤ F.loss ∧ F.loss ≤ 1099511627776 ∧ 0 ≤ F.own := by
  have := ok_bd h.fi.ok
  have := h.fi.ok.all
  omega

namespace claimNever
set_option maxHeartbeats 1000000 in
theorem skip (a0 a1 : Int) (ao : Option Addr) (n cap : Nat) (l : List Ac) (w : World) (h : Acs w (.slice ao n cap) l) (hn : n = l.length) (hcap : n ≤ maxLen) (hf : actsB l = false) :
    Calls Try.prog 5 #[.int .i64 a0, .int .i64 a1, .slice ao n cap] w fun e w' => e = .returned (.bool true) ∧ Below w.heap.size w w' := by
  have HF := Lib.hid (fun w h => acts_any ao n cap l w h hn hcap)
  rw [hf] at HF
  have H := Lib.hid h
  clear h hn hcap hf
  go_enter Try.func5, Try.ntmps5
  go_wp2_with fail
  refine (awake44_any _).mono ?_
  rintro e w1 ⟨rfl, hb1⟩
  have HB1 := Lib.hid hb1
  clear hb1
  go_wp2_with fail
  refine (HF.out _ (H.out.below HB1.out)).mono ?_
  rintro e w2 ⟨rfl, rfl⟩
  go_wp2_with fail
  refine (awake44_any _).mono ?_
  rintro e w3 ⟨rfl, hb3⟩
  have HB3 := Lib.hid (bt HB1.out hb3)
  clear hb3
  go_wp2
  go_ret
  exact ⟨rfl, HB3.out⟩

set_option maxRecDepth 100000 in
set_option maxHeartbeats 1000000 in
theorem bad (a0 a1 : Int) (ao : Option Addr) (n cap : Nat) (l : List Ac) (w : World) (h : Acs w (.slice ao n cap) l) (hn : n = l.length) (hcap : n ≤ maxLen) (hf : actsB l = true) (hs : newB a0 a1 = false) :
    Calls Try.prog 5 #[.int .i64 a0, .int .i64 a1, .slice ao n cap] w fun e w' => e = .returned (.bool true) ∧ Below w.heap.size w w' := by
  have HF := Lib.hid (fun w h => acts_any ao n cap l w h hn hcap)
  rw [hf] at HF
  have HS := Lib.hid (fun w => new_bad a0 a1 w hs)
  have H := Lib.hid h
  clear h hn hcap hf hs
  go_enter Try.func5, Try.ntmps5
  go_wp2_with fail
  refine (awake44_any _).mono ?_
  rintro e w1 ⟨rfl, hb1⟩
  have HB1 := Lib.hid hb1
  clear hb1
  go_wp2_with fail
  refine (HF.out _ (H.out.below HB1.out)).mono ?_
  rintro e w2 ⟨rfl, rfl⟩
  go_wp2_with fail
  refine (HS.out _).mono ?_
  rintro e w3 ⟨rfl, rfl⟩
  go_wp2
  go_ret
  exact ⟨rfl, HB1.out⟩

set_option maxRecDepth 100000 in
set_option maxHeartbeats 16000000 in
theorem good (a0 a1 : Int) (ao : Option Addr) (n cap : Nat) (l : List Ac) (w : World) (h : Acs w (.slice ao n cap) l) (hn : n = l.length) (hcap : n ≤ maxLen) (hf : actsB l = true) (hs : newB a0 a1 = true) :
    Calls Try.prog 5 #[.int .i64 a0, .int .i64 a1, .slice ao n cap] w fun e w' => e = .returned (.bool true) ∧ Below w.heap.size w w' := by
  have HF := Lib.hid (fun w h => acts_any ao n cap l w h hn hcap)
  rw [hf] at HF
  have h20 : n ≤ 20 := by rw [hn]; exact ((acts_iff l).1 hf).1
  have HS := Lib.hid (fun w => new_ok a0 a1 w hs)
  have H := Lib.hid h
  have HN := Lib.hid hn
  have HPf := Lib.hid (fun w b v f h => paid_any w b v f h)
  have hmm := @run_makeMap Try.prog 57
  clear h hn hcap hf hs
  go_enter Try.func5, Try.ntmps5
  go_wp2_with fail
  refine (awake44_any _).mono ?_
  rintro e w1 ⟨rfl, hb1⟩
  have HB1 := Lib.hid hb1
  clear hb1
  go_wp2_with fail
  refine (HF.out _ (H.out.below HB1.out)).mono ?_
  rintro e w2 ⟨rfl, rfl⟩
  go_wp2_with fail
  refine (HS.out _).mono ?_
  rintro e w3 ⟨rfl, hf3, hb3⟩
  have hx1 := (Below.refl w3.heap.size w3).alloc (Nat.le_refl _) (.map #[] 0)
  have hs1 : (w3.alloc (.map #[] 0)).heap.size = w3.heap.size + 1 := by simp
  have hx2 := (Below.refl (w3.alloc (.map #[] 0)).heap.size (w3.alloc (.map #[] 0))).alloc (Nat.le_refl _) (.map #[] 0)
  have HM2 := Lib.hid (show IMap Try.prog 9 2 ((w3.alloc (.map #[] 0)).alloc (.map #[] 0)) (w3.heap.size + 1) 0 (fun _ => 0) from by
    have := IMap.made Try.prog 9 2 (w3.alloc (.map #[] 0))
    rw [hs1] at this; exact this)
  have HV0 := Lib.hid (show Nv w ((w3.alloc (.map #[] 0)).alloc (.map #[] 0)) w2.heap.size (.slice none 0 0) w3.heap.size 0 (w3.heap.size + 1) 0 (Fi.new a0 a1) (fun _ => 0) (fun _ => 0) from
    ⟨(hf3.below hx1).below hx2, (IMap.made Try.prog 9 2 w3).touch (Touch.of_below (S := fun _ => False) hx2) (fun h => h), HM2.out, HB1.out.size, Nat.le_trans HB1.out.size hb3.size, by have := HB1.out.size; have := hb3.size; omega, (fun k e => by cases e), by have := hf3.lt; omega, by have := hf3.lt; omega, by omega, (fun e => by cases e), (fun e => by cases e), bt (bt (bt HB1.out hb3) hx1) hx2⟩)
  have HE0 := Lib.hid (Nev.new a0 a1)
  have HL0 := Lib.hid (show (Fi.new a0 a1).L.length ≤ 0 ∧ (Fi.new a0 a1).loss = a0 from ⟨Nat.le_refl _, rfl⟩)
  obtain ⟨bf, hbf⟩ : ∃ b, b = w2.heap.size := ⟨_, rfl⟩
  clear hf3 hb3 hx1 hx2 hs1 HM2 HF HS
  go_wp2_with fail
  generalize (w3.alloc (.map #[] 0)).alloc (.map #[] 0) = w4 at *
  obtain ⟨bp, hbp⟩ : ∃ b, b = w3.heap.size := ⟨_, rfl⟩
  obtain ⟨bb, hbb⟩ : ∃ b, b = w3.heap.size + 1 := ⟨_, rfl⟩
  rw [← hbf, ← hbb, ← hbp] at HV0
  rw [← hbf, ← hbb, ← hbp]
  clear hbf hbp hbb hmm
  generalize Fi.new a0 a1 = F0 at *
  go_loopw [11, 45] (fun t i wr => ∃ (k : Nat) (F : Fi) (v : Value) (cp cb : Nat) (fp fb : ByteArray → Int) (all : Int), k ≤ n ∧ i = .int .i64 (k : Int) ∧ t = .int .i64 all ∧ Hid (F.L.length ≤ k ∧ F.loss = a0 ∧ cp ≤ k ∧ cb ≤ 21 * k) ∧ Hid (Nev F fp fb all) ∧ Hid (Nv w wr bf v bp cp bb cb F fp fb)) (fun _ i _ => n - (intOf i).toNat)
  case atStart => exact ⟨0, F0, _, 0, 0, _, _, 0, Nat.zero_le _, rfl, rfl, Lib.hid ⟨HL0.out.1, HL0.out.2, Nat.le_refl _, Nat.le_refl _⟩, HE0, HV0⟩
  case round =>
    clear HV0 HL0 HE0
    obtain ⟨k, F, v, cp, cb, fp, fb, all, hk, rfl, rfl, hL, hE, hV⟩ := hrel
    by_cases hlt : k < n
    · have l1 : (k : Int) < (n : Int) := by omega
      have l0 : (0 : Int) ≤ (k : Int) := by omega
      obtain ⟨bl, off, rfl, hbl, hc⟩ := H.out.get HN.out (by omega)
      obtain ⟨u, i, f, t, sum, own, a, m, cap', zs, first, last, share, s, e, hmm, hc1, hc2, hok, k0, k1, k2, k3, k4, k5, k6, k7, k8, k9, k10⟩ := Acs.one hlt hc hbl hV.out.bel (H.out.mem (by rw [← HN.out]; exact hlt))
      have hl100 : F.L.length < 100 := by have := hL.out; omega
      have hba := (Below.refl wr.heap.size wr).alloc (Nat.le_refl _) (.cells #[.string u, .string i, .string f, .string t, .int .i64 sum, .int .i64 own, .slice a m cap', .int .i64 first, .int .i64 last, .int .i64 share, .int .i64 s] 43)
      have HVa := Lib.hid (hV.out.later hba)
      have HZi := Lib.hid (Ints.below (show Ints wr (Value.slice a m cap') zs from hok.zs) hba)
      clear hc e hmm hc1 hc2 hok
      by_cases g : s = 0
      · have e0 : (s == 0) = true := by simp [g]
        have e1 : (s != 0) = false := by simp [g]
        have HPC := Lib.hid (claim_any _ bf v F u ⟨i, f, t, sum, own, .slice a m cap', zs, first, last, share⟩ HVa.out.fi hl100 HZi.out)
        have HCs := Lib.hid (claim_cases F u ⟨i, f, t, sum, own, .slice a m cap', zs, first, last, share⟩)
        have HMy := Lib.hid (fun (hm : (Po.mk i f t sum own (.slice a m cap') zs first last share).may = true) => And.intro (may_nums hm) (show nameB i = true from by
          simp only [Po.may, Bool.and_eq_true] at hm; exact hm.1))
        have HPb := Lib.hid (fun (hm : (Po.mk i f t sum own (.slice a m cap') zs first last share).may = true) => pays_bd hm (loss := F.loss.toNat) (value := F.value.toNat) (by have := hV.out.fi.v0; omega))
        dsimp only at HPb
        have HPN := Lib.hid (fun (h : F.claim u ⟨i, f, t, sum, own, .slice a m cap', zs, first, last, share⟩ = (addF F u ((Po.mk i f t sum own (.slice a m cap') zs first last share).paysN F.loss.toNat F.value.toNat : Int), min ((Po.mk i f t sum own (.slice a m cap') zs first last share).paysN F.loss.toNat F.value.toNat : Int) (leftF F), 0)) => h)
        unfold Po.val Po.cells at HPC
        dsimp only at HPC
        clear g
        rcases HCs.out with ⟨hcc, hF⟩ | ⟨hm, hu, hh, hcl⟩
        · generalize F.claim u ⟨i, f, t, sum, own, .slice a m cap', zs, first, last, share⟩ = R at *
          obtain ⟨F', nn, cc⟩ := R
          dsimp only at HPC hcc hF
          subst hF
          have d5 : (cc == 0) = false := by simp [hcc]
          clear hcc HCs HMy HPb HPN
          go_wp2_with fail
          refine HPC.out.mono ?_
          rintro e5 w5 ⟨v5, rfl, hf5, hk5⟩
          have HV5 := Lib.hid (HVa.out.stepF hf5 hk5)
          clear hf5 hk5
          go_wp2
          go_roundw
          case rel => exact ⟨k + 1, F', _, cp, cb, fp, fb, all, by omega, by go_num, rfl, Lib.hid (by have := hL.out; omega), hE, HV5⟩
          case measure => simp [intOf]; omega
        · have hcl2 := HPN.out hcl
          have hnm : nameB u = true := by rw [hu]; exact (HMy.out hm).2
          have hAd := hE.out.add ((Po.mk i f t sum own (.slice a m cap') zs first last share).paysN F.loss.toNat F.value.toNat : Int) hnm hh
          have hpb := HPb.out hm
          have hlf := hV.out.left
          have hall := hE.out.eall
          obtain ⟨P, hP⟩ : ∃ P, P = min ((Po.mk i f t sum own (.slice a m cap') zs first last share).paysN F.loss.toNat F.value.toNat : Int) (leftF F) := ⟨_, rfl⟩
          rw [hcl2] at HPC
          dsimp only at HPC
          rw [← hP] at HPC hAd
          obtain ⟨hf0, hAd⟩ := hAd
          have HAd := Lib.hid hAd
          have HAl := Lib.hid (show (addF F u ((Po.mk i f t sum own (.slice a m cap') zs first last share).paysN F.loss.toNat F.value.toNat : Int)).L.length ≤ k + 1 ∧ (addF F u ((Po.mk i f t sum own (.slice a m cap') zs first last share).paysN F.loss.toNat F.value.toNat : Int)).loss = a0 from ⟨by have := hL.out.1; simp [addF]; exact this, hL.out.2.1⟩)
          generalize addF F u ((Po.mk i f t sum own (.slice a m cap') zs first last share).paysN F.loss.toNat F.value.toNat : Int) = F' at *
          have hus := name_few hnm
          have e5 : ((0 : Int) == 0) = true := by simp
          have d6 : decide (P < 0) = false := by rw [decide_eq_false_iff_not]; omega
          have d7 : decide (sum < P) = false := by rw [decide_eq_false_iff_not]; omega
          have hpw : (Lit.int .i64 P).wf = true := WalkArith.wf_i64 (by omega)
          have va : IntKind.i64.wrap (all + P) = all + P := IntWalk.i64_in _ (by omega)
          have HBx := Lib.hid (fun v5 w5 hk => hV.out.box (v' := v5) (W3 := w5) (cs := #[.string u, .string i, .string f, .string t, .int .i64 sum, .int .i64 own, .slice a m cap', .int .i64 first, .int .i64 last, .int .i64 share, .int .i64 s]) (t := 43) hk)
          have HUs := Lib.hid hus
          have HF0 := Lib.hid hf0
          clear hcl hcl2 hnm hpb hlf hall hP hAd hf0 HCs HMy HPb HPN hm hh hu
          go_wp2_with fail
          refine HPC.out.mono ?_
          rintro e5 w5 ⟨v5, rfl, hf5, hk5⟩
          have hx := HBx.out v5 w5 hk5
          have z0 : w5.cell? ⟨wr.heap.size, 0, none⟩ = some (.string u) := by simp [World.cell?, hx]
          have z4 : w5.cell? ⟨wr.heap.size, 4, none⟩ = some (.int .i64 sum) := by simp [World.cell?, hx]
          have HV5 := Lib.hid (HVa.out.stepF hf5 hk5)
          have hlk := imap_run (t := 57) HV5.out.mp Try.underlying9 Try.underlying57 Try.underlying2 (zeroI64 _) u hus
          rw [HF0.out] at hlk
          have hcp : cp < maxLen := by have := hL.out; unfold maxLen; omega
          clear hf5 hk5 hx
          go_wp2_with (at_mapUpdate; refine wpList_iset _ rfl _ _ _ 57 rfl 9 2 Try.underlying9 Try.underlying57 Try.underlying2 bp cp fp rfl HV5.out.mp hcp u rfl hus P rfl hpw ?_; intro w6 hm6 ht6; have HV6 := Lib.hid (HV5.out.stepP hm6 ht6); clear hm6 ht6)
          go_roundw
          case rel => exact ⟨k + 1, F', _, cp + 1, cb, _, fb, all + P, by omega, by go_num, rfl, Lib.hid (by have := hL.out; have := HAl.out; omega), HAd, HV6⟩
          case measure => simp [intOf]; omega
      · have e0 : (s == 0) = false := by rw [beq_eq_false_iff_ne]; exact g
        have e1 : (s != 0) = true := by simp [bne, e0]
        have HPR := Lib.hid (recover_any _ bf v F s HVa.out.fi)
        have HRa := Lib.hid (nrec_all hE.out hV.out.fi.ok (by have := hL.out; omega) s)
        have HKl := Lib.hid (keeps_loss F s)
        have HBd := Lib.hid (fun u => hE.out.bd hV.out.fi.ok u)
        generalize F.recover s = R at *
        obtain ⟨F', D, cc⟩ := R
        dsimp only at HPR HRa HKl
        have HBx := Lib.hid (fun v5 w5 hk => hV.out.box (v' := v5) (W3 := w5) (cs := #[.string u, .string i, .string f, .string t, .int .i64 sum, .int .i64 own, .slice a m cap', .int .i64 first, .int .i64 last, .int .i64 share, .int .i64 s]) (t := 43) hk)
        clear g HZi
        go_wp2_with fail
        refine HPR.out.mono ?_
        rintro e5 w5 ⟨vg, rfl, hf5, hen, hk5⟩
        have hx := HBx.out v w5 hk5
        have HX5 := Lib.hid hx
        have HV5 := Lib.hid (HVa.out.stepF hf5 hk5)
        have HEn := Lib.hid hen
        obtain ⟨vga, vgc, evg, -⟩ := hen.shape
        subst evg
        obtain ⟨dl, hdl⟩ : ∃ x, x = D.length := ⟨_, rfl⟩
        rw [← hdl] at HEn ⊢
        have HDl := Lib.hid hdl
        have hdl21 : dl ≤ 21 := by rw [hdl]; exact HRa.out.2.1
        have HNe := Lib.hid (show wr.heap.size ≠ bb by have := hV.out.mb.lt; omega)
        have HV50 := Lib.hid (show Nv w w5 bf v bp cp bb (cb + 0) F' fp (fun u => fb u + backE (D.take 0) u) from by
          have e : (fun u => fb u + backE (D.take 0) u) = fb := by funext u; simp [backE]
          rw [e]; exact HV5.out)
        obtain ⟨bx, hbx⟩ : ∃ b, b = wr.heap.size := ⟨_, rfl⟩
        rw [← hbx] at HX5 HNe ⊢
        clear hf5 hen hk5 hdl hx HPR hbx HBx k0 k1 k2 k3 k4 k5 k6 k7 k8 k9 k10
        go_wp2_with fail
        go_loopw [16, 61] (fun t i wr' => ∃ j : Nat, j ≤ dl ∧ i = .int .i64 (j : Int) ∧ t = .int .i64 (sumE (D.take j)) ∧ Hid (Nv w wr' bf v bp cp bb (cb + j) F' fp (fun u => fb u + backE (D.take j) u)) ∧ Hid (Touch (fun k => k = bb) w5 wr')) (fun _ i _ => dl - (intOf i).toNat)
        case atStart => exact ⟨0, Nat.zero_le _, rfl, rfl, HV50, Lib.hid (Touch.refl _ _)⟩
        case round =>
          clear HV50
          obtain ⟨j, hj, rfl, rfl, hVj, hTj⟩ := hrel
          by_cases hlt2 : j < dl
          · have l3 : (j : Int) < (dl : Int) := by omega
            have l4 : (0 : Int) ≤ (j : Int) := by omega
            have hjD : j < D.length := by rw [← HDl.out]; exact hlt2
            have hEj : Ens _ (.slice vga dl vgc) D := HEn.out.off_map HDl.out HV5.out.mb hTj.out
            obtain ⟨be, oe, rfl, hbe, hce⟩ := hEj.get HDl.out (by omega)
            obtain ⟨c0, c1, c2⟩ := hce j hlt2
            have HBt := Lib.hid (fun u => backE_take hjD u)
            have HSt := Lib.hid (sumE_tk hjD)
            have hnz : ∀ x ∈ D, 0 ≤ x.z := fun x hx => (HRa.out.1 x hx).2
            have s0 := sumE_take hnz j
            have s1 := sumE_take hnz (j + 1)
            have s2 := HRa.out.2.2.1
            rw [HSt.out] at s1
            have hmem : D.getD j default ∈ D := by rw [List.getD_eq_getElem?_getD, List.getElem?_eq_getElem hjD]; exact List.getElem_mem hjD
            have hnm := (HRa.out.1 _ hmem).1
            have hz0 := (HRa.out.1 _ hmem).2
            have hbk := backE_bd (D := D.take j) (D.getD j default).t (fun x hx => hnz x (List.mem_of_mem_take hx))
            have hbd := HBd.out (D.getD j default).t
            generalize D.getD j default = x at *
            obtain ⟨xt, xc, xz⟩ := x
            dsimp only at c0 c1 c2 HBt HSt s1 hnm hz0 hbk hbd
            have hxs : xt.size ≤ maxLen := by
              rcases hnm with e | e
              · subst e; exact Nat.zero_le _
              · exact name_few e
            have HVb := Lib.hid (hVj.out.later ((Below.refl wr.heap.size wr).alloc (Nat.le_refl _) (.cells #[.string xt, .string xc, .int .i64 xz] 59)))
            have hlk := imap_run (t := 57) HVb.out.mb Try.underlying9 Try.underlying57 Try.underlying2 (zeroI64 _) xt hxs
            obtain ⟨gx, hgx⟩ : ∃ gx, gx = fb xt + backE (D.take j) xt := ⟨_, rfl⟩
            rw [← hgx] at hlk
            have HFn := Lib.hid (show (fun u => if u = xt then gx + xz else (fun u => fb u + backE (D.take j) u) u) = fun u => fb u + backE (D.take (j + 1)) u from by
              funext u
              dsimp only
              rw [HBt.out u]
              by_cases e : u = xt
              · subst e; rw [if_pos rfl, if_pos rfl, hgx]; omega
              · rw [if_neg e, if_neg (fun e2 => e e2.symm)]; omega)
            have v1 : IntKind.i64.wrap (gx + xz) = gx + xz := IntWalk.i64_in _ (by omega)
            have hgw : (Lit.int .i64 (gx + xz)).wf = true := WalkArith.wf_i64 (by omega)
            obtain ⟨sj, hsj⟩ : ∃ sj, sj = sumE (D.take j) := ⟨_, rfl⟩
            rw [← hsj] at HSt s0 s1 ⊢
            have v2 : IntKind.i64.wrap (sj + xz) = sj + xz := IntWalk.i64_in _ (by omega)
            have hcb : cb + j < maxLen := by have := hL.out; unfold maxLen; omega
            have hnb : ¬ (wr.heap.size = bb) := by have := hVj.out.mb.lt; omega
            have HTb := Lib.hid (hTj.out.alloc (.cells #[.string xt, .string xc, .int .i64 xz] 59))
            clear hce hnz s0 s1 s2 hmem hnm hz0 hbk hbd hgx hsj hEj
            go_wp2_with (at_mapUpdate; refine wpList_iset _ rfl _ _ _ 57 rfl 9 2 Try.underlying9 Try.underlying57 Try.underlying2 bb (cb + j) (fun u => fb u + backE (D.take j) u) rfl HVb.out.mb hcb xt rfl hxs (gx + xz) rfl hgw ?_; intro w6 hm6 ht6; have HV6 := Lib.hid (HVb.out.stepB (fb' := fun u => fb u + backE (D.take (j + 1)) u) (by rw [← HFn.out]; exact hm6) ht6); have HT6 := Lib.hid (HTb.out.trans ht6 (fun x hx => .inl hx)); have z2 := cell_touch (box_new2 (j := 2) (v := .int .i64 xz) wr #[.string xt, .string xc, .int .i64 xz] 59 rfl) ht6 hnb; clear hm6 ht6)
            go_roundw
            case rel => exact ⟨j + 1, by omega, by go_num, by rw [HSt.out], HV6, HT6⟩
            case measure => simp [intOf]; omega
          · obtain rfl : j = dl := by omega
            have eD : D.take j = D := List.take_of_length_le (by rw [HDl.out]; exact Nat.le_refl _)
            rw [eD] at hVj
            rw [eD]
            have hx := (hTj.out.block bx (lt_of_block HX5.out) HNe.out).trans HX5.out
            have z10 : wr.cell? ⟨bx, 10, none⟩ = some (.int .i64 s) := by simp [World.cell?, hx]
            have HFin := Lib.hid (show F'.L.length ≤ k + 1 ∧ F'.loss = a0 ∧ cp ≤ k + 1 ∧ cb + j ≤ 21 * (k + 1) by have := hL.out; have := HKl.out; omega)
            have HNf := Lib.hid HRa.out.2.2.2.1
            by_cases gcc : cc = 0
            · have hsum := HRa.out.2.2.2.2.1 gcc
              rw [hsum]
              have e6 : (cc == 0) = true := by simp [gcc]
              have e7 : (cc != 0) = false := by simp [gcc]
              have e8 : (s == s) = true := by simp
              have e9 : (s != s) = false := by simp
              clear gcc hsum eD hx
              go_wp2
              go_roundw
              case rel => exact ⟨k + 1, F', _, cp, cb + j, fp, _, all, by omega, by go_num, rfl, HFin, HNf, hVj⟩
              case measure => simp [intOf]; omega
            · have hD := HRa.out.2.2.2.2.2 gcc
              have hj0 : j = 0 := by rw [HDl.out, hD]; rfl
              have e6 : (cc == 0) = false := by simp [gcc]
              have e7 : (cc != 0) = true := by simp [gcc]
              have e8 : ((j : Int) == 0) = true := by rw [hj0]; rfl
              have e9 : ((j : Int) != 0) = false := by rw [hj0]; rfl
              clear gcc hD eD hx hj0
              go_wp2
              go_roundw
              case rel => exact ⟨k + 1, F', _, cp, cb + j, fp, _, all, by omega, by go_num, rfl, HFin, HNf, hVj⟩
              case measure => simp [intOf]; omega
    · obtain rfl : k = n := by omega
      obtain ⟨wz, hwz⟩ : ∃ wz, wz = wr := ⟨_, rfl⟩
      subst hwz
      obtain ⟨Dm, ho, hf⟩ := hV.out.mb
      have HLe := Lib.hid (show ∀ u : ByteArray, u ≠ ⟨#[]⟩ → fb u ≤ fp u from fun u hu => hE.out.le hV.out.fi.ok hu)
      have hlf := hV.out.left
      have HF0 := Lib.hid hE.out.efb0
      have HAll := Lib.hid hE.out.eall
      have HLo := Lib.hid hL.out.2.1
      have HFm := Lib.hid hf
      clear hf
      go_wp2_with (at_range; refine wpList_range_own _ rfl _ 57 rfl 9 2 (Maps.string_keyed Try.underlying9) Try.underlying57 _ bb cb Dm rfl ho ?_; intro w5 hrg0 hg0 hs0)
      go_frame
      have HB5 := Lib.hid (show Below wz.heap.size wz w5 from (touch_of_grown hg0).below (Nat.le_refl _) (fun x hx => by cases hx))
      have HR0 := Lib.hid hrg0
      clear hrg0 hg0 hs0 ho
      go_loopw [21] (fun _ wr => ∃ (left : Lit → Bool) (cnt : Nat), Hid (wr.ranges Try.prog 9 (plainElem Try.prog 2) bb wz.heap.size cb Dm left cnt) ∧ Hid (Below wz.heap.size wz wr)) (fun _ wr => wr.rangeLeft bb wz.heap.size)
      case atStart => exact ⟨_, _, HR0, HB5⟩
      case round =>
        clear HR0 HB5
        obtain ⟨left, cnt, hrg, hb⟩ := hrel
        have HVr := Lib.hid (hV.out.later hb.out)
        have hrg' := hrg.out
        go_wp2_with (at_next; refine wpList_next_si _ rfl _ rfl 9 2 Try.underlying9 Try.underlying2 bb wz.heap.size cb Dm _ _ rfl hrg' ?_ ?_)
        · have hall := HAll.out
          subst hall
          have HP6 := Lib.hid (HPf.out _ bf v F HVr.out.fi)
          obtain ⟨P, hP⟩ : ∃ P, P = paidF F := ⟨_, rfl⟩
          rw [← hP] at HP6 hlf ⊢
          have HLl := Lib.hid (show 0 ≤ P ∧ P + F.own ≤ a0 ∧ a0 ≤ 1099511627776 ∧ 0 ≤ F.own by have := HLo.out; omega)
          clear hlf hP hrg' HAll
          go_wp2_with fail
          refine HP6.out.mono ?_
          rintro e w6 ⟨rfl, hb6⟩
          have HV6 := Lib.hid (HVr.out.later hb6)
          have hlk := imap_run (t := 57) HV6.out.mb Try.underlying9 Try.underlying57 Try.underlying2 (zeroI64 _) ⟨#[]⟩ (Nat.zero_le _)
          rw [HF0.out] at hlk
          have hll := HLl.out
          have v1 : IntKind.i64.wrap (P + F.own) = P + F.own := IntWalk.i64_in _ (by omega)
          have d1 : decide (P + F.own ≤ a0) = true := by rw [decide_eq_true_iff]; exact hll.2.1
          have d2 : (P == P) = true := by simp
          clear hb6 hll
          go_wp2
          go_ret
          exact ⟨rfl, HV6.out.bel⟩
        · intro x c w6 left' cnt1 hx hat hrg1 hlt hg1 hen
          have hc : c = fb x := by
            have h1 := (hat (.lit (.int .i64 0))).symm.trans (HFm.out x)
            injection h1 with h1
            injection h1
          have HB6 := Lib.hid (hb.out.trans ((touch_of_grown hg1).below hb.out.size (fun y hy => by cases hy; exact Nat.le_refl _)))
          have HV6 := Lib.hid (hV.out.later HB6.out)
          have HR6 := Lib.hid hrg1
          have HLt := Lib.hid (show w6.rangeLeft bb wz.heap.size < wr.rangeLeft bb wz.heap.size by rw [hrg1.left_eq, hrg'.left_eq]; exact hlt)
          have hlk := imap_run (t := 57) HV6.out.mp Try.underlying9 Try.underlying57 Try.underlying2 (zeroI64 _) x hx
          by_cases hx0 : x = ⟨#[]⟩
          · subst hx0
            clear hat hrg1 hg1 hlt hrg' hc hlf
            go_wp2
            go_roundw
            case rel => exact ⟨left', cnt1, HR6, HB6⟩
            case measure => exact HLt.out
          · have hne : (x.toList == (⟨#[]⟩ : ByteArray).toList) = false := (Lib.bytes_beq_false_iff _ _).2 hx0
            have hne2 : x.toList.isEmpty = false := by simpa using hne
            have d1 : decide (fp x < c) = false := by rw [decide_eq_false_iff_not, hc]; have := HLe.out x hx0; omega
            clear hat hrg1 hg1 hlt hrg' hc hlf hx0
            go_wp2
            go_roundw
            case rel => exact ⟨left', cnt1, HR6, HB6⟩
            case measure => exact HLt.out

theorem walk (a0 a1 : Int) (v2 : Value) (w : World) (w0 : (Lit.int .i64 a0).wf = true) (w1 : (Lit.int .i64 a1).wf = true) (w2 : Is34 w v2) :
    Calls Try.prog 5 #[.int .i64 a0, .int .i64 a1, v2] w fun e w' => e = .returned (.bool true) ∧ Below w.heap.size w w' := by
  obtain ⟨l, h⟩ := w2
  obtain ⟨ao, cap, rfl, h1, h2, _⟩ := h.shape
  cases hf : actsB l with
  | false => exact skip a0 a1 ao l.length cap l w h rfl (by omega) hf
  | true =>
    cases hs : newB a0 a1 with
    | false => exact bad a0 a1 ao l.length cap l w h rfl (by omega) hf hs
    | true => exact good a0 a1 ao l.length cap l w h rfl (by omega) hf hs
end claimNever
end Go.Proofs.Ytamfdkigokicoaa
