/-
  Loads on a ship, plain: which put is done, and that a whole lot of them stands just if it is good, whatever the order within a tier.
-/
import Derived.Test.YtllaahdbngjigaaDoorRows
namespace Go.Proofs.YtllaahdbngjigaaDoor
open Go
set_option linter.unusedVariables false
set_option linter.unusedSimpArgs false

/-- A load. -/
structure Ld where
  b : Int
  r : Int
  t : Int
  nm : ByteArray
  wt : Int
  cl : Int
  pt : Int
instance : Inhabited Ld := ⟨⟨0, 0, 0, ⟨#[]⟩, 0, 0, 0⟩⟩
/-- A ship's numbers. -/
structure Shp where
  bays : Int
  rows : Int
  tiers : Int
  stack : Int
  most : Int
/-- What holds of each load that is asked about. -/
structure Ld.fine (x : Ld) : Prop where
  b : 0 ≤ x.b ∧ x.b ≤ 2
  r : 0 ≤ x.r ∧ x.r ≤ 2
  t : 0 ≤ x.t ∧ x.t ≤ 2
  wt : 1 ≤ x.wt ∧ x.wt ≤ 256
  cl : 0 ≤ x.cl ∧ x.cl ≤ 9
  pt : 0 ≤ x.pt ∧ x.pt ≤ 4
structure Shp.fine (s : Shp) : Prop where
  bays : 1 ≤ s.bays ∧ s.bays ≤ 3
  rows : 1 ≤ s.rows ∧ s.rows ≤ 3
  tiers : 1 ≤ s.tiers ∧ s.tiers ≤ 3
  stack : 0 ≤ s.stack ∧ s.stack ≤ 65535
  most : 0 ≤ s.most ∧ s.most ≤ 65535

def isAt (b r t : Int) (x : Ld) : Bool := decide (x.b = b) && decide (x.r = r) && decide (x.t = t)
theorem isAt_iff {b r t : Int} {x : Ld} : isAt b r t x = true ↔ x.b = b ∧ x.r = r ∧ x.t = t := by simp [isAt, and_assoc]
/-- What stands in a slot. -/
def atL (L : List Ld) (b r t : Int) : Option Ld := L.find? (isAt b r t)
theorem atL_some {L : List Ld} {b r t : Int} {x : Ld} (h : atL L b r t = some x) : x ∈ L ∧ x.b = b ∧ x.r = r ∧ x.t = t :=
  ⟨List.mem_of_find?_eq_some h, isAt_iff.1 (List.find?_some h)⟩
theorem atL_none {L : List Ld} {b r t : Int} (h : atL L b r t = none) : ∀ x ∈ L, ¬ (x.b = b ∧ x.r = r ∧ x.t = t) := by
  intro x hx e
  exact List.find?_eq_none.1 h x hx (isAt_iff.2 e)
theorem atL_is {L : List Ld} {x : Ld} (h : x ∈ L) : ∃ y, atL L x.b x.r x.t = some y := by
  cases e : atL L x.b x.r x.t with
  | some y => exact ⟨y, rfl⟩
  | none => exact absurd ⟨rfl, rfl, rfl⟩ (atL_none e x h)

/-- A stack's loads from a tier on. -/
def stkN (L : List Ld) (b r : Int) : Nat → Int → List Ld
  | 0, _ => []
  | n + 1, t => match atL L b r t with
    | none => []
    | some x => x :: stkN L b r n (t + 1)
def stkF (L : List Ld) (b r : Int) : List Ld := stkN L b r 3 0
theorem stkN_of (L : List Ld) (b r : Int) : ∀ (n : Nat) (t : Int) (ys : List Ld), ys.length ≤ n → (∀ (i : Nat) y, ys[i]? = some y → atL L b r (t + i) = some y) → (ys.length < n → atL L b r (t + ys.length) = none) → stkN L b r n t = ys
  | 0, t, ys, hl, _, _ => (List.eq_nil_of_length_eq_zero (by omega)).symm
  | n + 1, t, [], _, _, he => by
    have e : atL L b r t = none := by simpa using he (by simp)
    simp [stkN, e]
  | n + 1, t, y :: ys, hl, hp, he => by
    have e : atL L b r t = some y := by simpa using hp 0 y rfl
    have ih := stkN_of L b r n (t + 1) ys (by simpa using hl) (fun i z hz => by
      have := hp (i + 1) z (by simpa using hz)
      rw [show t + 1 + (i : Int) = t + ((i + 1 : Nat) : Int) by omega]; exact this) (fun h => by
      have := he (by simpa using h)
      rw [show t + 1 + (ys.length : Int) = t + (((y :: ys).length : Nat) : Int) by simp; omega]; exact this)
    simp [stkN, e, ih]
theorem stkF_of (L : List Ld) (b r : Int) (hL : ∀ x ∈ L, x.fine) (ys : List Ld) (hp : ∀ (i : Nat) y, ys[i]? = some y → atL L b r i = some y) (he : atL L b r ys.length = none) : stkF L b r = ys := by
  have hl : ys.length ≤ 3 := by
    rcases Nat.lt_or_ge 3 ys.length with h | h
    · have := hp 3 _ (List.getElem?_eq_getElem h)
      obtain ⟨hm, _, _, ht⟩ := atL_some this
      have := (hL _ hm).t
      omega
    · exact h
  exact stkN_of L b r 3 0 ys hl (fun i y hy => by rw [Int.zero_add]; exact hp i y hy) (fun _ => by rw [Int.zero_add]; exact he)
theorem stkN_mem {L : List Ld} {b r : Int} : ∀ {n : Nat} {t : Int} {y : Ld}, y ∈ stkN L b r n t → y ∈ L ∧ y.b = b ∧ y.r = r ∧ t ≤ y.t
  | 0, _, _, h => by simp [stkN] at h
  | n + 1, t, y, h => by
    unfold stkN at h
    cases e : atL L b r t with
    | none => simp [e] at h
    | some x =>
      obtain ⟨h1, h2, h3, h4⟩ := atL_some e
      simp only [e, List.mem_cons] at h
      rcases h with rfl | h
      · exact ⟨h1, h2, h3, by omega⟩
      · obtain ⟨k1, k2, k3, k4⟩ := stkN_mem h
        exact ⟨k1, k2, k3, by omega⟩
theorem stkN_nodup (L : List Ld) (b r : Int) : ∀ (n : Nat) (t : Int), (stkN L b r n t).Nodup
  | 0, _ => by simp [stkN]
  | n + 1, t => by
    unfold stkN
    cases e : atL L b r t with
    | none => simp
    | some x =>
      obtain ⟨_, _, _, h4⟩ := atL_some e
      refine List.nodup_cons.2 ⟨fun h => ?_, stkN_nodup L b r n (t + 1)⟩
      have := (stkN_mem h).2.2.2
      omega
theorem stkN_len (L : List Ld) (b r : Int) : ∀ (n : Nat) (t : Int), (stkN L b r n t).length ≤ n
  | 0, _ => by simp [stkN]
  | n + 1, t => by
    unfold stkN
    cases e : atL L b r t with
    | none => simp
    | some x => have := stkN_len L b r n (t + 1); simp; omega

def wsum (L : List Ld) : Int := (L.map (·.wt)).sum
theorem wsum_app (A B : List Ld) : wsum (A ++ B) = wsum A + wsum B := by simp [wsum, List.sum_append_int]
theorem wsum_one (x : Ld) : wsum [x] = x.wt := by simp [wsum]
theorem wsum_perm {A B : List Ld} (h : A.Perm B) : wsum A = wsum B := by
  induction h with
  | nil => rfl
  | cons x _ ih => unfold wsum at *; simp [ih]
  | swap x y l => unfold wsum; simp; omega
  | trans _ _ h1 h2 => exact h1.trans h2
theorem wsum_bd : ∀ (L : List Ld), (∀ x ∈ L, x.fine) → 0 ≤ wsum L ∧ wsum L ≤ L.length * 256
  | [], _ => by simp [wsum]
  | x :: L, h => by
    have h1 := wsum_bd L (fun y hy => h y (by simp [hy]))
    have h2 := (h x (by simp)).wt
    have e : wsum (x :: L) = x.wt + wsum L := by simp [wsum]
    rw [e]
    simp only [List.length_cons]
    omega

/-- Does a class lie apart from another one? -/
def apT (a : Int) : Int := [0, 1020, 40, 288, 288, 320, 0, 512, 0, 0].getD a.toNat 0
def apH (a b : Int) : Bool := bits BinOp.and IntKind.i64 (apT a / 2 ^ b.toNat) 1 == 1
def apB (a b : Int) : Bool := apH a b || apH b a
theorem apB_comm (a b : Int) : apB a b = apB b a := Bool.or_comm _ _
theorem apB_self (a : Int) (h : 0 ≤ a ∧ a ≤ 9) : apB a a = false := by
  obtain ⟨n, rfl⟩ : ∃ n : Nat, a = n := ⟨a.toNat, by omega⟩
  have hn : n < 10 := by omega
  have : ∀ n : Nat, n < 10 → apB (n : Int) (n : Int) = false := by decide
  exact this n hn

def hasB (s : Shp) (x : Ld) : Bool := decide (x.b ≤ s.bays - 1) && decide (x.r ≤ s.rows - 1) && decide (x.t ≤ s.tiers - 1)
def unB (L : List Ld) (x : Ld) : Bool := if x.t = 0 then false else match atL L x.b x.r (x.t - 1) with
  | none => true
  | some y => decide (y.wt < x.wt)
def fullB (s : Shp) (L : List Ld) (x : Ld) : Bool := decide (s.stack < wsum (stkF L x.b x.r) + x.wt) || decide (s.most < wsum L + x.wt)
def offs : List (Int × Int) := [(0, 0), (-1, 0), (1, 0), (0, -1), (0, 1)]
def apF (L : List Ld) (x : Ld) : Bool := offs.any fun d => (stkF L (x.b + d.1) (x.r + d.2)).any fun y => apB x.cl y.cl
/-- What a put tells. -/
def putE (s : Shp) (L : List Ld) (x : Ld) : Int :=
  if hasB s x = false then 3 else if (atL L x.b x.r x.t).isSome = true then 8 else if unB L x = true then 6 else if fullB s L x = true then 7 else if apF L x = true then 12 else 0

def near (x y : Ld) : Prop := ∃ d ∈ offs, y.b = x.b + d.1 ∧ y.r = x.r + d.2
theorem near_iff (x y : Ld) : near x y ↔ (y.b = x.b ∧ (y.r = x.r ∨ y.r = x.r - 1 ∨ y.r = x.r + 1)) ∨ (y.r = x.r ∧ (y.b = x.b - 1 ∨ y.b = x.b + 1)) := by
  unfold near offs
  simp only [List.mem_cons, List.not_mem_nil, or_false]
  constructor
  · rintro ⟨d, (rfl | rfl | rfl | rfl | rfl), h1, h2⟩ <;> simp at h1 h2 <;> omega
  · rintro (⟨h1, h2 | h2 | h2⟩ | ⟨h1, h2 | h2⟩)
    · exact ⟨(0, 0), by simp, by simp [h1], by simp [h2]⟩
    · exact ⟨(0, -1), by simp, by simp [h1], by simp [h2]; omega⟩
    · exact ⟨(0, 1), by simp, by simp [h1], by simp [h2]⟩
    · exact ⟨(-1, 0), by simp, by simp [h2]; omega, by simp [h1]⟩
    · exact ⟨(1, 0), by simp, by simp [h2], by simp [h1]⟩
theorem near_comm {x y : Ld} (h : near x y) : near y x := by
  rw [near_iff] at *; omega

def slotNe (x y : Ld) : Prop := ¬ (x.b = y.b ∧ x.r = y.r ∧ x.t = y.t)
def inStk (b r : Int) (x : Ld) : Bool := decide (x.b = b) && decide (x.r = r)
/-- Loads that may stand together. -/
structure Good (s : Shp) (L : List Ld) : Prop where
  on : ∀ x ∈ L, hasB s x = true
  ne : L.Pairwise slotNe
  up : ∀ x ∈ L, x.t ≠ 0 → ∃ y ∈ L, y.b = x.b ∧ y.r = x.r ∧ y.t = x.t - 1 ∧ x.wt ≤ y.wt
  st : ∀ b r, wsum (L.filter (inStk b r)) ≤ s.stack
  mo : wsum L ≤ s.most
  ap : ∀ x ∈ L, ∀ y ∈ L, near x y → apB x.cl y.cl = false
theorem Good.perm {s : Shp} {A B : List Ld} (h : Good s A) (p : A.Perm B) : Good s B where
  on x hx := h.on x (p.mem_iff.2 hx)
  ne := (p.pairwise_iff (fun {x y} (h : slotNe x y) e => h ⟨e.1.symm, e.2.1.symm, e.2.2.symm⟩)).1 h.ne
  up x hx ht := by
    obtain ⟨y, hy, h1⟩ := h.up x (p.mem_iff.2 hx) ht
    exact ⟨y, p.mem_iff.1 hy, h1⟩
  st b r := by rw [← wsum_perm (p.filter _)]; exact h.st b r
  mo := by rw [← wsum_perm p]; exact h.mo
  ap x hx y hy := h.ap x (p.mem_iff.2 hx) y (p.mem_iff.2 hy)
theorem Good.nil (s : Shp) (hs : s.fine) : Good s [] := ⟨by simp, by simp, by simp, by intro b r; simpa [wsum] using hs.stack.1, by simpa [wsum] using hs.most.1, by simp⟩

theorem ne_uniq {L : List Ld} (h : L.Pairwise slotNe) {x y : Ld} (hx : x ∈ L) (hy : y ∈ L) (e : x.b = y.b ∧ x.r = y.r ∧ x.t = y.t) : x = y := by
  induction L with
  | nil => simp at hx
  | cons z L ih =>
    obtain ⟨h1, h2⟩ := List.pairwise_cons.1 h
    rcases List.mem_cons.1 hx with rfl | kx <;> rcases List.mem_cons.1 hy with rfl | ky
    · rfl
    · exact absurd e (h1 y ky)
    · exact absurd ⟨e.1.symm, e.2.1.symm, e.2.2.symm⟩ (h1 x kx)
    · exact ih h2 kx ky
theorem ne_nodup {L : List Ld} (h : L.Pairwise slotNe) : L.Nodup := h.imp (fun {x y} h e => h (by rw [e]; exact ⟨rfl, rfl, rfl⟩))
theorem ne_at {L : List Ld} (h : L.Pairwise slotNe) {x : Ld} (hx : x ∈ L) : atL L x.b x.r x.t = some x := by
  obtain ⟨y, hy⟩ := atL_is hx
  obtain ⟨h1, h2, h3, h4⟩ := atL_some hy
  rw [hy, ne_uniq h h1 hx ⟨h2, h3, h4⟩]

/-- Below a load there is one at each tier. -/
theorem Good.down {s : Shp} {L : List Ld} (h : Good s L) (hL : ∀ x ∈ L, x.fine) : ∀ (n : Nat) (x : Ld), x ∈ L → x.t = n → ∀ t : Int, 0 ≤ t → t ≤ x.t → ∃ y, atL L x.b x.r t = some y
  | 0, x, hx, hn, t, h0, h1 => by
    obtain rfl : t = x.t := by omega
    exact atL_is hx
  | n + 1, x, hx, hn, t, h0, h1 => by
    by_cases e : t = x.t
    · rw [e]; exact atL_is hx
    · obtain ⟨y, hy, hb, hr, ht, _⟩ := h.up x hx (by omega)
      rw [← hb, ← hr]
      exact Good.down h hL n y hy (by omega) t h0 (by omega)
theorem stkN_all {L : List Ld} {b r : Int} {x : Ld} (hx : atL L b r x.t = some x) : ∀ (n : Nat) (t : Int), t ≤ x.t → x.t < t + n → (∀ u : Int, t ≤ u → u ≤ x.t → ∃ y, atL L b r u = some y) → x ∈ stkN L b r n t
  | 0, t, h1, h2, _ => by omega
  | n + 1, t, h1, h2, hd => by
    unfold stkN
    obtain ⟨y, hy⟩ := hd t (Int.le_refl _) h1
    rw [hy]
    by_cases e : t = x.t
    · rw [e, hx] at hy
      cases hy
      simp
    · exact List.mem_cons_of_mem _ (stkN_all hx n (t + 1) (by omega) (by omega) (fun u h3 h4 => hd u (by omega) h4))
/-- A stack that is read from below has all its loads. -/
theorem Good.stk {s : Shp} {L : List Ld} (h : Good s L) (hL : ∀ x ∈ L, x.fine) (b r : Int) : (stkF L b r).Perm (L.filter (inStk b r)) := by
  refine (List.perm_ext_iff_of_nodup (stkN_nodup _ _ _ _ _) ((ne_nodup h.ne).filter _)).2 fun x => ?_
  constructor
  · intro hx
    obtain ⟨h1, h2, h3, _⟩ := stkN_mem hx
    exact List.mem_filter.2 ⟨h1, by simp [inStk, h2, h3]⟩
  · intro hx
    obtain ⟨h1, h2⟩ := List.mem_filter.1 hx
    simp [inStk] at h2
    obtain ⟨rfl, rfl⟩ := h2
    have ht := (hL x h1).t
    refine stkN_all (ne_at h.ne h1) 3 0 ht.1 (by omega) (fun u h3 h4 => ?_)
    exact h.down hL x.t.toNat x h1 (by omega) u h3 h4
theorem Good.stk_mem {s : Shp} {L : List Ld} (h : Good s L) (hL : ∀ x ∈ L, x.fine) {b r : Int} {y : Ld} : y ∈ stkF L b r ↔ y ∈ L ∧ y.b = b ∧ y.r = r := by
  rw [(h.stk hL b r).mem_iff, List.mem_filter]
  simp [inStk]
theorem apF_iff {s : Shp} {L : List Ld} (h : Good s L) (hL : ∀ x ∈ L, x.fine) (x : Ld) : apF L x = false ↔ ∀ y ∈ L, near x y → apB x.cl y.cl = false := by
  unfold apF near
  rw [List.any_eq_false]
  constructor
  · rintro h1 y hy ⟨d, hd, e1, e2⟩
    have := h1 d hd
    rw [Bool.not_eq_true, List.any_eq_false] at this
    simpa using this y ((h.stk_mem hL).2 ⟨hy, e1, e2⟩)
  · intro h1 d hd
    rw [Bool.not_eq_true, List.any_eq_false]
    intro y hy
    obtain ⟨k1, k2, k3⟩ := (h.stk_mem hL).1 hy
    simpa using h1 y k1 ⟨d, hd, k2, k3⟩
theorem near_self (x : Ld) : near x x := ⟨(0, 0), by simp [offs], by simp, by simp⟩

theorem put_iff (s : Shp) (L : List Ld) (x : Ld) : putE s L x = 0 ↔ hasB s x = true ∧ atL L x.b x.r x.t = none ∧ unB L x = false ∧ fullB s L x = false ∧ apF L x = false := by
  unfold putE
  cases hasB s x <;> cases atL L x.b x.r x.t <;> cases unB L x <;> cases fullB s L x <;> cases apF L x <;> simp
theorem un_iff {L : List Ld} {x : Ld} (h : L.Pairwise slotNe) : unB L x = false ↔ (x.t ≠ 0 → ∃ y ∈ L, y.b = x.b ∧ y.r = x.r ∧ y.t = x.t - 1 ∧ x.wt ≤ y.wt) := by
  unfold unB
  by_cases e : x.t = 0
  · simp [e]
  · rw [if_neg e]
    cases ha : atL L x.b x.r (x.t - 1) with
    | none =>
      simp only [Bool.true_eq_false, false_iff]
      intro hf
      obtain ⟨y, hy, h1, h2, h3, _⟩ := hf e
      exact atL_none ha y hy ⟨h1, h2, h3⟩
    | some y =>
      obtain ⟨h1, h2, h3, h4⟩ := atL_some ha
      simp only [decide_eq_false_iff_not]
      constructor
      · intro hw _
        exact ⟨y, h1, h2, h3, h4, by omega⟩
      · intro hf
        obtain ⟨z, hz, k1, k2, k3, k4⟩ := hf e
        have : z = y := ne_uniq h hz h1 ⟨by omega, by omega, by omega⟩
        subst this
        omega

/-- One more. -/
theorem Good.step {s : Shp} {L : List Ld} (h : Good s L) (hL : ∀ x ∈ L, x.fine) (x : Ld) (hx : x.fine) : putE s L x = 0 ↔ (Good s (L ++ [x])) ∨ (putE s L x = 0 ∧ ¬ Good s (L ++ [x])) := by
  by_cases hg : Good s (L ++ [x])
  · simp only [hg, not_true, and_false, or_false, iff_true]
    rw [put_iff]
    refine ⟨hg.on x (by simp), ?_, ?_, ?_, ?_⟩
    · cases e : atL L x.b x.r x.t with
      | none => rfl
      | some y =>
        obtain ⟨h1, h2, h3, h4⟩ := atL_some e
        exact absurd ⟨h2, h3, h4⟩ ((List.pairwise_append.1 hg.ne).2.2 y h1 x (by simp))
    · rw [un_iff h.ne]
      intro ht
      obtain ⟨y, hy, h1, h2, h3, h4⟩ := hg.up x (by simp) ht
      rcases List.mem_append.1 hy with hy | hy
      · exact ⟨y, hy, h1, h2, h3, h4⟩
      · simp at hy; subst hy; omega
    · unfold fullB
      have h1 := hg.st x.b x.r
      have h2 := hg.mo
      rw [List.filter_append, wsum_app, wsum_perm (h.stk hL x.b x.r).symm] at h1
      rw [show ([x].filter (inStk x.b x.r)) = [x] by simp [inStk], wsum_one] at h1
      rw [wsum_app, wsum_one] at h2
      simp; omega
    · rw [apF_iff h hL]
      intro y hy hn
      exact hg.ap x (by simp) y (by simp [hy]) hn
  · simp [hg]
theorem Good.more {s : Shp} {L : List Ld} (h : Good s L) (hL : ∀ x ∈ L, x.fine) {x : Ld} (hx : x.fine) (hp : putE s L x = 0) : Good s (L ++ [x]) := by
  rw [put_iff] at hp
  obtain ⟨p1, p2, p3, p4, p5⟩ := hp
  refine ⟨?_, ?_, ?_, ?_, ?_, ?_⟩
  · intro y hy
    rcases List.mem_append.1 hy with hy | hy
    · exact h.on y hy
    · simp at hy; subst hy; exact p1
  · refine List.pairwise_append.2 ⟨h.ne, by simp, fun y hy z hz => ?_⟩
    simp at hz; subst hz
    exact atL_none p2 y hy
  · intro y hy ht
    rcases List.mem_append.1 hy with hy | hy
    · obtain ⟨z, hz, h1⟩ := h.up y hy ht
      exact ⟨z, by simp [hz], h1⟩
    · simp at hy; subst hy
      obtain ⟨z, hz, h1⟩ := (un_iff h.ne).1 p3 ht
      exact ⟨z, by simp [hz], h1⟩
  · intro b r
    have h1 := h.st b r
    rw [List.filter_append, wsum_app]
    unfold fullB at p4
    simp at p4
    by_cases e : inStk b r x = true
    · rw [List.filter_cons_of_pos e, List.filter_nil, wsum_one]
      simp [inStk] at e
      obtain ⟨rfl, rfl⟩ := e
      rw [← wsum_perm (h.stk hL x.b x.r)]
      omega
    · rw [List.filter_cons_of_neg e]
      simpa [wsum] using h1
  · rw [wsum_app, wsum_one]
    unfold fullB at p4
    simp at p4
    omega
  · have p5 := (apF_iff h hL x).1 p5
    intro y hy z hz hn
    rcases List.mem_append.1 hy with ky | ky <;> rcases List.mem_append.1 hz with kz | kz
    · exact h.ap y ky z kz hn
    · simp at kz; subst kz
      rw [apB_comm]; exact p5 y ky (near_comm hn)
    · simp at ky; subst ky
      exact p5 z kz hn
    · simp at ky kz; subst ky kz
      exact apB_self _ hx.cl
theorem Good.put {s : Shp} {L : List Ld} (h : Good s L) (hL : ∀ x ∈ L, x.fine) {x : Ld} (hx : x.fine) (hg : Good s (L ++ [x])) : putE s L x = 0 := (h.step hL x hx).2 (.inl hg)
/-- A beginning of good loads, by tiers, is good. -/
theorem Good.pre {s : Shp} {A B : List Ld} (h : Good s (A ++ B)) (hL : ∀ x ∈ A ++ B, x.fine) (ht : ∀ x ∈ A, ∀ y ∈ B, x.t ≤ y.t) : Good s A where
  on x hx := h.on x (by simp [hx])
  ne := (List.pairwise_append.1 h.ne).1
  up x hx hx0 := by
    obtain ⟨y, hy, h1⟩ := h.up x (by simp [hx]) hx0
    rcases List.mem_append.1 hy with hy | hy
    · exact ⟨y, hy, h1⟩
    · have := ht x hx y hy; omega
  st b r := by
    have := h.st b r
    rw [List.filter_append, wsum_app] at this
    have := (wsum_bd (B.filter (inStk b r)) (fun x hx => hL x (by simp [(List.mem_filter.1 hx).1]))).1
    omega
  mo := by
    have := h.mo
    rw [wsum_app] at this
    have := (wsum_bd B (fun x hx => hL x (by simp [hx]))).1
    omega
  ap x hx y hy := h.ap x (by simp [hx]) y (by simp [hy])
/-- Each put is done. -/
def seqOk (s : Shp) : List Ld → List Ld → Prop
  | _, [] => True
  | L, x :: O => putE s L x = 0 ∧ seqOk s (L ++ [x]) O
theorem seq_good {s : Shp} : ∀ (O L : List Ld), (∀ x ∈ L ++ O, x.fine) → Good s L → (L ++ O).Pairwise (fun x y => x.t ≤ y.t) → (seqOk s L O ↔ Good s (L ++ O))
  | [], L, _, h, _ => by simp [seqOk, h]
  | x :: O, L, hf, h, ht => by
    have e : L ++ x :: O = (L ++ [x]) ++ O := by simp
    have hL : ∀ y ∈ L, y.fine := fun y hy => hf y (by simp [hy])
    have hx : x.fine := hf x (by simp)
    unfold seqOk
    constructor
    · rintro ⟨h1, h2⟩
      rw [e]
      exact (seq_good O (L ++ [x]) (by rw [← e]; exact hf) (h.more hL hx h1) (by rw [← e]; exact ht)).1 h2
    · intro hg
      rw [e] at hg ht hf
      have hg1 := hg.pre hf (List.pairwise_append.1 ht).2.2
      exact ⟨h.put hL hx hg1, (seq_good O (L ++ [x]) hf hg1 ht).2 hg⟩
end Go.Proofs.YtllaahdbngjigaaDoor
