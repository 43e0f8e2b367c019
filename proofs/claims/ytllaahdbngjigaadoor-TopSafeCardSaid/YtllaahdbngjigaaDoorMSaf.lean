/-
  TopSafe: the order of the puts; the walk. (Put together of XSafP, XSafW.)
-/
import Derived.Test.YtllaahdbngjigaaDoorStand
import Derived.Test.YtllaahdbngjigaaDoorCnt
import Derived.Test.YtllaahdbngjigaaDoorTake
import Derived.Test.YtllaahdbngjigaaDoorLoads
namespace Go.Proofs.YtllaahdbngjigaaDoor
open Go Go.RowKit
set_option linter.unusedVariables false
set_option linter.unusedSimpArgs false

/-- The loads of a tier. -/
def tierL (L : List Ld) (t : Nat) : List Ld := L.filter fun x => x.t == (t : Int)
def preL (L : List Ld) (t : Nat) : List Ld := (List.range t).flatMap (tierL L)
/-- What has been tried when k loads of the tier t have been gone through. -/
def seenL (L : List Ld) (t k : Nat) : List Ld := preL L t ++ tierL (L.take k) t
theorem seen_zero (L : List Ld) : seenL L 0 0 = [] := by simp [seenL, preL, tierL]
theorem seen_next (L : List Ld) (t : Nat) : seenL L t L.length = seenL L (t + 1) 0 := by
  unfold seenL preL
  rw [List.range_succ, List.flatMap_append]
  simp [tierL]
theorem seen_put {L : List Ld} {t k : Nat} {x : Ld} (hx : L[k]? = some x) (ht : x.t = t) : seenL L t (k + 1) = seenL L t k ++ [x] := by
  unfold seenL tierL
  rw [take_app hx, List.filter_append]
  simp [ht]
theorem seen_skip {L : List Ld} {t k : Nat} {x : Ld} (hx : L[k]? = some x) (ht : x.t ≠ t) : seenL L t (k + 1) = seenL L t k := by
  unfold seenL tierL
  rw [take_app hx, List.filter_append]
  simp [ht]
theorem tier_mem {L : List Ld} {t : Nat} {x : Ld} : x ∈ tierL L t ↔ x ∈ L ∧ x.t = t := by simp [tierL]
theorem pre_mem {L : List Ld} {t : Nat} {x : Ld} : x ∈ preL L t ↔ x ∈ L ∧ ∃ u : Nat, u < t ∧ x.t = u := by
  unfold preL
  rw [List.mem_flatMap]
  constructor
  · rintro ⟨u, hu, hx⟩
    obtain ⟨h1, h2⟩ := tier_mem.1 hx
    exact ⟨h1, u, by simpa using hu, h2⟩
  · rintro ⟨h1, u, hu, h2⟩
    exact ⟨u, by simpa using hu, tier_mem.2 ⟨h1, h2⟩⟩
/-- The whole order. -/
def ordL (L : List Ld) : List Ld := preL L 3
theorem ord_perm {L : List Ld} (h : ∀ x ∈ L, x.fine) : (ordL L).Perm L := by
  have key : ∀ (L : List Ld), (∀ x ∈ L, x.fine) → (tierL L 0 ++ (tierL L 1 ++ tierL L 2)).Perm L := by
    intro L
    induction L with
    | nil => intro _; simp [tierL]
    | cons x L ih =>
      intro h
      have ih := ih (fun y hy => h y (by simp [hy]))
      have hx := (h x (by simp)).t
      have c : x.t = 0 ∨ x.t = 1 ∨ x.t = 2 := by omega
      rcases c with e | e | e
      · have e0 : tierL (x :: L) 0 = x :: tierL L 0 := by simp [tierL, e]
        have e1 : tierL (x :: L) 1 = tierL L 1 := by simp [tierL, e]
        have e2 : tierL (x :: L) 2 = tierL L 2 := by simp [tierL, e]
        rw [e0, e1, e2, List.cons_append]
        exact ih.cons x
      · have e0 : tierL (x :: L) 0 = tierL L 0 := by simp [tierL, e]
        have e1 : tierL (x :: L) 1 = x :: tierL L 1 := by simp [tierL, e]
        have e2 : tierL (x :: L) 2 = tierL L 2 := by simp [tierL, e]
        rw [e0, e1, e2, List.cons_append]
        exact List.perm_middle.trans (ih.cons x)
      · have e0 : tierL (x :: L) 0 = tierL L 0 := by simp [tierL, e]
        have e1 : tierL (x :: L) 1 = tierL L 1 := by simp [tierL, e]
        have e2 : tierL (x :: L) 2 = x :: tierL L 2 := by simp [tierL, e]
        rw [e0, e1, e2, ← List.append_assoc]
        refine List.perm_middle.trans ?_
        rw [List.append_assoc]
        exact ih.cons x
  have e : ordL L = tierL L 0 ++ (tierL L 1 ++ tierL L 2) := by
    show (List.range 3).flatMap (tierL L) = _
    simp [List.range_succ]
  rw [e]
  exact key L h
theorem ord_sorted (L : List Ld) : (ordL L).Pairwise (fun x y => x.t ≤ y.t) := by
  have e : ordL L = tierL L 0 ++ (tierL L 1 ++ tierL L 2) := by
    show (List.range 3).flatMap (tierL L) = _
    simp [List.range_succ]
  have s : ∀ t, (tierL L t).Pairwise (fun x y => x.t ≤ y.t) := fun t => by
    rw [List.pairwise_iff_getElem]
    intro i j hi hj _
    have h1 := (tier_mem.1 (List.getElem_mem hi)).2
    have h2 := (tier_mem.1 (List.getElem_mem hj)).2
    omega
  rw [e, List.pairwise_append, List.pairwise_append]
  refine ⟨s 0, ⟨s 1, s 2, fun x hx y hy => ?_⟩, fun x hx y hy => ?_⟩
  · have := (tier_mem.1 hx).2
    have := (tier_mem.1 hy).2
    omega
  · have := (tier_mem.1 hx).2
    rcases List.mem_append.1 hy with hy | hy
    · have := (tier_mem.1 hy).2
      omega
    · have := (tier_mem.1 hy).2
      omega
theorem seen_pre {L : List Ld} {t k : Nat} (ht : t < 3) : ∃ R, ordL L = seenL L t k ++ R := by
  have e : tierL L t = tierL (L.take k) t ++ tierL (L.drop k) t := by
    unfold tierL
    rw [← List.filter_append, List.take_append_drop]
  unfold seenL
  match t, ht with
  | 0, _ =>
    refine ⟨tierL (L.drop k) 0 ++ (tierL L 1 ++ tierL L 2), ?_⟩
    show (List.range 3).flatMap (tierL L) = (List.range 0).flatMap (tierL L) ++ _ ++ _
    simp [List.range_succ, e]
  | 1, _ =>
    refine ⟨tierL (L.drop k) 1 ++ tierL L 2, ?_⟩
    show (List.range 3).flatMap (tierL L) = (List.range 1).flatMap (tierL L) ++ _ ++ _
    simp [List.range_succ, e]
  | 2, _ =>
    refine ⟨tierL (L.drop k) 2, ?_⟩
    show (List.range 3).flatMap (tierL L) = (List.range 2).flatMap (tierL L) ++ _ ++ _
    simp [List.range_succ, e]
/-- Where the puts stand: what is in the hold, and whether all went through. -/
structure TS (s : Shp) (all : List Ld) (P Lc : List Ld) (b : Bool) : Prop where
  sub : Lc.Sublist P
  yes : b = true → Lc = P ∧ Good s P
  no : b = false → ¬ Good s all
theorem TS.start (s : Shp) (hs : s.fine) (all : List Ld) : TS s all [] [] true := ⟨List.Sublist.refl _, fun _ => ⟨rfl, Good.nil s hs⟩, fun h => by cases h⟩
theorem TS.len {s : Shp} {all P Lc R : List Ld} {b : Bool} {x : Ld} (h : TS s all P Lc b) (ho : ordL all = P ++ [x] ++ R) (hA : LOk all) : Lc.length ≤ 19 := by
  have h1 := h.sub.length_le
  have h2 := (ord_perm hA.fine).length_eq
  have h3 := hA.len
  rw [ho] at h2
  simp at h2
  omega
theorem TS.mem {s : Shp} {all P Lc R : List Ld} {b : Bool} (h : TS s all P Lc b) (ho : ordL all = P ++ R) (hA : LOk all) : ∀ y ∈ Lc, y ∈ all := by
  intro y hy
  have : y ∈ ordL all := by rw [ho]; exact List.mem_append_left _ (h.sub.subset hy)
  exact (ord_perm hA.fine).mem_iff.1 this
theorem TS.fresh {s : Shp} {all P Lc R : List Ld} {b : Bool} {x : Ld} (h : TS s all P Lc b) (ho : ordL all = P ++ [x] ++ R) (hA : LOk all) : ∀ y ∈ Lc, y.nm ≠ x.nm := by
  intro y hy
  have h1 := (hA.perm (ord_perm hA.fine)).nm
  rw [ho] at h1
  exact (List.pairwise_append.1 (List.pairwise_append.1 h1).1).2.2 y (h.sub.subset hy) x (by simp)
/-- One more load tried. -/
theorem TS.step {s : Shp} {all P Lc R : List Ld} {b : Bool} {x : Ld} (h : TS s all P Lc b) (ho : ordL all = P ++ [x] ++ R) (hA : LOk all) :
    TS s all (P ++ [x]) (if putE s Lc x = 0 then Lc ++ [x] else Lc) (decide (putE s Lc x = 0) && b) := by
  have hp := ord_perm hA.fine
  have hO := hA.perm hp
  have hf := hO.fine
  have hs := ord_sorted all
  rw [ho] at hf hs
  refine ⟨?_, fun hb => ?_, fun hb => ?_⟩
  · split
    · exact h.sub.append (List.Sublist.refl _)
    · exact h.sub.trans (List.sublist_append_left _ _)
  · simp at hb
    obtain ⟨e, hg⟩ := h.yes hb.2
    subst e
    rw [if_pos hb.1]
    exact ⟨rfl, hg.more (fun y hy => hf y (by simp [hy])) (hf x (by simp)) hb.1⟩
  · cases b with
    | false => exact h.no rfl
    | true =>
      simp at hb
      obtain ⟨e, hg⟩ := h.yes rfl
      subst e
      refine not_good hA hp (ord_sorted all) (A := Lc) (B := R) (x := x) ?_ hg hb
      rw [ho]; simp
theorem TS.good {s : Shp} {all Lc : List Ld} {b : Bool} (h : TS s all (ordL all) Lc b) (hA : LOk all) : b = true ↔ Good s all := by
  constructor
  · intro hb
    exact ((h.yes hb).2).perm (ord_perm hA.fine)
  · intro hg
    cases b with
    | true => rfl
    | false => exact absurd hg (h.no rfl)
theorem ltA_up {x y : Ld} (hb : y.b = x.b) (hr : y.r = x.r) (ht : y.t = x.t + 1) : ltOf cmA x y = true := by
  unfold ltOf cmA cm2 cmI
  have h1 : ¬ x.b < x.b := by omega
  have h2 : ¬ x.r < x.r := by omega
  have h3 : x.t < x.t + 1 := by omega
  simp [hb, hr, ht, h1, h2, h3]
/-- Above the last one nothing stands. -/
theorem top_free {ls Lk : List Ld} {k : Nat} {x : Ld} (hp : Lk.Perm (ls.take (k + 1))) (hs : ls.Pairwise (fun x y => ltOf cmA y x = false)) (hx : ls[k]? = some x) : atL Lk x.b x.r (x.t + 1) = none := by
  cases e : atL Lk x.b x.r (x.t + 1) with
  | none => rfl
  | some y =>
    obtain ⟨h1, h2, h3, h4⟩ := atL_some e
    have h5 := hp.mem_iff.1 h1
    obtain ⟨j, hj, hy⟩ := List.mem_iff_getElem.1 h5
    obtain ⟨hk, ek⟩ := List.getElem?_eq_some_iff.1 hx
    have hj2 : j < k + 1 ∧ j < ls.length := by rw [List.length_take] at hj; omega
    have hy2 : ls[j]'hj2.2 = y := by rw [← hy]; simp
    by_cases ejk : j = k
    · subst ejk
      rw [ek] at hy2
      subst hy2
      omega
    · have := List.pairwise_iff_getElem.1 hs j k hj2.2 hk (by omega)
      rw [ek, hy2] at this
      rw [ltA_up h2 h3 h4] at this
      cases this
theorem perm_erase {ls Lk : List Ld} {k i : Nat} {x : Ld} (hp : Lk.Perm (ls.take (k + 1))) (hx : ls[k]? = some x) (hi : Lk[i]? = some x) : (Lk.eraseIdx i).Perm (ls.take k) := by
  obtain ⟨hil, ei⟩ := List.getElem?_eq_some_iff.1 hi
  have e1 : Lk = Lk.take i ++ (x :: Lk.drop (i + 1)) := by rw [← ei, ← List.drop_eq_getElem_cons hil, List.take_append_drop]
  have e2 : Lk.eraseIdx i = Lk.take i ++ Lk.drop (i + 1) := List.eraseIdx_eq_take_drop_succ ..
  have h1 : Lk.Perm (x :: Lk.eraseIdx i) := by
    rw [e2]
    conv => lhs; rw [e1]
    exact List.perm_middle
  have h2 : (ls.take (k + 1)).Perm (x :: ls.take k) := by
    rw [take_app hx]
    exact List.perm_append_comm.trans (by simp)
  exact (h1.symm.trans (hp.trans h2)).cons_inv


/-- The state of the puts. -/
structure SI (W0 wr : World) (bh bs bn : Nat) (s : Shp) (all : List Ld) (t k : Nat) (b : Bool) (Lc : List Ld) : Prop where
  h : HoldIs wr bh bs bn s Lc
  ts : TS s all (seenL all t k) Lc b
  below : Below W0.heap.size W0 wr
theorem SI.later {W0 w1 w2 : World} {bh bs bn : Nat} {s : Shp} {all : List Ld} {t k : Nat} {b : Bool} {Lc : List Ld} (h : SI W0 w1 bh bs bn s all t k b Lc) (hb : Below w1.heap.size w1 w2) : SI W0 w2 bh bs bn s all t k b Lc :=
  ⟨h.h.below hb, h.ts, btw h.below hb⟩
theorem SI.skip {W0 w1 : World} {bh bs bn : Nat} {s : Shp} {all : List Ld} {t k : Nat} {b : Bool} {Lc : List Ld} {x : Ld} (h : SI W0 w1 bh bs bn s all t k b Lc) (hx : all[k]? = some x) (ht : x.t ≠ t) : SI W0 w1 bh bs bn s all t (k + 1) b Lc :=
  ⟨h.h, by rw [seen_skip hx ht]; exact h.ts, h.below⟩
theorem SI.next {W0 w1 : World} {bh bs bn : Nat} {s : Shp} {all : List Ld} {t : Nat} {b : Bool} {Lc : List Ld} (h : SI W0 w1 bh bs bn s all t all.length b Lc) : SI W0 w1 bh bs bn s all (t + 1) 0 b Lc :=
  ⟨h.h, by rw [← seen_next]; exact h.ts, h.below⟩
theorem seen_all (L : List Ld) : seenL L 3 0 = ordL L := by simp [seenL, ordL, tierL]
theorem SI.sub {W0 w1 : World} {bh bs bn : Nat} {s : Shp} {all : List Ld} {t k : Nat} {b : Bool} {Lc : List Ld} (h : SI W0 w1 bh bs bn s all t k b Lc) (hA : LOk all) (ht : t ≤ 3) (hk : t = 3 → k = 0) : AllFine Lc ∧ Lc.length ≤ 20 := by
  have e : ∃ R, ordL all = seenL all t k ++ R := by
    by_cases e : t = 3
    · obtain rfl := hk e
      subst e
      exact ⟨[], by rw [seen_all]; simp⟩
    · exact seen_pre (by omega)
  obtain ⟨R, ho⟩ := e
  refine ⟨fun y hy => hA.all y (h.ts.mem ho hA y hy), ?_⟩
  have h1 := h.ts.sub.length_le
  have h2 := (ord_perm hA.fine).length_eq
  have h3 := hA.len
  rw [ho] at h2
  simp at h2
  omega
theorem hold_low {W0 w1 w2 : World} {bh bs bn : Nat} (hb : Below W0.heap.size W0 w1) (ht : Touch (HoldS bh bs bn) w1 w2) (hlo : W0.heap.size ≤ bh ∧ W0.heap.size ≤ bs ∧ W0.heap.size ≤ bn) : Below W0.heap.size W0 w2 :=
  hb.trans (ht.below hb.size (fun b hb => by rcases hb with e | e | e <;> omega))
/-- One put. -/
theorem si_put {W0 wr : World} {bh bs bn : Nat} {s : Shp} {all : List Ld} {t k : Nat} {b : Bool} {Lc : List Ld} {x : Ld} (h : SI W0 wr bh bs bn s all t k b Lc) (hlo : W0.heap.size ≤ bh ∧ W0.heap.size ≤ bs ∧ W0.heap.size ≤ bn) (hA : LOk all) (hs : s.fine) (ha : Apt W0)
    (hx : all[k]? = some x) (ht : x.t = t) (ht3 : t < 3) :
    Calls Tryd.prog 9 #[.pointer (some ⟨bh, 0, none⟩), .agg #[.int .i64 x.b, .int .i64 x.r, .int .i64 x.t, .string x.nm, .int .i64 x.wt, .int .i64 x.cl, .int .i64 x.pt]] wr
      fun e w' => ∃ (c : Int) (L2 : List Ld), e = .returned (.int .i64 c) ∧ SI W0 w' bh bs bn s all t (k + 1) (decide (c = 0) && b) L2 := by
  obtain ⟨R, ho⟩ := seen_pre (L := all) (t := t) (k := k + 1) ht3
  have hsp := seen_put hx ht
  rw [hsp] at ho
  refine (put_any wr bh bs bn s Lc x h.h (h.sub hA (by omega) (fun e => by omega)).1 (h.ts.len ho hA) hs (hA.ok x (List.mem_of_getElem? hx)) (h.ts.fresh ho hA) (ha.below h.below)).mono ?_
  rintro e w2 ⟨rfl, h2, ht2⟩
  refine ⟨_, _, rfl, h2, ?_, hold_low h.below ht2 hlo⟩
  rw [hsp]
  exact h.ts.step ho hA
/-- The state of the takes. -/
structure TI (W0 w7 wr : World) (bh bs bn : Nat) (s : Shp) (ls : List Ld) (k : Nat) (Lk : List Ld) : Prop where
  h : HoldIs wr bh bs bn s Lk
  perm : Lk.Perm (ls.take k)
  below : Below W0.heap.size W0 wr
  touch : Touch (HoldS bh bs bn) w7 wr
theorem ti_take {W0 w7 wr : World} {bh bs bn : Nat} {s : Shp} {ls : List Ld} {k : Nat} {Lk : List Ld} {x : Ld} (h : TI W0 w7 wr bh bs bn s ls (k + 1) Lk) (hlo : W0.heap.size ≤ bh ∧ W0.heap.size ≤ bs ∧ W0.heap.size ≤ bn) (hA : AllFine ls) (hl : ls.length ≤ 20)
    (hs : ls.Pairwise (fun x y => ltOf cmA y x = false)) (hx : ls[k]? = some x) :
    Calls Tryd.prog 13 #[.pointer (some ⟨bh, 0, none⟩), .string x.nm] wr
      fun e w' => ∃ (y : Ld) (L2 : List Ld), e = .returned (.tuple #[.agg #[.int .i64 y.b, .int .i64 y.r, .int .i64 y.t, .string y.nm, .int .i64 y.wt, .int .i64 y.cl, .int .i64 y.pt], .int .i64 0]) ∧ TI W0 w7 w' bh bs bn s ls k L2 := by
  have hm : x ∈ Lk := h.perm.mem_iff.2 (by rw [take_app hx]; simp)
  obtain ⟨i, hi, e⟩ := List.mem_iff_getElem.1 hm
  have hi2 : Lk[i]? = some x := by rw [← e]; exact List.getElem?_eq_getElem hi
  refine (take_any wr bh bs bn s Lk i x h.h (fun y hy => hA y (List.mem_of_mem_take (h.perm.mem_iff.1 hy))) (by rw [h.perm.length_eq]; simp; omega) hi2 (top_free h.perm hs hx)).mono ?_
  rintro e w2 ⟨rfl, h2, ht2⟩
  exact ⟨x, _, rfl, h2, perm_erase h.perm hx hi2, hold_low h.below ht2 hlo, h.touch.trans ht2 (fun b e => .inl e)⟩
theorem TI.later {W0 w7 w1 w2 : World} {bh bs bn : Nat} {s : Shp} {ls : List Ld} {k : Nat} {Lk : List Ld} (h : TI W0 w7 w1 bh bs bn s ls k Lk) (hb : Below w1.heap.size w1 w2) : TI W0 w7 w2 bh bs bn s ls k Lk :=
  ⟨h.h.below hb, h.perm, btw h.below hb, h.touch.trans (Touch.of_below hb) (fun b e => .inl e)⟩
namespace topSafe
set_option maxRecDepth 100000 in
set_option maxHeartbeats 4000000 in
theorem skip (a0 a1 a2 a3 a4 : Int) (ao : Option Addr) (n cap : Nat) (w : World) (h : 20 < n) :
    Calls Tryd.prog 3 #[.int .u8 a0, .int .u8 a1, .int .u8 a2, .int .u16 a3, .int .u16 a4, .slice ao n cap] w fun e w' => e = .returned (.bool true) ∧ Below w.heap.size w w' := by
  have HC := Lib.hid (fun w => counts_any w)
  go_enter Tryd.func3, Tryd.ntmps3
  go_wp2_with fail
  refine (HC.out _).mono ?_
  rintro e w1 ⟨rfl, hb1⟩
  have HB1 := Lib.hid hb1
  clear hb1
  have d1 : decide ((20 : Int) < (n : Int)) = true := by rw [decide_eq_true_iff]; omega
  clear h
  go_wp2_with fail
  refine (HC.out _).mono ?_
  rintro e w2 ⟨rfl, hb2⟩
  have HB2 := Lib.hid (HB1.out.trans (hb2.mono HB1.out.size))
  clear hb2
  go_wp2
  go_ret
  exact ⟨rfl, HB2.out⟩
set_option maxRecDepth 100000 in
set_option maxHeartbeats 16000000 in
theorem core (a0 a1 a2 a3 a4 : Int) (ao : Option Addr) (n cap : Nat) (w : World) (hn : n ≤ 20) (s : Shp) (hs : s.fine) (all : List Ld) (hA : LOk all)
    (hsh : ∀ w, Calls Tryd.prog 6 #[.int .u8 a0, .int .u8 a1, .int .u8 a2, .int .u16 a3, .int .u16 a4] w (ShipPost w s))
    (hlo : ∀ w2, Below w.heap.size w w2 → Calls Tryd.prog 7 #[.slice ao n cap] w2 (fun e w' => ∃ v, e = .returned v ∧ Lds w' v all ∧ Below w2.heap.size w2 w')) (ha : Apt w) :
    Calls Tryd.prog 3 #[.int .u8 a0, .int .u8 a1, .int .u8 a2, .int .u16 a3, .int .u16 a4, .slice ao n cap] w fun e w' => e = .returned (.bool true) ∧ Below w.heap.size w w' := by
  have HC := Lib.hid (fun w => counts_any w)
  have HSh := Lib.hid hsh
  have HLo := Lib.hid hlo
  have HA := Lib.hid hA
  have HS := Lib.hid hs
  have HAp := Lib.hid ha
  have d1 : decide ((20 : Int) < (n : Int)) = false := by rw [decide_eq_false_iff_not]; omega
  clear hsh hlo hA hs ha hn
  go_enter Tryd.func3, Tryd.ntmps3
  go_wp2_with fail
  refine (HC.out _).mono ?_
  rintro e w1 ⟨rfl, hb1⟩
  have HB1 := Lib.hid hb1
  clear hb1
  go_wp2_with fail
  refine (HSh.out _).mono ?_
  rintro e w2 ⟨rfl, hb2⟩
  have HB2 := Lib.hid (btw HB1.out hb2)
  clear hb2 HB1 HSh HC
  go_wp2_with fail
  refine (HLo.out _ HB2.out).mono ?_
  rintro e w3 ⟨v, rfl, hv, hb3⟩
  obtain ⟨ao2, cap2, rfl, hc1, hc2, _⟩ := hv.shape
  obtain ⟨m, hm⟩ : ∃ m, m = all.length := ⟨_, rfl⟩
  rw [← hm] at hv hc1 ⊢
  have HM := Lib.hid hm
  have hm20 : m ≤ 20 := by rw [hm]; exact HA.out.len
  have HB3 := Lib.hid (btw (btw HB2.out hb3) (boxS_below w3 s))
  have HV := Lib.hid (hv.below (boxS_below w3 s))
  have HQ := Lib.hid (boxS_at w3 s)
  have HAp0 := Lib.hid (HAp.out.below HB3.out)
  have HNw := Lib.hid (bnew_any (boxS w3 s) s HS.out)
  obtain ⟨q, hq⟩ : ∃ q, q = w3.heap.size := ⟨_, rfl⟩
  obtain ⟨c0, c1, c2, c3, c4, c5, c6, c7, c8⟩ := boxS_at w3 s
  unfold maxLen at hc2
  clear hv hm hb3 HB2 HLo HAp
  unfold boxS at HNw HV HQ HAp0 HB3 c0 c1 c2 c3 c4 c5 c6 c7 c8
  go_wp2_with fail
  obtain ⟨W0, hW0⟩ : ∃ W0, W0 = w3.alloc (.cells #[.string ⟨#[115, 104, 105, 112]⟩, .int .i64 s.bays, .int .i64 s.rows, .int .i64 s.tiers, .int .i64 s.stack, .int .i64 40, .int .i64 40, .int .i64 60, .int .i64 s.most] 26) := ⟨_, rfl⟩
  rw [← hW0] at HNw HV HQ HAp0 HB3 ⊢
  rw [← hq] at HQ ⊢
  clear hW0 hq c0 c1 c2 c3 c4 c5 c6 c7 c8
  refine HNw.out.mono ?_
  rintro e w4 ⟨bh, bs, bn, rfl, hH, hlo, hb4⟩
  have HLw := Lib.hid hlo
  have H4 := Lib.hid (show SI W0 w4 bh bs bn s all 0 0 true [] from ⟨hH, by rw [seen_zero]; exact TS.start s HS.out all, hb4⟩)
  clear hH hlo hb4 HNw
  go_wp2_with fail
  go_loopw [17, 52] (fun f i wr => ∃ (t : Nat) (b : Bool), f = .bool b ∧ i = .int .i64 (t : Int) ∧ t ≤ 3 ∧ Hid (∃ Lc, SI W0 wr bh bs bn s all t 0 b Lc)) (fun _ i _ => 3 - (intOf i).toNat)
  case atStart => exact ⟨0, true, rfl, rfl, by omega, Lib.hid ⟨_, H4.out⟩⟩
  case round =>
    clear H4
    obtain ⟨t, b, rfl, rfl, ht3, HT⟩ := hrel
    by_cases hlt : t < 3
    · have d2 : decide ((t : Int) < 3) = true := by rw [decide_eq_true_iff]; omega
      go_wp2_with fail
      go_loopw [17, 57] (fun f i wr => ∃ (k : Nat) (b : Bool), f = .bool b ∧ i = .int .i64 (k : Int) ∧ k ≤ m ∧ Hid (∃ Lc, SI W0 wr bh bs bn s all t k b Lc)) (fun _ i _ => m - (intOf i).toNat)
      case atStart => exact ⟨0, b, rfl, rfl, Nat.zero_le _, HT⟩
      case round =>
        clear HT
        obtain ⟨k, b2, rfl, rfl, hk, HT⟩ := hrel
        by_cases hlk : k < m
        · have l1 : (k : Int) < (m : Int) := by omega
          have l0 : (0 : Int) ≤ (k : Int) := by omega
          obtain ⟨ab, aoff, rfl, hab, hat⟩ := HV.out.get HM.out (by omega)
          obtain ⟨x, hx⟩ : ∃ x, all[k]? = some x := ⟨_, List.getElem?_eq_getElem (by rw [← HM.out]; exact hlk)⟩
          obtain ⟨Lc, HI⟩ := HT.out
          obtain ⟨z0, z1, z2, z3, z4, z5, z6⟩ := hat k x hx
          have y0 := cell_later HI.below z0
          have y1 := cell_later HI.below z1
          have y2 := cell_later HI.below z2
          have y3 := cell_later HI.below z3
          have y4 := cell_later HI.below z4
          have y5 := cell_later HI.below z5
          have y6 := cell_later HI.below z6
          have hbx := (Below.refl wr.heap.size wr).alloc (Nat.le_refl _) (.cells #[.int .i64 x.b, .int .i64 x.r, .int .i64 x.t, .string x.nm, .int .i64 x.wt, .int .i64 x.cl, .int .i64 x.pt] 37)
          have HX := Lib.hid hx
          have HI2 := Lib.hid (HI.later hbx)
          clear hat hx z0 z1 z2 z3 z4 z5 z6 HI HT hbx hab
          by_cases hxt : x.t = t
          · have d3 : (x.t == (t : Int)) = true := by rw [beq_iff_eq]; exact hxt
            have HP := Lib.hid (si_put HI2.out HLw.out HA.out HS.out HAp0.out HX.out hxt hlt)
            clear hxt
            go_wp2_with fail
            refine HP.out.mono ?_
            rintro e w5 ⟨c, L2, rfl, h5⟩
            have H5 := Lib.hid h5
            clear h5 HP y0 y1 y2 y3 y4 y5 y6
            by_cases hc : c = 0
            · subst hc
              have H6 := Lib.hid (show ∃ Lc, SI W0 w5 bh bs bn s all t (k + 1) b2 Lc from ⟨L2, by simpa using H5.out⟩)
              clear H5
              go_wp2
              go_roundw
              case rel => exact ⟨k + 1, b2, rfl, by go_num, by omega, H6⟩
              case measure => simp [intOf]; omega
            · have d4 : (c == 0) = false := by simp [hc]
              have H6 := Lib.hid (show ∃ Lc, SI W0 w5 bh bs bn s all t (k + 1) false Lc from ⟨L2, by have := H5.out; simpa [hc] using this⟩)
              clear H5 hc
              go_wp2
              go_roundw
              case rel => exact ⟨k + 1, false, rfl, by go_num, by omega, H6⟩
              case measure => simp [intOf]; omega
          · have d3 : (x.t == (t : Int)) = false := by rw [beq_eq_false_iff_ne]; exact hxt
            have H6 := Lib.hid (show ∃ Lc, SI W0 (wr.alloc (.cells #[.int .i64 x.b, .int .i64 x.r, .int .i64 x.t, .string x.nm, .int .i64 x.wt, .int .i64 x.cl, .int .i64 x.pt] 37)) bh bs bn s all t (k + 1) b2 Lc from ⟨Lc, HI2.out.skip HX.out hxt⟩)
            clear hxt HI2
            go_wp2
            go_roundw
            case rel => exact ⟨k + 1, b2, rfl, by go_num, by omega, H6⟩
            case measure => simp [intOf]; omega
        · obtain rfl : k = m := by omega
          have H6 := Lib.hid (show ∃ Lc, SI W0 wr bh bs bn s all (t + 1) 0 b2 Lc from by
            obtain ⟨Lc, h⟩ := HT.out
            rw [HM.out] at h
            exact ⟨Lc, h.next⟩)
          clear HT
          go_wp2
          go_roundw
          case rel => exact ⟨t + 1, b2, rfl, by go_num, by omega, H6⟩
          case measure => simp [intOf]; omega
    · obtain rfl : t = 3 := by omega
      obtain ⟨Lc, HI⟩ := HT.out
      have HG := Lib.hid (show b = true ↔ Good s all from TS.good (by have := HI.ts; rw [seen_all] at this; exact this) HA.out)
      have HF := Lib.hid (HI.sub HA.out (Nat.le_refl _) (fun _ => rfl))
      have HI := Lib.hid HI
      clear HT hlt ht3
      rename World => wr
      have HRt := Lib.hid (fun W (hW : Below W0.heap.size W0 W) => right_any W s HS.out ao2 m cap2 all (HV.out.below hW) HM.out HA.out (HAp0.out.below hW))
      have HLd := Lib.hid (fun W (hW : HoldIs W bh bs bn s Lc) => loads_any W bh bs bn s Lc hW HF.out.2)
      obtain ⟨c0, c1, c2, c3, c4, c5, c6, c7, c8⟩ := HQ.out.below HI.out.below
      have three : b = false ∨ (b = true ∧ safeV s all = 0) ∨ (b = true ∧ safeV s all ≠ 0) := by cases b <;> simp <;> omega
      rcases three with e | ⟨e, hs0⟩ | ⟨e, hs0⟩
      case' inl =>
        subst e
        go_wp2_with fail
        refine (HRt.out _ HI.out.below).mono ?_
        rintro e w6 ⟨c, rfl, hc, hb6⟩
        have e0 : (c == 0) = false := by
          rw [beq_eq_false_iff_ne]
          intro e
          have := HG.out.2 (hc.1 e).1
          cases this
        have H6 := Lib.hid (HI.out.later hb6)
        clear hc hb6 c0 c1 c2 c3 c4 c5 c6 c7 c8
      case' inr.inl =>
        subst e
        have HSf := Lib.hid (safe_any wr s HS.out ao2 m cap2 all (HV.out.below HI.out.below) HM.out ((HG.out.1 rfl).fit HA.out))
        rw [hs0] at HSf
        go_wp2_with fail
        refine HSf.out.mono ?_
        rintro e w5 ⟨rfl, hb5⟩
        have HI5 := Lib.hid (HI.out.later hb5)
        obtain ⟨y0, y1, y2, y3, y4, y5, y6, y7, y8⟩ := HQ.out.below HI5.out.below
        clear hb5 c0 c1 c2 c3 c4 c5 c6 c7 c8 HSf
        go_wp2_with fail
        refine (HRt.out _ HI5.out.below).mono ?_
        rintro e w6 ⟨c, rfl, hc, hb6⟩
        have e0 : c = 0 := hc.2 ⟨HG.out.1 (by first | rfl | trivial), hs0⟩
        subst e0
        have H6 := Lib.hid (HI5.out.later hb6)
        clear hc hb6 HI5 y0 y1 y2 y3 y4 y5 y6 y7 y8
      case' inr.inr =>
        subst e
        have HSf := Lib.hid (safe_any wr s HS.out ao2 m cap2 all (HV.out.below HI.out.below) HM.out ((HG.out.1 rfl).fit HA.out))
        obtain ⟨V, hV⟩ : ∃ V, V = safeV s all := ⟨_, rfl⟩
        rw [← hV] at HSf
        have f0 : (V == 0) = false := by rw [beq_eq_false_iff_ne, hV]; exact hs0
        clear hV
        go_wp2_with fail
        refine HSf.out.mono ?_
        rintro e w5 ⟨rfl, hb5⟩
        have HI5 := Lib.hid (HI.out.later hb5)
        obtain ⟨y0, y1, y2, y3, y4, y5, y6, y7, y8⟩ := HQ.out.below HI5.out.below
        clear hb5 c0 c1 c2 c3 c4 c5 c6 c7 c8 HSf
        go_wp2_with fail
        refine (HRt.out _ HI5.out.below).mono ?_
        rintro e w6 ⟨c, rfl, hc, hb6⟩
        have e0 : (c == 0) = false := by rw [beq_eq_false_iff_ne]; exact fun e => hs0 (hc.1 e).2
        have H6 := Lib.hid (HI5.out.later hb6)
        clear hc hb6 HI5 y0 y1 y2 y3 y4 y5 y6 y7 y8
      all_goals
        clear HRt HI HG
        go_wp2_with fail
        refine (HLd.out _ H6.out.h).mono ?_
        rintro e w7 ⟨v, ls, rfl, hv, hp, hsr, hb7, hfr⟩
        obtain ⟨ao3, cap3, rfl, hc3, hc4, _⟩ := hv.shape
        obtain ⟨m3, hm3⟩ : ∃ m3, m3 = ls.length := ⟨_, rfl⟩
        rw [← hm3] at hv hc3 ⊢
        have HM3 := Lib.hid hm3
        have HV3 := Lib.hid hv
        have hm20 : m3 ≤ 20 := by rw [hm3, hp.length_eq]; exact HF.out.2
        have HFs := Lib.hid (show AllFine ls ∧ ls.length ≤ 20 from ⟨fun y hy => HF.out.1 y (hp.mem_iff.1 hy), by rw [hp.length_eq]; exact HF.out.2⟩)
        have HSr := Lib.hid hsr
        have HFr := Lib.hid (show ∀ k b off, HoldS bh bs bn k → ao3 = some ⟨b, off, none⟩ → ¬ b = k from fun k b off hk e eb => by
          have h1 := hfr _ _ _ (by rw [e])
          have h2 := H6.out.h.lt
          have h3 : w6.heap.size ≤ b := h1
          rcases hk with hk | hk | hk <;> omega)
        have H7 := Lib.hid (show TI W0 w7 w7 bh bs bn s ls m3 Lc from ⟨H6.out.h.below hb7, by rw [List.take_of_length_le (by rw [hm3]; exact Nat.le_refl _)]; exact hp.symm, btw H6.out.below hb7, Touch.refl _ _⟩)
        unfold maxLen at hc4
        clear hv hm3 hp hsr hb7 hfr HLd H6
        go_wp2_with fail
        go_loopw [22] (fun i wr => ∃ (k : Nat) (z : Int), k ≤ m3 ∧ z + 1 = (k : Int) ∧ i = .int .i64 z ∧ Hid (∃ Lk, TI W0 w7 wr bh bs bn s ls k Lk)) (fun i _ => (intOf i + 1).toNat)
        case atStart => exact ⟨m3, (m3 : Int) - 1, Nat.le_refl _, by omega, by go_num, Lib.hid ⟨_, H7.out⟩⟩
        case round =>
          clear H7
          obtain ⟨k, z, hk, hz, rfl, HT⟩ := hrel
          rcases Nat.eq_zero_or_pos k with hk0 | hk0
          · subst hk0
            obtain rfl : z = -1 := by omega
            obtain ⟨Lk, h⟩ := HT.out
            have h0 : Lk = [] := by have := h.perm; simpa using this
            subst h0
            have HLd := Lib.hid (loads_any _ bh bs bn s [] h.h (by simp))
            have HB := Lib.hid (btw HB3.out h.below)
            clear HT h
            go_wp2_with fail
            refine HLd.out.mono ?_
            rintro e w9 ⟨v9, ls9, rfl, hv9, hp9, _, hb9, _⟩
            obtain rfl : ls9 = [] := by simpa using hp9
            obtain ⟨ao9, cap9, rfl, _⟩ := hv9.shape
            have HB9 := Lib.hid (btw HB.out hb9)
            clear hv9 hp9 hb9 HLd
            go_wp2
            go_ret
            exact ⟨rfl, HB9.out⟩
          · obtain ⟨j, rfl⟩ : ∃ j, k = j + 1 := ⟨k - 1, by omega⟩
            obtain rfl : z = (j : Int) := by omega
            have l1 : (j : Int) < (m3 : Int) := by omega
            have l0 : (0 : Int) ≤ (j : Int) := by omega
            obtain ⟨ab, aoff, rfl, hab, hat⟩ := HV3.out.get HM3.out (by omega)
            obtain ⟨x, hx⟩ : ∃ x, ls[j]? = some x := ⟨_, List.getElem?_eq_getElem (by rw [← HM3.out]; omega)⟩
            obtain ⟨Lk, h⟩ := HT.out
            obtain ⟨z0, z1, z2, z3, z4, z5, z6⟩ := hat j x hx
            have y3 := cell_touch z3 h.touch (fun e => HFr.out ab ab aoff e rfl rfl)
            have HTk := Lib.hid (ti_take h HLw.out HFs.out.1 HFs.out.2 HSr.out hx)
            clear hat hx z0 z1 z2 z3 z4 z5 z6 h HT hab hz
            go_wp2_with fail
            refine HTk.out.mono ?_
            rintro e w9 ⟨y, L2, rfl, h9⟩
            have H9 := Lib.hid (show ∃ Lk, TI W0 w7 (w9.alloc (.cells #[.int .i64 y.b, .int .i64 y.r, .int .i64 y.t, .string y.nm, .int .i64 y.wt, .int .i64 y.cl, .int .i64 y.pt] 37)) bh bs bn s ls j Lk from ⟨L2, h9.later ((Below.refl _ _).alloc (Nat.le_refl _) _)⟩)
            clear h9 HTk y3
            go_wp2
            go_roundw
            case rel => exact ⟨j, (j : Int) - 1, by omega, by omega, by go_num, H9⟩
            case measure => simp [intOf] <;> omega
/-- A load's row, of boxes. -/
theorem lok_of (l : List Bx) (n : Nat) (hn : n = l.length) (h : n ≤ 20) (hw : ∀ x ∈ l, x.wf) : LOk (ldsN l n) := by
  have hg : ∀ i (hi : i < n), l.getD i default ∈ l := fun i hi => by
    rw [List.getD_eq_getElem?_getD, List.getElem?_eq_getElem (by omega)]
    exact List.getElem_mem _
  refine ⟨fun x hx => ?_, ?_, by rw [ldsN_len]; exact h⟩
  · obtain ⟨i, hi, rfl⟩ := List.mem_map.1 hx
    have hi : i < n := by simpa using hi
    exact ldOf_ok i _ (by omega) (hw _ (hg i hi))
  · rw [List.pairwise_iff_getElem]
    intro i j hi hj hij e
    rw [ldsN_len] at hi hj
    have e1 := (List.getElem?_eq_some_iff.1 (ldsN_get l n i hi)).2
    have e2 := (List.getElem?_eq_some_iff.1 (ldsN_get l n j hj)).2
    rw [e1, e2] at e
    have := nm_inj i j (by omega) (by omega) e
    omega
theorem u16b {z : Int} (h : (Lit.int .u16 z).wf = true) : 0 ≤ z ∧ z ≤ 65535 := by
  simp only [Lit.wf, Bool.and_eq_true, decide_eq_true_eq] at h
  have h1 : IntKind.u16.min = 0 := by decide
  have h2 : IntKind.u16.max = 65535 := by decide
  omega
theorem walk (a0 a1 a2 a3 a4 : Int) (v5 : Value) (w : World) (w0 : (Lit.int .u8 a0).wf = true) (w1 : (Lit.int .u8 a1).wf = true) (w2 : (Lit.int .u8 a2).wf = true) (w3 : (Lit.int .u16 a3).wf = true) (w4 : (Lit.int .u16 a4).wf = true) (w5 : Is23 w v5) (hw : Apt w) :
    Calls Tryd.prog 3 #[.int .u8 a0, .int .u8 a1, .int .u8 a2, .int .u16 a3, .int .u16 a4, v5] w fun e w' => e = .returned (.bool true) ∧ Below w.heap.size w w' := by
  obtain ⟨l, hl, hwf⟩ := w5
  obtain ⟨ao, cap, rfl, _⟩ := hl.shape
  have b0 := u8b w0
  have b1 := u8b w1
  have b2 := u8b w2
  have b3 := u16b w3
  have b4 := u16b w4
  by_cases h : 20 < l.length
  · exact skip a0 a1 a2 a3 a4 ao _ cap w h
  · refine core a0 a1 a2 a3 a4 ao _ cap w (by omega) ⟨1 + a0 % 3, 1 + a1 % 3, 1 + a2 % 3, a3, a4⟩ ⟨?_, ?_, ?_, ?_, ?_⟩ (ldsN l l.length) (lok_of l _ rfl (by omega) hwf) (fun w => ship_any a0 a1 a2 a3 a4 b0 b1 b2 b3 b4 w) (fun w2 hb => loads_of w2 ao _ cap l (hl.below hb) rfl (by omega) hwf) hw
    all_goals (simp only; omega)
theorem laid_met {W : World} (h : laidMetH Tryd.prog Rows.topSafeRow.laid W) : Apt W := apt_laid List.mem_cons_self (by kernel_rfl) (by kernel_rfl) h
end topSafe
end Go.Proofs.YtllaahdbngjigaaDoor
