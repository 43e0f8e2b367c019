/-
  Costs: may, parted, summed; the document's. (Put together of XCMay, XCSort, XCSum, XCOf.)
-/
import Derived.Test.YtfkkkebegkhdfaaDoorMOd
import Derived.Test.YtfkkkebegkhdfaaDoorCostP
import Derived.Test.YtfkkkebegkhdfaaDoorTermC
import Derived.Test.YtfkkkebegkhdfaaDoorBlk
import Derived.BigQuiet
import Derived.BigGuardPart
import Derived.Deep.QuietTactic
import Derived.Laws.EntriesVeiled
import Derived.Lib.SlicesS
import Derived.Deep.RegionLaw
namespace Go.Proofs.YtfkkkebegkhdfaaDoor
open Go Go.RowKit
set_option linter.unusedVariables false
set_option linter.unusedSimpArgs false

def coB (o : Co) : Bool := nameB o.t && (decide (0 ≤ o.s) && (decide (o.s ≤ 7) && (decide (0 ≤ o.z) && decide (o.z ≤ 1099511627776))))
def coL (l : List Co) : Bool := (List.range l.length).all fun k => coB (l.getD k default)
theorem coL_iff (l : List Co) : coL l = true ↔ ∀ k, k < l.length → coB (l.getD k default) = true := by simp [coL]
theorem coL_bad {l : List Co} {k : Nat} (hk : k < l.length) (h : coB (l.getD k default) = false) : coL l = false := by
  rw [Bool.eq_false_iff]
  intro hm
  have := (coL_iff l).1 hm k hk
  rw [h] at this; cases this
theorem co_nums {l : List Co} (h : coL l = true) : ∀ o ∈ l, 0 ≤ o.s ∧ o.s ≤ 7 ∧ 0 ≤ o.z ∧ o.z ≤ 1099511627776 := by
  intro o ho
  obtain ⟨k, hk, rfl⟩ := List.mem_iff_getElem.1 ho
  have := (coL_iff l).1 h k hk
  rw [List.getD_eq_getElem?_getD, List.getElem?_eq_getElem hk] at this
  unfold coB at this
  simp only [Option.getD_some, Bool.and_eq_true, decide_eq_true_eq] at this
  exact this.2
theorem co_all {l : List Co} : coL l = true ↔ ∀ o ∈ l, coB o = true := by
  rw [coL_iff]
  constructor
  · intro h o ho
    obtain ⟨k, hk, rfl⟩ := List.mem_iff_getElem.1 ho
    have := h k hk
    rw [List.getD_eq_getElem?_getD, List.getElem?_eq_getElem hk] at this
    exact this
  · intro h k hk
    rw [List.getD_eq_getElem?_getD, List.getElem?_eq_getElem hk]
    exact h _ (List.getElem_mem hk)
theorem co_buy {l : List Co} (c : Int) (h : coL l = true) : coL (buyL c l) = true := co_all.2 fun o ho => co_all.1 h o ((List.mem_filter.1 ho).1)
theorem co_sel {l : List Co} (c : Int) (h : coL l = true) : coL (selL c l) = true := co_all.2 fun o ho => co_all.1 h o ((List.mem_filter.1 ho).1)
theorem co_take {l : List Co} (k : Nat) (h : coL l = true) : coL (l.take k) = true := co_all.2 fun o ho => co_all.1 h o (List.mem_of_mem_take ho)
theorem co_drop {l : List Co} (k : Nat) (h : coL l = true) : coL (l.drop k) = true := co_all.2 fun o ho => co_all.1 h o (List.mem_of_mem_drop ho)


set_option maxHeartbeats 1000000 in
theorem comay_any (o : Co) (w : World) :
    Calls Tryd.prog 38 #[.agg #[.string o.t, .int .i64 o.s, .int .i64 o.z]] w fun e w' => e = .returned (.bool (coB o)) ∧ Below w.heap.size w w' := by
  have HB0 := Lib.hid ((Below.refl w.heap.size w).alloc (Nat.le_refl _) (.cells #[.string o.t, .int .i64 o.s, .int .i64 o.z] 55))
  have HNm := Lib.hid (fun w => name_any o.t w)
  skip
  unfold coB
  obtain ⟨t, s, z⟩ := o
  dsimp only at HB0 HNm ⊢
  cases g1 : nameB t with
  | false =>
    rw [g1] at HNm
    go_enter Tryd.func38, Tryd.ntmps38
    go_wp2_with fail
    refine (HNm.out _).mono ?_
    rintro e w1 ⟨rfl, rfl⟩
    go_wp2
    go_ret
    exact ⟨by rw [Bool.false_and]; rfl, HB0.out⟩
  | true =>
    rw [g1] at HNm
    by_cases g2 : s < 0
    · have d1 : decide (s < 0) = true := by rw [decide_eq_true_iff]; exact g2
      go_enter Tryd.func38, Tryd.ntmps38
      go_wp2_with fail
      refine (HNm.out _).mono ?_
      rintro e w1 ⟨rfl, rfl⟩
      go_wp2
      go_ret
      exact ⟨by rw [show decide (0 ≤ s) = false by rw [decide_eq_false_iff_not]; omega]; rfl, HB0.out⟩
    · have d1 : decide (s < 0) = false := by rw [decide_eq_false_iff_not]; exact g2
      by_cases g3 : 7 < s
      · have d2 : decide (7 < s) = true := by rw [decide_eq_true_iff]; exact g3
        go_enter Tryd.func38, Tryd.ntmps38
        go_wp2_with fail
        refine (HNm.out _).mono ?_
        rintro e w1 ⟨rfl, rfl⟩
        go_wp2
        go_ret
        exact ⟨by rw [show decide (s ≤ 7) = false by rw [decide_eq_false_iff_not]; omega]; simp, HB0.out⟩
      · have d2 : decide (7 < s) = false := by rw [decide_eq_false_iff_not]; exact g3
        have e1 : decide (0 ≤ s) = true := by rw [decide_eq_true_iff]; omega
        have e2 : decide (s ≤ 7) = true := by rw [decide_eq_true_iff]; omega
        rw [e1, e2]
        clear e1 e2 g2 g3
        cases g4 : decide (0 ≤ z) with
        | false =>
          go_enter Tryd.func38, Tryd.ntmps38
          go_wp2_with fail
          refine (HNm.out _).mono ?_
          rintro e w1 ⟨rfl, rfl⟩
          go_wp2
          go_ret
          exact ⟨by rfl, HB0.out⟩
        | true =>
          cases g5 : decide (z ≤ 1099511627776) with
          | false =>
            go_enter Tryd.func38, Tryd.ntmps38
            go_wp2_with fail
            refine (HNm.out _).mono ?_
            rintro e w1 ⟨rfl, rfl⟩
            go_wp2
            go_ret
            exact ⟨by rfl, HB0.out⟩
          | true =>
            go_enter Tryd.func38, Tryd.ntmps38
            go_wp2_with fail
            refine (HNm.out _).mono ?_
            rintro e w1 ⟨rfl, rfl⟩
            go_wp2
            go_ret
            exact ⟨by rfl, HB0.out⟩

set_option maxHeartbeats 1000000 in
theorem rcomay_any (o : Co) (w : World) (hs : o.t.size ≤ maxLen) :
    Calls Tryd.prog 31 #[.agg #[.string o.t, .int .i64 o.s, .int .i64 o.z]] w fun e w' => e = .returned (.bool (coB o)) ∧ Below w.heap.size w w' := by
  have HB0 := Lib.hid ((Below.refl w.heap.size w).alloc (Nat.le_refl _) (.cells #[.string o.t, .int .i64 o.s, .int .i64 o.z] 55))
  have HNm := Lib.hid (fun w => rname_all o.t w hs)
  clear hs
  unfold coB
  obtain ⟨t, s, z⟩ := o
  dsimp only at HB0 HNm ⊢
  cases g1 : nameB t with
  | false =>
    rw [g1] at HNm
    go_enter Tryd.func31, Tryd.ntmps31
    go_wp2_with fail
    refine (HNm.out _).mono ?_
    rintro e w1 ⟨rfl, rfl⟩
    go_wp2
    go_ret
    exact ⟨by rw [Bool.false_and]; rfl, HB0.out⟩
  | true =>
    rw [g1] at HNm
    cases g2 : decide (0 ≤ s) with
    | false =>
      go_enter Tryd.func31, Tryd.ntmps31
      go_wp2_with fail
      refine (HNm.out _).mono ?_
      rintro e w1 ⟨rfl, rfl⟩
      go_wp2
      go_ret
      exact ⟨by rfl, HB0.out⟩
    | true =>
      cases g3 : decide (s ≤ 7) with
      | false =>
        go_enter Tryd.func31, Tryd.ntmps31
        go_wp2_with fail
        refine (HNm.out _).mono ?_
        rintro e w1 ⟨rfl, rfl⟩
        go_wp2
        go_ret
        exact ⟨by rfl, HB0.out⟩
      | true =>
        cases g4 : decide (0 ≤ z) with
        | false =>
          go_enter Tryd.func31, Tryd.ntmps31
          go_wp2_with fail
          refine (HNm.out _).mono ?_
          rintro e w1 ⟨rfl, rfl⟩
          go_wp2
          go_ret
          exact ⟨by rfl, HB0.out⟩
        | true =>
          cases g5 : decide (z ≤ 1099511627776) with
          | false =>
            go_enter Tryd.func31, Tryd.ntmps31
            go_wp2_with fail
            refine (HNm.out _).mono ?_
            rintro e w1 ⟨rfl, rfl⟩
            go_wp2
            go_ret
            exact ⟨by rfl, HB0.out⟩
          | true =>
            go_enter Tryd.func31, Tryd.ntmps31
            go_wp2_with fail
            refine (HNm.out _).mono ?_
            rintro e w1 ⟨rfl, rfl⟩
            go_wp2
            go_ret
            exact ⟨by rfl, HB0.out⟩

set_option maxHeartbeats 2000000 in
theorem allmay_any (ao : Option Addr) (n cap : Nat) (l : List Co) (w : World) (h : Cos w (.slice ao n cap) l) (hn : n = l.length) (hcap : n ≤ maxLen) :
    Calls Tryd.prog 26 #[.slice ao n cap] w fun e w' => e = .returned (.bool (coL l)) ∧ Below w.heap.size w w' := by
  obtain ⟨x, hx⟩ : ∃ x, x = coL l := ⟨_, rfl⟩
  rw [← hx]
  have HX := Lib.hid hx
  have H := Lib.hid h
  have HN := Lib.hid hn
  have HCo := Lib.hid (fun o w => comay_any o w)
  have hcap : n ≤ 9223372036854775807 := by unfold maxLen at hcap; omega
  clear hx h hn
  go_enter Tryd.func26, Tryd.ntmps26
  go_wp2
  go_loopw [7] (fun i wr => ∃ k : Nat, k ≤ n ∧ i = .int .i64 (k : Int) ∧ Hid (∀ j, j < k → coB (l.getD j default) = true) ∧ Hid (Below w.heap.size w wr)) (fun i _ => n - (intOf i).toNat)
  case atStart => exact ⟨0, Nat.zero_le _, rfl, Lib.hid (fun j hj => by omega), Lib.hid (Below.refl _ _)⟩
  case round =>
    obtain ⟨k, hk, rfl, hp, hb⟩ := hrel
    by_cases hlt : k < n
    · have l1 : (k : Int) < (n : Int) := by omega
      have l0 : (0 : Int) ≤ (k : Int) := by omega
      have HBad := Lib.hid (fun h => coL_bad (l := l) (k := k) (by rw [← HN.out]; exact hlt) h)
      have HP := Lib.hid (show coB (l.getD k default) = true → ∀ j, j < k + 1 → coB (l.getD j default) = true from fun h j hj => by
        by_cases e : j = k
        · subst e; exact h
        · exact hp.out j (by omega))
      have hp2 : Cos wr (.slice ao n cap) l := Row.below H.out hb.out
      obtain ⟨bl, off, rfl, hbl, hc⟩ := hp2.get HN.out (by omega)
      obtain ⟨c0, c1, c2⟩ := hc k hlt
      have HXk := Lib.hid (fun w => HCo.out (l.getD k default) w)
      generalize l.getD k default = p at *
      obtain ⟨t, s, z⟩ := p
      dsimp only at c0 c1 c2 HXk
      have HB1 := Lib.hid (hb.out.alloc hb.out.size (.cells #[.string t, .int .i64 s, .int .i64 z] 55))
      clear hc hp2
      cases g : coB ⟨t, s, z⟩ with
      | false =>
        rw [g] at HXk
        have HR := Lib.hid (show x = false by rw [HX.out]; exact HBad.out g)
        clear g HBad HP
        go_wp2_with fail
        refine (HXk.out _).mono ?_
        rintro e w2 ⟨rfl, hb2⟩
        have HB2 := Lib.hid (bt HB1.out hb2)
        clear hb2
        go_wp2
        go_ret
        exact ⟨by rw [HR.out]; rfl, HB2.out⟩
      | true =>
        rw [g] at HXk
        have HQ := Lib.hid (HP.out g)
        clear g HBad HP
        go_wp2_with fail
        refine (HXk.out _).mono ?_
        rintro e w2 ⟨rfl, hb2⟩
        have HB2 := Lib.hid (bt HB1.out hb2)
        clear hb2
        go_wp2
        go_roundw
        case rel => exact ⟨k + 1, by omega, by go_num, HQ, HB2⟩
        case measure => simp [intOf]; omega
    · obtain rfl : k = n := by omega
      have HR := Lib.hid (show x = true by rw [HX.out, coL_iff]; exact fun j hj => hp.out j (by rw [HN.out]; exact hj))
      go_wp2
      go_ret
      exact ⟨by rw [HR.out]; rfl, hb.out⟩

/-- The error of costs by a term. -/
def cwrongN (t : Int) (l : List Co) : Int := if (isB t && coL l) = false then 1 else if 4096 < l.length then 7 else 0
set_option maxHeartbeats 2000000 in
theorem rcwrong_any (t : Int) (ao : Option Addr) (n cap : Nat) (l : List Co) (w : World) (h : Cos w (.slice ao n cap) l) (hn : n = l.length) (hcap : n ≤ maxLen) (hs : ∀ o ∈ l, o.wf) :
    Calls Tryd.prog 13 #[.int .i64 t, .slice ao n cap] w fun e w' => e = .returned (.int .i64 (cwrongN t l)) ∧ Below w.heap.size w w' := by
  obtain ⟨x, hx⟩ : ∃ x, x = cwrongN t l := ⟨_, rfl⟩
  rw [← hx]
  have HX := Lib.hid hx
  have H := Lib.hid h
  have HN := Lib.hid hn
  have HCo := Lib.hid (fun o w hs => rcomay_any o w hs)
  have HSz := Lib.hid (show ∀ k, k < n → (l.getD k default).t.size ≤ maxLen from fun k hk => by
    rw [List.getD_eq_getElem?_getD, List.getElem?_eq_getElem (show k < l.length by omega)]
    exact (hs _ (List.getElem_mem _)).1)
  have HI := Lib.hid (fun w => is_any t w)
  have hcap : n ≤ 9223372036854775807 := by unfold maxLen at hcap; omega
  clear hx h hn hs
  cases gt : isB t with
  | false =>
    rw [gt] at HI
    have HR := Lib.hid (show x = 1 by rw [HX.out]; unfold cwrongN; rw [gt]; rfl)
    go_enter Tryd.func13, Tryd.ntmps13
    go_wp2_with fail
    refine (HI.out _).mono ?_
    rintro e w1 ⟨rfl, rfl⟩
    go_wp2
    go_ret
    exact ⟨by rw [HR.out]; rfl, Below.refl _ _⟩
  | true =>
    rw [gt] at HI
    have HX := Lib.hid (show x = if coL l = false then 1 else if 4096 < l.length then 7 else 0 by rw [HX.out]; unfold cwrongN; rw [gt, Bool.true_and])
    go_enter Tryd.func13, Tryd.ntmps13
    go_wp2_with fail
    refine (HI.out _).mono ?_
    rintro e w1 ⟨rfl, rfl⟩
    go_wp2
    go_loopw [5] (fun i wr => ∃ k : Nat, k ≤ n ∧ i = .int .i64 (k : Int) ∧ Hid (∀ j, j < k → coB (l.getD j default) = true) ∧ Hid (Below w.heap.size w wr)) (fun i _ => n - (intOf i).toNat)
    case atStart => exact ⟨0, Nat.zero_le _, rfl, Lib.hid (fun j hj => by omega), Lib.hid (Below.refl _ _)⟩
    case round =>
      obtain ⟨k, hk, rfl, hp, hb⟩ := hrel
      by_cases hlt : k < n
      · have l1 : (k : Int) < (n : Int) := by omega
        have l0 : (0 : Int) ≤ (k : Int) := by omega
        have HBad := Lib.hid (fun h => coL_bad (l := l) (k := k) (by rw [← HN.out]; exact hlt) h)
        have HP := Lib.hid (show coB (l.getD k default) = true → ∀ j, j < k + 1 → coB (l.getD j default) = true from fun h j hj => by
          by_cases e : j = k
          · subst e; exact h
          · exact hp.out j (by omega))
        have hp2 : Cos wr (.slice ao n cap) l := Row.below H.out hb.out
        obtain ⟨bl, off, rfl, hbl, hc⟩ := hp2.get HN.out (by omega)
        obtain ⟨c0, c1, c2⟩ := hc k hlt
        have hsz := HSz.out k hlt
        have HXk := Lib.hid (fun w => HCo.out (l.getD k default) w hsz)
        generalize l.getD k default = p at *
        obtain ⟨t, s, z⟩ := p
        dsimp only at c0 c1 c2 HXk
        clear hc hp2 hsz
        cases g : coB ⟨t, s, z⟩ with
        | false =>
          rw [g] at HXk
          have HR := Lib.hid (show x = 1 by rw [HX.out, if_pos (HBad.out g)])
          clear g HBad HP
          go_wp2_with fail
          refine (HXk.out _).mono ?_
          rintro e w2 ⟨rfl, hb2⟩
          have HB2 := Lib.hid (bt hb.out hb2)
          clear hb2
          go_wp2
          go_ret
          exact ⟨by rw [HR.out]; rfl, HB2.out⟩
        | true =>
          rw [g] at HXk
          have HQ := Lib.hid (HP.out g)
          clear g HBad HP
          go_wp2_with fail
          refine (HXk.out _).mono ?_
          rintro e w2 ⟨rfl, hb2⟩
          have HB2 := Lib.hid (bt hb.out hb2)
          clear hb2
          go_wp2
          go_roundw
          case rel => exact ⟨k + 1, by omega, by go_num, HQ, HB2⟩
          case measure => simp [intOf]; omega
      · obtain rfl : k = n := by omega
        have HX2 := Lib.hid (show x = if 4096 < k then 7 else 0 by
          rw [HX.out, if_neg (by rw [Bool.not_eq_false]; exact (coL_iff l).2 fun j hj => hp.out j (by rw [HN.out]; exact hj)), HN.out])
        by_cases g : 4096 < k
        · have d1 : decide ((4096 : Int) < (k : Int)) = true := by rw [decide_eq_true_iff]; omega
          have HR := Lib.hid (show x = 7 by rw [HX2.out, if_pos g])
          clear g
          go_wp2
          go_ret
          exact ⟨by rw [HR.out]; rfl, hb.out⟩
        · have d1 : decide ((4096 : Int) < (k : Int)) = false := by rw [decide_eq_false_iff_not]; omega
          have HR := Lib.hid (show x = 0 by rw [HX2.out, if_neg g])
          clear g
          go_wp2
          go_ret
          exact ⟨by rw [HR.out]; rfl, hb.out⟩


theorem Tryd.infoCo : (Tryd.prog.info? 55).map (fun i => (i.zero, i.size, i.bytes)) = some (some (.agg #[.string ⟨#[]⟩, .int .i64 0, .int .i64 0]), 3, 32) := by kernel_rfl
theorem one_co (p : Co) : ∀ u ∈ p.cells, u.oneCell' = true := by
  intro u hu
  simp only [Co.cells, List.mem_cons, List.not_mem_nil, or_false] at hu
  rcases hu with rfl | rfl | rfl <;> rfl
theorem box_at0 {w w1 : World} {t : TypeId} {cs : Array Value} {j : Nat} {v : Value} (h : Below (w.alloc (.cells cs t)).heap.size (w.alloc (.cells cs t)) w1) (hv : cs[j]? = some v) : w1.cell? ⟨w.heap.size, j, none⟩ = some v := by
  rw [h.cell (by simp)]; unfold World.cell?; rw [heap_alloc_new]; exact hv
/-- A row of one's own, that grows. -/
def OwnCo (w : World) (v : Value) (l : List Co) : Prop := w.ownsRow 0 55 3 v l.length (l.flatMap Co.cells)
theorem OwnCo.app {w : World} {v : Value} {l : List Co} {o : Co} (h : w.ownsRow 0 55 3 v (l.length + 1) (l.flatMap Co.cells ++ o.cells)) : OwnCo w v (l ++ [o]) := by
  have e1 : (l ++ [o]).length = l.length + 1 := by simp
  have e2 : (l ++ [o]).flatMap Co.cells = l.flatMap Co.cells ++ o.cells := by simp
  unfold OwnCo; rw [e1, e2]; exact h
/-- Two rows that grow beside each other. -/
structure Grow2 (w0 w : World) (v1 : Value) (l1 : List Co) (v2 : Value) (l2 : List Co) : Prop where
  r1 : OwnCo w v1 l1
  r2 : OwnCo w v2 l2
  g1 : ∀ k, v1.ownBlock = some k → w0.heap.size ≤ k
  g2 : ∀ k, v2.ownBlock = some k → w0.heap.size ≤ k
  ne : ∀ k, v1.ownBlock = some k → v2.ownBlock ≠ some k
  bel : Below w0.heap.size w0 w
theorem Grow2.later {w0 w w' : World} {v1 v2 : Value} {l1 l2 : List Co} (h : Grow2 w0 w v1 l1 v2 l2) (hb : Below w.heap.size w w') : Grow2 w0 w' v1 l1 v2 l2 :=
  ⟨own_touch h.r1 (Touch.of_below (S := fun _ => False) hb) (fun _ _ e => e), own_touch h.r2 (Touch.of_below (S := fun _ => False) hb) (fun _ _ e => e), h.g1, h.g2, h.ne, bt h.bel hb⟩
theorem Grow2.swap {w0 w : World} {v1 v2 : Value} {l1 l2 : List Co} (h : Grow2 w0 w v1 l1 v2 l2) : Grow2 w0 w v2 l2 v1 l1 := ⟨h.r2, h.r1, h.g2, h.g1, fun k h1 h2 => h.ne k h2 h1, h.bel⟩
theorem Grow2.app1 {w0 w w' : World} {v1 v2 v' : Value} {l1 l2 : List Co} (h : Grow2 w0 w v1 l1 v2 l2) (o : Co) (hr : w'.ownsRow 0 55 3 v' (l1.length + 1) (l1.flatMap Co.cells ++ o.cells)) (hg : w.grownBy w' v1.ownBlock) (hlo : ∀ k, v'.ownBlock = some k → v1.ownBlock = some k ∨ w.heap.size ≤ k) :
    Grow2 w0 w' v' (l1 ++ [o]) v2 l2 := by
  have ht : Touch (fun k => v1.ownBlock = some k) w w' := (Touch.refl _ w).grown hg (fun k hk => .inl hk)
  refine ⟨OwnCo.app hr, own_touch h.r2 ht (fun k h2 h1 => h.ne k h1 h2), fun k hk => ?_, h.g2, fun k hk h2 => ?_, h.bel.trans (ht.below h.bel.size (fun x hx => h.g1 x hx))⟩
  · rcases hlo k hk with e | e
    · exact h.g1 k e
    · exact Nat.le_trans h.bel.size e
  · rcases hlo k hk with e | e
    · exact h.ne k e h2
    · have := own_lt h.r2 h2; omega
theorem Grow2.start (w : World) : Grow2 w w (.slice none 0 0) [] (.slice none 0 0) [] :=
  ⟨World.ownsRow_nil _ _ _ _, World.ownsRow_nil _ _ _ _, (fun k hk => by cases hk), (fun k hk => by cases hk), (fun k hk => by cases hk), Below.refl _ _⟩
theorem OwnCo.cos {w : World} {v : Value} {l : List Co} (h : OwnCo w v l) : Cos w v l := Row.of_own h

theorem buy_take {c : Int} {l : List Co} {k : Nat} (hk : k < l.length) (h : c ≤ (l.getD k default).s) : buyL c (l.take (k + 1)) = buyL c (l.take k) ++ [l.getD k default] ∧ selL c (l.take (k + 1)) = selL c (l.take k) := by
  rw [List.getD_eq_getElem?_getD, List.getElem?_eq_getElem hk] at h ⊢
  dsimp only [Option.getD_some] at h ⊢
  unfold buyL selL
  rw [List.take_succ_eq_append_getElem hk, List.filter_append, List.filter_append]
  simp [h]
theorem sel_take {c : Int} {l : List Co} {k : Nat} (hk : k < l.length) (h : ¬ c ≤ (l.getD k default).s) : buyL c (l.take (k + 1)) = buyL c (l.take k) ∧ selL c (l.take (k + 1)) = selL c (l.take k) ++ [l.getD k default] := by
  rw [List.getD_eq_getElem?_getD, List.getElem?_eq_getElem hk] at h ⊢
  dsimp only [Option.getD_some] at h ⊢
  unfold buyL selL
  rw [List.take_succ_eq_append_getElem hk, List.filter_append, List.filter_append]
  simp [h]

set_option maxHeartbeats 1000000 in
theorem told_any (w : World) (c : Nat) (t : Int) (o : Co) (hw : Terms w) (hc : w.cell? ⟨c, 0, none⟩ = some (.int .i64 t)) (ht : isB t = true) (h0 : 0 ≤ o.s) (h7 : o.s ≤ 7) :
    Calls Tryd.prog 28 #[.agg #[.string o.t, .int .i64 o.s, .int .i64 o.z], .pointer (some ⟨c, 0, none⟩)] w fun e w' => e = .returned (.bool (decide (cosT t ≤ o.s))) ∧ Below w.heap.size w w' := by
  have hba := (Below.refl w.heap.size w).alloc (Nat.le_refl _) (.cells #[.string o.t, .int .i64 o.s, .int .i64 o.z] 55)
  have HP := Lib.hid (pays_any t o.s _ (hw.below hba))
  have HB := Lib.hid hba
  have k1 := cell_later hba hc
  have e : paysT t o.s = if cosT t ≤ o.s then ⟨#[98, 117, 121, 101, 114]⟩ else ⟨#[115, 101, 108, 108, 101, 114]⟩ := by
    simp only [isB, Bool.and_eq_true, decide_eq_true_eq] at ht
    unfold paysT whoT
    rw [if_pos ⟨ht.1, by omega, h0, by omega⟩]
  rw [e] at HP
  have b1 : ((⟨#[98, 117, 121, 101, 114]⟩ : ByteArray).toList == (⟨#[98, 117, 121, 101, 114]⟩ : ByteArray).toList) = true := by simp
  have b2 : ((⟨#[115, 101, 108, 108, 101, 114]⟩ : ByteArray).toList == (⟨#[98, 117, 121, 101, 114]⟩ : ByteArray).toList) = false := (Lib.bytes_beq_false_iff _ _).2 (by decide)
  obtain ⟨ot, os, oz⟩ := o
  dsimp only at HP HB k1 ⊢
  clear hba hw hc ht h0 h7 e
  by_cases g : cosT t ≤ os
  · rw [if_pos g] at HP
    rw [decide_eq_true g]
    clear g b2
    go_enter Tryd.func28, Tryd.ntmps28
    go_wp2_with fail
    refine HP.out.mono ?_
    rintro e w1 ⟨rfl, n, rfl⟩
    go_wp2
    go_ret
    exact ⟨rfl, below_drewN HB.out n⟩
  · rw [if_neg g] at HP
    rw [decide_eq_false g]
    clear g b1
    go_enter Tryd.func28, Tryd.ntmps28
    go_wp2_with fail
    refine HP.out.mono ?_
    rintro e w1 ⟨rfl, n, rfl⟩
    go_wp2
    go_ret
    exact ⟨rfl, below_drewN HB.out n⟩

def SortedPost (w : World) (c : Int) (l : List Co) (e : Ending) (w' : World) : Prop :=
  ∃ v1 v2, e = .returned (.tuple #[v1, v2]) ∧ OwnCo w' v1 (buyL c l) ∧ OwnCo w' v2 (selL c l) ∧ Below w.heap.size w w'
set_option maxRecDepth 20000 in
set_option maxHeartbeats 4000000 in
theorem sorted_any (ao : Option Addr) (n cap c : Nat) (t : Int) (l : List Co) (w : World) (h : Cos w (.slice ao n cap) l) (hn : n = l.length) (hcap : n ≤ 4096) (hw : Terms w) (hc : w.cell? ⟨c, 0, none⟩ = some (.int .i64 t)) (ht : isB t = true) (hl : coL l = true) :
    Calls Tryd.prog 27 #[.slice ao n cap, .func (.func 28) #[] #[.pointer (some ⟨c, 0, none⟩)]] w (SortedPost w (cosT t) l) := by
  have H := Lib.hid h
  have HN := Lib.hid hn
  have HW := Lib.hid hw
  have HC := Lib.hid hc
  have HT := Lib.hid (fun w o hw hc h0 h7 => told_any w c t o hw hc ht h0 h7)
  have HNu := Lib.hid (co_nums hl)
  have HG := Lib.hid (Grow2.start w)
  obtain ⟨i0, hi, hz0, hz1, hz2⟩ := info_parts Tryd.infoCo
  generalize cosT t = C at *
  clear h hn hw hc ht hl
  go_enter Tryd.func27, Tryd.ntmps27
  go_wp2
  go_loopw [4, 5, 10] (fun v1 v2 i wr => ∃ (k : Nat) (a1 : Option Addr) (n1 q1 : Nat) (a2 : Option Addr) (n2 q2 : Nat), k ≤ n ∧ i = .int .i64 (k : Int) ∧ v1 = .slice a1 n1 q1 ∧ v2 = .slice a2 n2 q2 ∧ Hid (Grow2 w wr (.slice a1 n1 q1) (buyL C (l.take k)) (.slice a2 n2 q2) (selL C (l.take k)))) (fun _ _ i _ => n - (intOf i).toNat)
  case atStart => exact ⟨0, none, 0, 0, none, 0, 0, Nat.zero_le _, rfl, rfl, rfl, HG⟩
  case round =>
    obtain ⟨k, a1, n1, q1, a2, n2, q2, hk, rfl, rfl, rfl, hg⟩ := hrel
    clear HG
    by_cases hlt : k < n
    · have l1 : (k : Int) < (n : Int) := by omega
      have l0 : (0 : Int) ≤ (k : Int) := by omega
      have hkl : k < l.length := by rw [← HN.out]; exact hlt
      have hp2 : Cos wr (.slice ao n cap) l := Row.below H.out hg.out.bel
      obtain ⟨bl, off, rfl, hbl, hcc⟩ := hp2.get HN.out (by omega)
      obtain ⟨c0, c1, c2⟩ := hcc k hlt
      have hnu := HNu.out (l.getD k default) (by rw [List.getD_eq_getElem?_getD, List.getElem?_eq_getElem hkl]; exact List.getElem_mem hkl)
      have HBy := Lib.hid (fun g => buy_take (c := C) hkl g)
      have HSe := Lib.hid (fun g => sel_take (c := C) hkl g)
      have HL1 := Lib.hid (show (buyL C (l.take k)).length ≤ k from Nat.le_trans (List.length_filter_le _ _) (by simp; omega))
      have HL2 := Lib.hid (show (selL C (l.take k)).length ≤ k from Nat.le_trans (List.length_filter_le _ _) (by simp; omega))
      have HTk := Lib.hid (fun w hw hc => HT.out w (l.getD k default) hw hc hnu.1 hnu.2.1)
      generalize buyL C (l.take k) = L1 at *
      generalize selL C (l.take k) = L2 at *
      generalize l.getD k default = p at *
      obtain ⟨pt, ps, pz⟩ := p
      dsimp only at c0 c1 c2 HBy HSe HTk
      have hba := (Below.refl wr.heap.size wr).alloc (Nat.le_refl _) (.cells #[.string pt, .int .i64 ps, .int .i64 pz] 55)
      have HTw := Lib.hid (HTk.out _ (HW.out.below (bt hg.out.bel hba)) (cell_later (bt hg.out.bel hba) HC.out))
      have HBa := Lib.hid hba
      clear hcc hp2 hba hnu
      by_cases g : C ≤ ps
      · rw [decide_eq_true g] at HTw
        have HY := Lib.hid (HBy.out g)
        clear g HSe HBy
        go_wp2_with fail
        refine HTw.out.mono ?_
        rintro e w2 ⟨rfl, hb2⟩
        have z0 := box_at0 (j := 0) hb2 rfl
        have z1 := box_at0 (j := 1) hb2 rfl
        have z2 := box_at0 (j := 2) hb2 rfl
        have HG2 := Lib.hid ((hg.out.later HBa.out).later hb2)
        clear hb2
        have HG3 := Lib.hid (HG2.out.later ((Below.refl w2.heap.size w2).alloc (Nat.le_refl _) (.cells #[.string pt, .int .i64 ps, .int .i64 pz] 55)))
        have HL := HL1.out
        go_wp2_with (at_builtin; refine wpList_own rfl (.tmp 17) (.tmp 19) 22 rfl 55 i0 _ 3 32 Tryd.underlying22 hi hz0 hz1 hz2 rfl (by decide) _ _ _ rfl HG3.out.r1 ⟨w2.heap.size, 0, none⟩ 1 1 [.string pt, .int .i64 ps, .int .i64 pz] rfl rfl (new_cells w2 #[.string pt, .int .i64 ps, .int .i64 pz] _) (one_co ⟨pt, ps, pz⟩) (by unfold maxLen; omega) (by omega) ?_; intro v4 w4 hown4 hg4 hn4; obtain ⟨a4, q4, rfl⟩ := own_shape hown4; have HG4 := Lib.hid (HG3.out.app1 ⟨pt, ps, pz⟩ hown4 hg4 hn4); clear hown4 hg4 hn4)
        go_roundw
        case rel => exact ⟨k + 1, _, _, _, _, _, _, by omega, by go_num, rfl, rfl, by rw [HY.out.1, HY.out.2]; exact HG4⟩
        case measure => simp [intOf]; omega
      · rw [decide_eq_false g] at HTw
        have HY := Lib.hid (HSe.out g)
        clear g HSe HBy
        go_wp2_with fail
        refine HTw.out.mono ?_
        rintro e w2 ⟨rfl, hb2⟩
        have z0 := box_at0 (j := 0) hb2 rfl
        have z1 := box_at0 (j := 1) hb2 rfl
        have z2 := box_at0 (j := 2) hb2 rfl
        have HG2 := Lib.hid ((hg.out.later HBa.out).later hb2)
        clear hb2
        have HG3 := Lib.hid (HG2.out.later ((Below.refl w2.heap.size w2).alloc (Nat.le_refl _) (.cells #[.string pt, .int .i64 ps, .int .i64 pz] 55)))
        have HL := HL2.out
        go_wp2_with (at_builtin; refine wpList_own rfl (.tmp 21) (.tmp 23) 22 rfl 55 i0 _ 3 32 Tryd.underlying22 hi hz0 hz1 hz2 rfl (by decide) _ _ _ rfl HG3.out.r2 ⟨w2.heap.size, 0, none⟩ 1 1 [.string pt, .int .i64 ps, .int .i64 pz] rfl rfl (new_cells w2 #[.string pt, .int .i64 ps, .int .i64 pz] _) (one_co ⟨pt, ps, pz⟩) (by unfold maxLen; omega) (by omega) ?_; intro v4 w4 hown4 hg4 hn4; obtain ⟨a4, q4, rfl⟩ := own_shape hown4; have HG4 := Lib.hid (HG3.out.swap.app1 ⟨pt, ps, pz⟩ hown4 hg4 hn4).swap; clear hown4 hg4 hn4)
        go_roundw
        case rel => exact ⟨k + 1, _, _, _, _, _, _, by omega, by go_num, rfl, rfl, by rw [HY.out.1, HY.out.2]; exact HG4⟩
        case measure => simp [intOf]; omega
    · obtain rfl : k = n := by omega
      have e : l.take k = l := List.take_of_length_le (by rw [HN.out]; exact Nat.le_refl _)
      rw [e] at hg
      go_wp2
      go_ret2
      exact ⟨_, _, rfl, hg.out.r1, hg.out.r2, hg.out.bel⟩

def SplitPost (w : World) (t : Int) (l : List Co) (e : Ending) (w' : World) : Prop :=
  ∃ a1 c1 a2 c2, e = .returned (.tuple #[.slice a1 (selL (cosT t) l).length c1, .slice a2 (buyL (cosT t) l).length c2, .int .i64 0]) ∧ OwnCo w' (.slice a1 (selL (cosT t) l).length c1) (selL (cosT t) l) ∧ OwnCo w' (.slice a2 (buyL (cosT t) l).length c2) (buyL (cosT t) l) ∧ Below w.heap.size w w'
theorem namZ_ne {t : Int} (h : isB t = true) : ((namZ t).toList == (⟨#[]⟩ : ByteArray).toList) = false := by
  simp only [isB, Bool.and_eq_true, decide_eq_true_eq] at h
  obtain ⟨n, rfl⟩ := Int.eq_ofNat_of_zero_le h.1
  have : n ≤ 7 := by omega
  refine (Lib.bytes_beq_false_iff _ _).2 ?_
  clear h
  match n, this with
  | 0, _ | 1, _ | 2, _ | 3, _ | 4, _ | 5, _ | 6, _ | 7, _ => decide
theorem namZ_em {t : Int} (h : isB t = true) : (namZ t).toList.isEmpty = false := by
  have := namZ_ne h
  simpa using this
theorem namZ_no {t : Int} (h : isB t = false) : namZ t = ⟨#[]⟩ := by
  simp only [isB, Bool.and_eq_false_iff, decide_eq_false_iff_not] at h
  unfold namZ; rw [if_neg (by omega)]

set_option maxHeartbeats 2000000 in
theorem csplit_bad (t : Int) (ao : Option Addr) (n cap : Nat) (l : List Co) (w : World) (h : Cos w (.slice ao n cap) l) (hn : n = l.length) (hcap : n ≤ 4096) (hw : Terms w) (hb : (isB t && coL l) = false) :
    Calls Tryd.prog 11 #[.int .i64 t, .slice ao n cap] w fun e w' => e = .returned (.tuple #[.slice none 0 0, .slice none 0 0, .int .i64 1]) ∧ Below w.heap.size w w' := by
  have hba := (Below.refl w.heap.size w).alloc (Nat.le_refl _) (.cells #[.int .i64 t] 3)
  have HNm := Lib.hid (tname_any t _ (hw.below hba))
  have HA := Lib.hid (allmay_any ao n cap l _ (h.below hba) hn (by unfold maxLen; omega))
  have HB := Lib.hid hba
  cases gt : isB t with
  | false =>
    rw [namZ_no gt] at HNm
    have b2 : ((⟨#[]⟩ : ByteArray).toList == (⟨#[]⟩ : ByteArray).toList) = true := by simp
    clear h hn hcap hw hb hba gt HA
    go_enter Tryd.func11, Tryd.ntmps11
    go_wp2_with fail
    refine HNm.out.mono ?_
    rintro e w1 ⟨rfl, rfl⟩
    go_wp2
    exact bodyPost_ret (v := .tuple #[.slice none 0 0, .slice none 0 0, .int .i64 1]) (by simp [results, Tryd.results11, go_sem]) rfl ⟨rfl, HB.out⟩
  | true =>
    have b2 := namZ_em gt
    rw [gt, Bool.true_and] at hb
    rw [hb] at HA
    generalize namZ t = N at *
    clear h hn hcap hw hb hba gt
    go_enter Tryd.func11, Tryd.ntmps11
    go_wp2_with fail
    refine HNm.out.mono ?_
    rintro e w1 ⟨rfl, rfl⟩
    go_wp2_with fail
    refine HA.out.mono ?_
    rintro e w2 ⟨rfl, hb2⟩
    have HB2 := Lib.hid (bt HB.out hb2)
    clear hb2
    go_wp2
    exact bodyPost_ret (v := .tuple #[.slice none 0 0, .slice none 0 0, .int .i64 1]) (by simp [results, Tryd.results11, go_sem]) rfl ⟨rfl, HB2.out⟩

set_option maxHeartbeats 2000000 in
theorem csplit_ok (t : Int) (ao : Option Addr) (n cap : Nat) (l : List Co) (w : World) (h : Cos w (.slice ao n cap) l) (hn : n = l.length) (hcap : n ≤ 4096) (hw : Terms w) (ht : isB t = true) (hl : coL l = true) :
    Calls Tryd.prog 11 #[.int .i64 t, .slice ao n cap] w (SplitPost w t l) := by
  have hba := (Below.refl w.heap.size w).alloc (Nat.le_refl _) (.cells #[.int .i64 t] 3)
  have HNm := Lib.hid (tname_any t _ (hw.below hba))
  have HA := Lib.hid (allmay_any ao n cap l _ (h.below hba) hn (by unfold maxLen; omega))
  have HB := Lib.hid hba
  have b2 := namZ_em ht
  rw [hl] at HA
  have d1 : decide ((4096 : Int) < (n : Int)) = false := by rw [decide_eq_false_iff_not]; omega
  have HS := Lib.hid (fun W (hb : Below w.heap.size w W) hc => sorted_any ao n cap w.heap.size t l W (h.below hb) hn hcap (hw.below hb) hc ht hl)
  generalize namZ t = N at *
  clear h hn hcap hw hba hl ht
  go_enter Tryd.func11, Tryd.ntmps11
  go_wp2_with fail
  refine HNm.out.mono ?_
  rintro e w1 ⟨rfl, rfl⟩
  go_wp2_with fail
  refine HA.out.mono ?_
  rintro e w2 ⟨rfl, hb2⟩
  have HB2 := Lib.hid (bt HB.out hb2)
  have HS2 := Lib.hid (HS.out w2 HB2.out (box_at0 (j := 0) hb2 rfl))
  clear hb2
  go_wp2_with fail
  refine HS2.out.mono ?_
  rintro e w3 ⟨v1, v2, rfl, h1, h2, hb3⟩
  have HX := Lib.hid (And.intro h1 (And.intro h2 (bt HB2.out hb3)))
  obtain ⟨a1, c1, rfl⟩ := own_shape h1
  obtain ⟨a2, c2, rfl⟩ := own_shape h2
  clear h1 h2 hb3
  go_wp2
  exact bodyPost_ret (v := .tuple #[.slice a2 (selL (cosT t) l).length c2, .slice a1 (buyL (cosT t) l).length c1, .int .i64 0]) (by simp [results, Tryd.results11, go_sem]) rfl ⟨_, _, _, _, rfl, HX.out.2.1, HX.out.1, HX.out.2.2⟩


theorem sumC_take {l : List Co} {k : Nat} (hk : k < l.length) : sumC (l.take (k + 1)) = sumC (l.take k) + (l.getD k default).z := by
  rw [List.take_succ_eq_append_getElem hk, sumC_app, List.getD_eq_getElem?_getD, List.getElem?_eq_getElem hk]
  simp [sumC]
theorem sumC_bd : ∀ {l : List Co}, (∀ o ∈ l, 0 ≤ o.z ∧ o.z ≤ 1099511627776) → 0 ≤ sumC l ∧ sumC l ≤ l.length * 1099511627776
  | [], _ => by simp [sumC]
  | o :: l, h => by
    have h1 := h o (by simp)
    have h2 := sumC_bd (l := l) (fun x hx => h x (by simp [hx]))
    rw [sumC_cons, List.length_cons]
    omega
theorem sumC_tk {l : List Co} (h : ∀ o ∈ l, 0 ≤ o.z ∧ o.z ≤ 1099511627776) (h60 : l.length ≤ 4096) (k : Nat) : 0 ≤ sumC (l.take k) ∧ sumC (l.take k) ≤ 4503599627370496 := by
  have h1 := sumC_bd (l := l.take k) (fun o ho => h o (List.mem_of_mem_take ho))
  have h2 : (l.take k).length ≤ 4096 := by simp; omega
  omega

set_option maxHeartbeats 2000000 in
theorem csum_any (ao : Option Addr) (n cap : Nat) (l : List Co) (w : World) (h : Cos w (.slice ao n cap) l) (hn : n = l.length) (hcap : n ≤ 4096) (hz : ∀ o ∈ l, 0 ≤ o.z ∧ o.z ≤ 1099511627776) :
    Calls Tryd.prog 36 #[.slice ao n cap] w fun e w' => e = .returned (.int .i64 (sumC l)) ∧ Below w.heap.size w w' := by
  have H := Lib.hid h
  have HN := Lib.hid hn
  have HT := Lib.hid (sumC_tk hz (by omega))
  clear h hn hz
  go_enter Tryd.func36, Tryd.ntmps36
  go_wp2
  go_loopw [3, 8] (fun s i wr => ∃ k : Nat, k ≤ n ∧ i = .int .i64 (k : Int) ∧ s = .int .i64 (sumC (l.take k)) ∧ Hid (Below w.heap.size w wr)) (fun _ i _ => n - (intOf i).toNat)
  case atStart => exact ⟨0, Nat.zero_le _, rfl, rfl, Lib.hid (Below.refl _ _)⟩
  case round =>
    obtain ⟨k, hk, rfl, rfl, hb⟩ := hrel
    by_cases hlt : k < n
    · have l1 : (k : Int) < (n : Int) := by omega
      have l0 : (0 : Int) ≤ (k : Int) := by omega
      have hp2 : Cos wr (.slice ao n cap) l := Row.below H.out hb.out
      obtain ⟨bl, off, rfl, hbl, hc⟩ := hp2.get HN.out (by omega)
      obtain ⟨c0, c1, c2⟩ := hc k hlt
      have HSt := Lib.hid (sumC_take (l := l) (k := k) (by rw [← HN.out]; exact hlt))
      have t0 := HT.out k
      have t1 := HT.out (k + 1)
      rw [HSt.out] at t1
      generalize l.getD k default = p at *
      obtain ⟨pt, ps, pz⟩ := p
      dsimp only at c0 c1 c2 HSt t1
      generalize sumC (l.take k) = S at *
      have v1 : IntKind.i64.wrap (S + pz) = S + pz := IntWalk.i64_in _ (by omega)
      have HB1 := Lib.hid (hb.out.alloc hb.out.size (.cells #[.string pt, .int .i64 ps, .int .i64 pz] 55))
      clear hc hp2 t0 t1
      go_wp2
      go_roundw
      case rel => exact ⟨k + 1, by omega, by go_num, by rw [HSt.out], HB1⟩
      case measure => simp [intOf]; omega
    · obtain rfl : k = n := by omega
      have e : l.take k = l := List.take_of_length_le (by rw [HN.out]; exact Nat.le_refl _)
      rw [e]
      go_wp2
      go_ret
      exact ⟨rfl, hb.out⟩

set_option maxHeartbeats 2000000 in
theorem rcsum_any (ao : Option Addr) (n cap : Nat) (l : List Co) (w : World) (h : Cos w (.slice ao n cap) l) (hn : n = l.length) (hcap : n ≤ 4096) (hz : ∀ o ∈ l, 0 ≤ o.z ∧ o.z ≤ 1099511627776) :
    Calls Tryd.prog 21 #[.slice ao n cap] w fun e w' => e = .returned (.int .i64 (sumC l)) ∧ Below w.heap.size w w' := by
  have H := Lib.hid h
  have HN := Lib.hid hn
  have HT := Lib.hid (sumC_tk hz (by omega))
  clear h hn hz
  go_enter Tryd.func21, Tryd.ntmps21
  go_wp2
  go_loopw [3, 4] (fun s i wr => ∃ k : Nat, k ≤ n ∧ i = .int .i64 (k : Int) ∧ s = .int .i64 (sumC (l.take k)) ∧ Hid (Below w.heap.size w wr)) (fun _ i _ => n - (intOf i).toNat)
  case atStart => exact ⟨0, Nat.zero_le _, rfl, rfl, Lib.hid (Below.refl _ _)⟩
  case round =>
    obtain ⟨k, hk, rfl, rfl, hb⟩ := hrel
    by_cases hlt : k < n
    · have l1 : (k : Int) < (n : Int) := by omega
      have l0 : (0 : Int) ≤ (k : Int) := by omega
      have hp2 : Cos wr (.slice ao n cap) l := Row.below H.out hb.out
      obtain ⟨bl, off, rfl, hbl, hc⟩ := hp2.get HN.out (by omega)
      obtain ⟨c0, c1, c2⟩ := hc k hlt
      have HSt := Lib.hid (sumC_take (l := l) (k := k) (by rw [← HN.out]; exact hlt))
      have t0 := HT.out k
      have t1 := HT.out (k + 1)
      rw [HSt.out] at t1
      generalize l.getD k default = p at *
      obtain ⟨pt, ps, pz⟩ := p
      dsimp only at c0 c1 c2 HSt t1
      generalize sumC (l.take k) = S at *
      have v1 : IntKind.i64.wrap (S + pz) = S + pz := IntWalk.i64_in _ (by omega)
      clear hc hp2 t0 t1 c0 c1
      go_wp2
      go_roundw
      case rel => exact ⟨k + 1, by omega, by go_num, by rw [HSt.out], hb⟩
      case measure => simp [intOf]; omega
    · obtain rfl : k = n := by omega
      have e : l.take k = l := List.take_of_length_le (by rw [HN.out]; exact Nat.le_refl _)
      rw [e]
      go_wp2
      go_ret
      exact ⟨rfl, hb.out⟩

/-- All amounts together; false: that is too much, or a cost may not be. -/
def sumsB (l : List Co) : Bool := coL l && decide (sumC l ≤ 1099511627776)
set_option maxHeartbeats 2000000 in
theorem sums_any (ao : Option Addr) (n cap : Nat) (l : List Co) (w : World) (h : Cos w (.slice ao n cap) l) (hn : n = l.length) (hcap : n ≤ 4096) :
    Calls Tryd.prog 20 #[.slice ao n cap] w fun e w' => e = .returned (.tuple #[.int .i64 (if sumsB l = true then sumC l else 0), .bool (sumsB l)]) ∧ Below w.heap.size w w' := by
  have HA := Lib.hid (allmay_any ao n cap l w h hn (by unfold maxLen; omega))
  have HS := Lib.hid (fun W (hb : Below w.heap.size w W) (hl : coL l = true) => csum_any ao n cap l W (h.below hb) hn hcap (fun o ho => (co_nums hl o ho).2.2))
  have d1 : decide ((4096 : Int) < (n : Int)) = false := by rw [decide_eq_false_iff_not]; omega
  unfold sumsB
  generalize coL l = c at *
  generalize sumC l = s at *
  clear h hn hcap
  cases c with
  | false =>
    go_enter Tryd.func20, Tryd.ntmps20
    go_wp2_with fail
    refine HA.out.mono ?_
    rintro e w1 ⟨rfl, hb1⟩
    have HB1 := Lib.hid hb1
    clear hb1
    go_wp2
    go_ret2
    exact ⟨rfl, HB1.out⟩
  | true =>
    by_cases g : s ≤ 1099511627776
    · have d2 : decide (1099511627776 < s) = false := by rw [decide_eq_false_iff_not]; omega
      rw [decide_eq_true g]
      clear g
      go_enter Tryd.func20, Tryd.ntmps20
      go_wp2_with fail
      refine HA.out.mono ?_
      rintro e w1 ⟨rfl, hb1⟩
      have HB1 := Lib.hid hb1
      have HS1 := Lib.hid (HS.out w1 hb1 (by first | rfl | trivial))
      clear hb1
      go_wp2_with fail
      refine HS1.out.mono ?_
      rintro e w2 ⟨rfl, hb2⟩
      have HB2 := Lib.hid (bt HB1.out hb2)
      clear hb2
      go_wp2
      go_ret2
      exact ⟨rfl, HB2.out⟩
    · have d2 : decide (1099511627776 < s) = true := by rw [decide_eq_true_iff]; omega
      rw [decide_eq_false g]
      clear g
      go_enter Tryd.func20, Tryd.ntmps20
      go_wp2_with fail
      refine HA.out.mono ?_
      rintro e w1 ⟨rfl, hb1⟩
      have HB1 := Lib.hid hb1
      have HS1 := Lib.hid (HS.out w1 hb1 (by first | rfl | trivial))
      clear hb1
      go_wp2_with fail
      refine HS1.out.mono ?_
      rintro e w2 ⟨rfl, hb2⟩
      have HB2 := Lib.hid (bt HB1.out hb2)
      clear hb2
      go_wp2
      go_ret2
      exact ⟨rfl, HB2.out⟩

set_option maxHeartbeats 2000000 in
theorem rcsame_any (a b : Value) (D : List Co) (w : World) (h1 : Cos w a D) (h2 : Cos w b D) :
    Calls Tryd.prog 12 #[a, b] w fun e w' => e = .returned (.bool true) ∧ Below w.heap.size w w' := by
  obtain ⟨ao, cap, ea, k1, k2, _⟩ := h1.shape
  obtain ⟨bo, cap2, eb, k3, k4, _⟩ := h2.shape
  subst ea eb
  obtain ⟨n, HN⟩ : ∃ n, Hid (n = D.length) := ⟨_, Lib.hid rfl⟩
  rw [← HN.out] at h1 h2 k1 k3 ⊢
  have H1 := Lib.hid h1
  have H2 := Lib.hid h2
  have hn4 : n ≤ 9223372036854775807 := by unfold maxLen at k2; omega
  clear h1 h2 k1 k2 k3 k4
  go_enter Tryd.func12, Tryd.ntmps12
  go_wp2
  go_loopw [5] (fun i wr => ∃ k : Nat, k ≤ n ∧ i = .int .i64 (k : Int) ∧ Hid (∃ q, wr = w.drewN q)) (fun i _ => n - (intOf i).toNat)
  case atStart => exact ⟨0, Nat.zero_le _, rfl, Lib.hid ⟨0, rfl⟩⟩
  case round =>
    obtain ⟨k, hk, rfl, hw⟩ := hrel
    by_cases hlt : k < n
    · have l1 : (k : Int) < (n : Int) := by omega
      have l0 : (0 : Int) ≤ (k : Int) := by omega
      have I1 : Cos wr (.slice ao n cap) D := by obtain ⟨q, e⟩ := hw.out; rw [e]; exact Row.drewN H1.out q
      have I2 : Cos wr (.slice bo n cap2) D := by obtain ⟨q, e⟩ := hw.out; rw [e]; exact Row.drewN H2.out q
      obtain ⟨b1, o1, rfl, -, hc1⟩ := I1.get HN.out (by omega)
      obtain ⟨b2, o2, rfl, -, hc2⟩ := I2.get HN.out (by omega)
      obtain ⟨a1, a2, a3⟩ := hc1 k hlt
      obtain ⟨e1, e2, e3⟩ := hc2 k hlt
      generalize D.getD k default = d at *
      obtain ⟨t, c, z⟩ := d
      dsimp only at a1 a2 a3 e1 e2 e3
      clear hc1 hc2 I1 I2
      go_wp2_with fail
      go_quiet (fail)
      go_wp2
      go_roundw
      case rel => exact ⟨k + 1, by omega, by go_num, Lib.hid (by obtain ⟨q, e⟩ := hw.out; exact ⟨q + nq, by rw [e, World.drewN_drewN]⟩)⟩
      case measure => simp [intOf]; omega
    · obtain rfl : k = n := by omega
      go_wp2
      go_ret
      exact ⟨rfl, by obtain ⟨q, e⟩ := hw.out; rw [e]; exact below_drewN (Below.refl _ _) q⟩


/-- The buyer's costs, or the seller's. -/
def ofL (b : Bool) (c : Int) (l : List Co) : List Co := l.filter fun o => decide (c ≤ o.s) == b
theorem ofL_true (c : Int) (l : List Co) : ofL true c l = buyL c l := by unfold ofL buyL; congr 1; funext o; simp
theorem ofL_false (c : Int) (l : List Co) : ofL false c l = selL c l := by unfold ofL selL; congr 1; funext o; cases decide (c ≤ o.s) <;> rfl
theorem ofL_take {b : Bool} {c : Int} {l : List Co} {k : Nat} (hk : k < l.length) : ofL b c (l.take (k + 1)) = if (decide (c ≤ (l.getD k default).s) == b) = true then ofL b c (l.take k) ++ [l.getD k default] else ofL b c (l.take k) := by
  rw [List.getD_eq_getElem?_getD, List.getElem?_eq_getElem hk]
  dsimp only [Option.getD_some]
  unfold ofL
  rw [List.take_succ_eq_append_getElem hk, List.filter_append]
  rw [List.filter_cons]
  by_cases h : (decide (c ≤ l[k].s) == b) = true
  · rw [if_pos h, if_pos h]; rfl
  · rw [if_neg h, if_neg h]; simp
/-- A row of one's own, not older than a world. -/
structure Grow1 (w0 w : World) (v : Value) (l : List Co) : Prop where
  r : OwnCo w v l
  g : ∀ k, v.ownBlock = some k → w0.heap.size ≤ k
  bel : Below w0.heap.size w0 w
theorem Grow1.later {w0 w w' : World} {v : Value} {l : List Co} (h : Grow1 w0 w v l) (hb : Below w.heap.size w w') : Grow1 w0 w' v l :=
  ⟨own_touch h.r (Touch.of_below (S := fun _ => False) hb) (fun _ _ e => e), h.g, bt h.bel hb⟩
theorem Grow1.app {w0 w w' : World} {v v' : Value} {l : List Co} (h : Grow1 w0 w v l) (o : Co) (hr : w'.ownsRow 0 55 3 v' (l.length + 1) (l.flatMap Co.cells ++ o.cells)) (hg : w.grownBy w' v.ownBlock) (hlo : ∀ k, v'.ownBlock = some k → v.ownBlock = some k ∨ w.heap.size ≤ k) :
    Grow1 w0 w' v' (l ++ [o]) := by
  have ht : Touch (fun k => v.ownBlock = some k) w w' := (Touch.refl _ w).grown hg (fun k hk => .inl hk)
  refine ⟨OwnCo.app hr, fun k hk => ?_, h.bel.trans (ht.below h.bel.size (fun x hx => h.g x hx))⟩
  rcases hlo k hk with e | e
  · exact h.g k e
  · exact Nat.le_trans h.bel.size e
theorem litCo (W : World) : OwnCo (W.alloc (.cells #[] 55)) (.slice (some ⟨W.heap.size, 0, none⟩) 0 0) [] :=
  ⟨by simp, .inr ⟨W.heap.size, 0, #[], rfl, Nat.zero_le _, heap_alloc_new _ _, Nat.le_refl _, by unfold maxLen; omega, by simp, by simp⟩⟩

def OfPost (w : World) (l : List Co) (e : Ending) (w' : World) : Prop :=
  ∃ a c, e = .returned (.slice a l.length c) ∧ OwnCo w' (.slice a l.length c) l ∧ Below w.heap.size w w'
set_option maxRecDepth 20000 in
set_option maxHeartbeats 4000000 in
theorem rof_any (b : Bool) (ao : Option Addr) (n cap : Nat) (t : Int) (l : List Co) (w : World) (h : Cos w (.slice ao n cap) l) (hn : n = l.length) (hcap : n ≤ 4096) (ht : isB t = true) :
    Calls Tryd.prog 14 #[.int .i64 t, .bool b, .slice ao n cap] w (OfPost w (ofL b (cosT t) l)) := by
  have H := Lib.hid h
  have HN := Lib.hid hn
  have HC := Lib.hid (fun W => refCost_any t W ht)
  have HG := Lib.hid (show Grow1 w (w.alloc (.cells #[] 55)) (.slice (some ⟨w.heap.size, 0, none⟩) 0 0) (ofL b (cosT t) (l.take 0)) from
    ⟨litCo w, (fun k hk => by cases hk; exact Nat.le_refl _), (Below.refl _ _).alloc (Nat.le_refl _) _⟩)
  obtain ⟨i0, hi, hz0, hz1, hz2⟩ := info_parts Tryd.infoCo
  generalize cosT t = C at *
  clear h hn ht
  go_enter Tryd.func14, Tryd.ntmps14
  go_wp2
  go_loopw [7, 8] (fun v i wr => ∃ (k : Nat) (a1 : Option Addr) (n1 q1 : Nat), k ≤ n ∧ i = .int .i64 (k : Int) ∧ v = .slice a1 n1 q1 ∧ Hid (Grow1 w wr (.slice a1 n1 q1) (ofL b C (l.take k)))) (fun _ i _ => n - (intOf i).toNat)
  case atStart => exact ⟨0, _, _, _, Nat.zero_le _, rfl, rfl, HG⟩
  case round =>
    obtain ⟨k, a1, n1, q1, hk, rfl, rfl, hg⟩ := hrel
    clear HG
    by_cases hlt : k < n
    · have l1 : (k : Int) < (n : Int) := by omega
      have l0 : (0 : Int) ≤ (k : Int) := by omega
      have hkl : k < l.length := by rw [← HN.out]; exact hlt
      have hp2 : Cos wr (.slice ao n cap) l := Row.below H.out hg.out.bel
      obtain ⟨bl, off, rfl, hbl, hcc⟩ := hp2.get HN.out (by omega)
      obtain ⟨c0, c1, c2⟩ := hcc k hlt
      have HSt := Lib.hid (ofL_take (b := b) (c := C) hkl)
      have HL1 := Lib.hid (show (ofL b C (l.take k)).length ≤ k from Nat.le_trans (List.length_filter_le _ _) (by simp; omega))
      generalize ofL b C (l.take k) = L1 at *
      generalize l.getD k default = p at *
      obtain ⟨pt, ps, pz⟩ := p
      dsimp only at c0 c1 c2 HSt
      clear hcc hp2
      go_wp2_with fail
      go_upto_region 5 with fail
      go_cut [25] from 16 to 25 (fun x wx => x = .bool (decide (C ≤ ps) == b) ∧ Hid (Below wr.heap.size wr wx) ∧ ∃ wy, wy = wx)
      case first =>
        go_region_with (go_at_call 24; refine (HC.out _).mono ?_; rintro e w2 ⟨rfl, hb2⟩; have c0 := cell_later (bt ((Below.refl wr.heap.size wr).drew) hb2) c0; have c1 := cell_later (bt ((Below.refl wr.heap.size wr).drew) hb2) c1; have HB2 := Lib.hid (bt ((Below.refl wr.heap.size wr).drew) hb2); clear hb2)
        all_goals
          dsimp only [Exit.then]
          apply_assumption
          go_meet
          exact ⟨rfl, HB2, _, rfl⟩
      case rest =>
        obtain ⟨rfl, hbc, wy, hwy⟩ := hcut
        subst hwy
        cases g : (decide (C ≤ ps) == b) with
        | false =>
          have HY := Lib.hid (show ofL b C (l.take (k + 1)) = L1 by rw [HSt.out, g]; rfl)
          have HG2 := Lib.hid (hg.out.later hbc.out)
          clear g HSt
          go_wp2
          go_roundw
          case rel => exact ⟨k + 1, _, _, _, by omega, by go_num, rfl, by rw [HY.out]; exact HG2⟩
          case measure => simp [intOf]; omega
        | true =>
          have HY := Lib.hid (show ofL b C (l.take (k + 1)) = L1 ++ [⟨pt, ps, pz⟩] by rw [HSt.out, g]; rfl)
          have HG2 := Lib.hid (hg.out.later hbc.out)
          have c0 := cell_later hbc.out c0
          have c1 := cell_later hbc.out c1
          have c2 := cell_later hbc.out c2
          have HG3 := Lib.hid (HG2.out.later ((Below.refl wy.heap.size wy).alloc (Nat.le_refl _) (.cells #[.string pt, .int .i64 ps, .int .i64 pz] 55)))
          have HL := HL1.out
          clear g HSt
          go_wp2_with (at_builtin; refine wpList_own rfl (.tmp 26) (.tmp 31) 22 rfl 55 i0 _ 3 32 Tryd.underlying22 hi hz0 hz1 hz2 rfl (by decide) _ _ _ rfl HG3.out.r ⟨wy.heap.size, 0, none⟩ 1 1 [.string pt, .int .i64 ps, .int .i64 pz] rfl rfl (new_cells wy #[.string pt, .int .i64 ps, .int .i64 pz] _) (one_co ⟨pt, ps, pz⟩) (by unfold maxLen; omega) (by omega) ?_; intro v4 w4 hown4 hg4 hn4; obtain ⟨a4, q4, rfl⟩ := own_shape hown4; have HG4 := Lib.hid (HG3.out.app ⟨pt, ps, pz⟩ hown4 hg4 hn4); clear hown4 hg4 hn4)
          go_roundw
          case rel => exact ⟨k + 1, _, _, _, by omega, by go_num, rfl, by rw [HY.out]; exact HG4⟩
          case measure => simp [intOf]; omega
    · obtain rfl : k = n := by omega
      have e : l.take k = l := List.take_of_length_le (by rw [HN.out]; exact Nat.le_refl _)
      rw [e] at hg
      go_wp2
      go_ret
      have h8 := hg.out.r
      obtain ⟨a2, c2, e2⟩ := own_shape h8
      cases e2
      exact ⟨_, _, rfl, h8, hg.out.bel⟩
end Go.Proofs.YtfkkkebegkhdfaaDoor
