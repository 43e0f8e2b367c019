/-
  Draws: the program's Open and the document's. (Put together of XDraws, XDMay, XDLate, XDSub, XDOpen, XDFirst, XDRef.)
-/
import Derived.Test.YtamfdkigokicoaaRows
import Derived.Test.YtamfdkigokicoaaKit
import Derived.Test.YtamfdkigokicoaaFld
import Derived.Test.YtamfdkigokicoaaPMay
import Derived.Test.YtamfdkigokicoaaShare
import Derived.BigQuiet
import Derived.BigGuardPart
import Derived.Deep.QuietTactic
import Derived.Test.YtamfdkigokicoaaPPays
import Derived.Laws.EntriesVeiled
import Derived.Test.YtamfdkigokicoaaMRef
namespace Go.Proofs.Ytamfdkigokicoaa
open Go Go.RowKit Go.Deep
set_option linter.unusedVariables false
set_option linter.unusedSimpArgs false

structure Dw where
  d : Int
  z : Int
instance : Inhabited Dw := ⟨⟨0, 0⟩⟩
def Dw.cells (o : Dw) : List Value := [.int .i64 o.d, .int .i64 o.z]
def Draws (w : World) (v : Value) (l : List Dw) : Prop := Row w v 2 l.length (l.flatMap Dw.cells)
theorem Draws.below {w w' : World} {v : Value} {l : List Dw} (h : Draws w v l) (hb : Below w.heap.size w w') : Draws w' v l := Row.below h hb
theorem Draws.drewN {w : World} {v : Value} {l : List Dw} (h : Draws w v l) (n : Nat) : Draws (w.drewN n) v l := Row.drewN h n
theorem Draws.shape {w : World} {v : Value} {l : List Dw} (h : Draws w v l) : ∃ ao cap, v = .slice ao l.length cap ∧ l.length ≤ cap ∧ cap ≤ maxLen ∧ (ao = none → cap = 0) := by
  obtain ⟨_, ao, cap, h1, h2, h3, h4, _⟩ := h
  exact ⟨ao, cap, h1, h2, h3, h4⟩
theorem Draws.get {w : World} {ao : Option Addr} {n cap : Nat} {l : List Dw} (h : Draws w (.slice ao n cap) l) (hn : n = l.length) (hp : 0 < n) : ∃ b off, ao = some ⟨b, off, none⟩ ∧ b < w.heap.size ∧ ∀ k, k < n →
    w.cell? ⟨b, off + k * 2, none⟩ = some (.int .i64 (l.getD k default).d) ∧
    w.cell? ⟨b, off + k * 2 + 1, none⟩ = some (.int .i64 (l.getD k default).z) := by
  have hl : (l.flatMap Dw.cells).length = l.length * 2 := flat_len (f := Dw.cells) (sz := 2) (fun _ => rfl) l
  obtain ⟨b, off, cap', e, h2, h3, h4, h5⟩ := Row.at h (by omega)
  cases e
  refine ⟨b, off, rfl, h4, fun k hk => ?_⟩
  rw [List.getD_eq_getElem?_getD, List.getElem?_eq_getElem (by omega)]
  have g : ∀ j, j < 2 → w.cell? ⟨b, off + (k * 2 + j), none⟩ = (Dw.cells l[k])[j]? := fun j hj => by
    have e := flat_get (f := Dw.cells) (sz := 2) (fun _ => rfl) l k j (by omega) hj
    rw [← e, h5 (k * 2 + j) (by rw [hl]; omega), List.getElem?_eq_getElem]
  exact ⟨by have := g 0 (by omega); simpa [Dw.cells] using this, by rw [Nat.add_assoc]; have := g 1 (by omega); simpa [Dw.cells] using this⟩

theorem cellsDw : Try.prog.cellsOf 122 = 2 := by kernel_rfl
def Dw.wf (o : Dw) : Prop := (Lit.int .i64 o.d).wf = true ∧ (Lit.int .i64 o.z).wf = true
def Is64 (w : World) (v : Value) : Prop := ∃ l, Draws w v l ∧ ∀ o ∈ l, o.wf
set_option maxRecDepth 20000 in
theorem open64 {H : Type} {enc : TypeId × Value → H} {W : World} {base : Nat} {v : Value} {d : DataW H} {p : List MemPlace} (hval : Value.okWide Try.prog W .any base 64 v)
    (h : DataW.Trod enc Try.prog W 0 (fun _ => true) true 64 v d p) : Is64 W v := by
  obtain ⟨a0, len, cap, rfl⟩ := WideShapes.okWide_slice Try.underlying64 hval
  obtain ⟨fuel, hf⟩ := h
  rcases DataW.trod_slice Try.underlying64 hf with ⟨hcs, _⟩ | ⟨a, len', cap', elems, rest, n, rfl, hcs, hx, _, hl, hm, hel2, hcells, _⟩
  · simp [Value.cells] at hcs
    obtain ⟨rfl, rfl, rfl⟩ := hcs
    exact ⟨[], Row.nil _ _, by simp⟩
  · simp [Value.cells] at hcs
    obtain ⟨rfl, rfl, rfl⟩ := hcs
    rw [cellsDw] at hcells
    obtain ⟨xs, h1, h2, h3⟩ := row_of_each (f := Dw.cells) (p := Dw.wf) (sz := 2) (fun _ => rfl) hl hm (W := W) (a := a) (fun i hi => by
      have := hcells i hi
      rw [List.getElem?_eq_getElem (by omega)] at this
      obtain ⟨cs1, hc1, ht⟩ := Option.bind_eq_some_iff.1 this
      obtain ⟨hlen, m, hfs⟩ := fields_at Try.underlying122 (by kernel_rfl) (by kernel_rfl) ht
      obtain ⟨v0, y0, e0, t0⟩ := hfs 0 _ rfl
      obtain ⟨v1, y1, e1, t1⟩ := hfs 1 _ rfl
      obtain ⟨z0, r0, _, hw0⟩ := DataW.trod_int Try.underlying3 t0
      obtain ⟨z1, r1, _, hw1⟩ := DataW.trod_int Try.underlying2 t1
      cases r0; cases r1
      refine ⟨⟨z0, z1⟩, ?_, hw0, hw1⟩
      rw [hc1]
      match cs1, hlen with
      | [c0, c1], _ => simp at e0 e1; subst e0 e1; rfl)
    subst h1
    exact ⟨xs, h3, h2⟩


def dwAt (l : List Dw) (k : Nat) : Bool := decide (1 ≤ (l.getD k default).z) && (decide ((l.getD k default).z ≤ 1099511627776) && (dayB (l.getD k default).d && (decide (k = 0) || decide ((l.getD (k - 1) default).d ≤ (l.getD k default).d))))
def dwB (l : List Dw) : Bool := (List.range l.length).all (dwAt l)
theorem dw_iff (l : List Dw) : dwB l = true ↔ ∀ k, k < l.length → dwAt l k = true := by simp [dwB]
theorem dw_bad {l : List Dw} {k : Nat} (hk : k < l.length) (h : dwAt l k = false) : dwB l = false := by
  rw [Bool.eq_false_iff]
  intro hm
  have := (dw_iff l).1 hm k hk
  rw [h] at this; cases this
theorem dwAt_zero (l : List Dw) : dwAt l 0 = (decide (1 ≤ (l.getD 0 default).z) && (decide ((l.getD 0 default).z ≤ 1099511627776) && dayB (l.getD 0 default).d)) := by simp [dwAt]
theorem dwAt_succ (l : List Dw) (k : Nat) : dwAt l (k + 1) = (decide (1 ≤ (l.getD (k + 1) default).z) && (decide ((l.getD (k + 1) default).z ≤ 1099511627776) && (dayB (l.getD (k + 1) default).d && decide ((l.getD k default).d ≤ (l.getD (k + 1) default).d)))) := by simp [dwAt]

set_option maxHeartbeats 4000000 in
theorem drawsmay_any (ao : Option Addr) (n cap : Nat) (l : List Dw) (w : World) (h : Draws w (.slice ao n cap) l) (hn : n = l.length) (hcap : n ≤ maxLen) :
    Calls Try.prog 67 #[.slice ao n cap] w fun e w' => e = .returned (.bool (dwB l)) ∧ Below w.heap.size w w' := by
  obtain ⟨x, hx⟩ : ∃ x, x = dwB l := ⟨_, rfl⟩
  rw [← hx]
  have HX := Lib.hid hx
  have H := Lib.hid h
  have HN := Lib.hid hn
  have hcap : n ≤ 9223372036854775807 := by unfold maxLen at hcap; omega
  have HDy := Lib.hid (fun z w => isday_any z w)
  clear hx h hn
  go_enter Try.func67, Try.ntmps67
  go_wp2
  go_loopw [7] (fun i wr => ∃ k : Nat, k ≤ n ∧ i = .int .i64 (k : Int) ∧ Hid (∀ j, j < k → dwAt l j = true) ∧ Hid (Below w.heap.size w wr)) (fun i _ => n - (intOf i).toNat)
  case atStart => exact ⟨0, Nat.zero_le _, rfl, Lib.hid (fun j hj => by omega), Lib.hid (Below.refl _ _)⟩
  case round =>
    obtain ⟨k, hk, rfl, hp, hb⟩ := hrel
    by_cases hlt : k < n
    · have l1 : (k : Int) < (n : Int) := by omega
      have l0 : (0 : Int) ≤ (k : Int) := by omega
      have HBad := Lib.hid (fun h => dw_bad (l := l) (k := k) (by rw [← HN.out]; exact hlt) h)
      have HP := Lib.hid (show dwAt l k = true → ∀ j, j < k + 1 → dwAt l j = true from fun h j hj => by
        by_cases e : j = k
        · subst e; exact h
        · exact hp.out j (by omega))
      obtain ⟨bl, off, rfl, hbl, hc⟩ := H.out.get HN.out (by omega)
      have hcw : ∀ j, j < n → wr.cell? ⟨bl, off + j * 2, none⟩ = some (.int .i64 (l.getD j default).d) ∧ wr.cell? ⟨bl, off + j * 2 + 1, none⟩ = some (.int .i64 (l.getD j default).z) := fun j hj => by
        obtain ⟨q1, q2⟩ := hc j hj
        exact ⟨by rw [hb.out.cell (by show bl < _; omega)]; exact q1, by rw [hb.out.cell (by show bl < _; omega)]; exact q2⟩
      obtain ⟨c1, c2⟩ := hcw k hlt
      rcases k with _ | k
      · have HO := Lib.hid (dwAt_zero l)
        obtain ⟨z, hz⟩ : ∃ z, z = (l.getD 0 default).z := ⟨_, rfl⟩
        obtain ⟨d, hd⟩ : ∃ d, d = (l.getD 0 default).d := ⟨_, rfl⟩
        rw [← hz] at c2 HO
        rw [← hd] at c1 HO
        clear hz hd hc hcw
        simp at c1 c2
        have HB1 := Lib.hid (hb.out.alloc hb.out.size (.cells #[.int .i64 d, .int .i64 z] 122))
        have HDk := Lib.hid (fun w => HDy.out d w)
        by_cases g1 : z < 1
        · have d1 : decide (z < 1) = true := by rw [decide_eq_true_iff]; exact g1
          have HR := Lib.hid (show x = false by rw [HX.out]; exact HBad.out (by rw [HO.out, show decide (1 ≤ z) = false by rw [decide_eq_false_iff_not]; omega, Bool.false_and]))
          clear HBad HP HO
          go_wp2_with fail
          go_quiet ((go_at_call 52; exact Calls.quiet_of_same (HDk.out _)))
          go_wp2
          go_ret
          exact ⟨by rw [HR.out]; rfl, below_drewN HB1.out _⟩
        · have d1 : decide (z < 1) = false := by rw [decide_eq_false_iff_not]; exact g1
          by_cases g2 : 1099511627776 < z
          · have d2 : decide (1099511627776 < z) = true := by rw [decide_eq_true_iff]; exact g2
            have HR := Lib.hid (show x = false by rw [HX.out]; exact HBad.out (by rw [HO.out, show decide (1 ≤ z) = true by rw [decide_eq_true_iff]; omega, show decide (z ≤ 1099511627776) = false by rw [decide_eq_false_iff_not]; omega, Bool.true_and, Bool.false_and]))
            clear HBad HP HO
            go_wp2_with fail
            go_quiet ((go_at_call 52; exact Calls.quiet_of_same (HDk.out _)))
            go_wp2
            go_ret
            exact ⟨by rw [HR.out]; rfl, below_drewN HB1.out _⟩
          · have d2 : decide (1099511627776 < z) = false := by rw [decide_eq_false_iff_not]; exact g2
            cases g3 : dayB d with
            | false =>
              rw [g3] at HDk
              have HR := Lib.hid (show x = false by rw [HX.out]; exact HBad.out (by rw [HO.out, show decide (1 ≤ z) = true by rw [decide_eq_true_iff]; omega, show decide (z ≤ 1099511627776) = true by rw [decide_eq_true_iff]; omega, g3, Bool.true_and, Bool.true_and]))
              clear HBad HP HO
              go_wp2_with fail
              go_quiet ((go_at_call 52; exact Calls.quiet_of_same (HDk.out _)))
              go_wp2
              go_ret
              exact ⟨by rw [HR.out]; rfl, below_drewN HB1.out _⟩
            | true =>
              rw [g3] at HDk
              have HQ := Lib.hid (HP.out (by rw [HO.out, show decide (1 ≤ z) = true by rw [decide_eq_true_iff]; omega, show decide (z ≤ 1099511627776) = true by rw [decide_eq_true_iff]; omega, g3, Bool.true_and, Bool.true_and]))
              clear HBad HP HO
              go_wp2_with fail
              go_quiet ((go_at_call 52; exact Calls.quiet_of_same (HDk.out _)))
              go_wp2
              go_roundw
              case rel => exact ⟨1, by omega, by go_num, HQ, Lib.hid (below_drewN HB1.out _)⟩
              case measure => simp [intOf]; omega
      · have HO := Lib.hid (dwAt_succ l k)
        obtain ⟨q1, -⟩ := hcw k (by omega)
        obtain ⟨z, hz⟩ : ∃ z, z = (l.getD (k + 1) default).z := ⟨_, rfl⟩
        obtain ⟨d, hd⟩ : ∃ d, d = (l.getD (k + 1) default).d := ⟨_, rfl⟩
        rw [← hz] at c2 HO
        rw [← hd] at c1 HO
        obtain ⟨y, hy⟩ : ∃ y, y = (l.getD k default).d := ⟨_, rfl⟩
        rw [← hy] at q1 HO
        have l2 : (k : Int) < (n : Int) := by omega
        have l3 : (0 : Int) ≤ (k : Int) := by omega
        have v1 : IntKind.i64.wrap ((k : Int) + 1 - 1) = (k : Int) := by rw [Int.add_sub_cancel]; exact IntWalk.i64_in _ (by omega)
        have v2 : IntKind.i64.wrap (k : Int) = (k : Int) := IntWalk.i64_in _ (by omega)
        have d5 : decide ((0 : Int) < (k : Int) + 1) = true := by rw [decide_eq_true_iff]; omega
        clear hy
        clear hz hd hc hcw
        have HB1 := Lib.hid (hb.out.alloc hb.out.size (.cells #[.int .i64 d, .int .i64 z] 122))
        have q1 := cell_later ((Below.refl wr.heap.size wr).alloc (Nat.le_refl _) (.cells #[.int .i64 d, .int .i64 z] 122)) q1
        have HDk := Lib.hid (fun w => HDy.out d w)
        by_cases g1 : z < 1
        · have d1 : decide (z < 1) = true := by rw [decide_eq_true_iff]; exact g1
          have HR := Lib.hid (show x = false by rw [HX.out]; exact HBad.out (by rw [HO.out, show decide (1 ≤ z) = false by rw [decide_eq_false_iff_not]; omega, Bool.false_and]))
          clear HBad HP HO
          go_wp2_with fail
          go_quiet ((go_at_call 52; exact Calls.quiet_of_same (HDk.out _)))
          go_wp2
          go_ret
          exact ⟨by rw [HR.out]; rfl, below_drewN HB1.out _⟩
        · have d1 : decide (z < 1) = false := by rw [decide_eq_false_iff_not]; exact g1
          by_cases g2 : 1099511627776 < z
          · have d2 : decide (1099511627776 < z) = true := by rw [decide_eq_true_iff]; exact g2
            have HR := Lib.hid (show x = false by rw [HX.out]; exact HBad.out (by rw [HO.out, show decide (1 ≤ z) = true by rw [decide_eq_true_iff]; omega, show decide (z ≤ 1099511627776) = false by rw [decide_eq_false_iff_not]; omega, Bool.true_and, Bool.false_and]))
            clear HBad HP HO
            go_wp2_with fail
            go_quiet ((go_at_call 52; exact Calls.quiet_of_same (HDk.out _)))
            go_wp2
            go_ret
            exact ⟨by rw [HR.out]; rfl, below_drewN HB1.out _⟩
          · have d2 : decide (1099511627776 < z) = false := by rw [decide_eq_false_iff_not]; exact g2
            cases g3 : dayB d with
            | false =>
              rw [g3] at HDk
              have HR := Lib.hid (show x = false by rw [HX.out]; exact HBad.out (by rw [HO.out, show decide (1 ≤ z) = true by rw [decide_eq_true_iff]; omega, show decide (z ≤ 1099511627776) = true by rw [decide_eq_true_iff]; omega, g3, Bool.true_and, Bool.true_and, Bool.false_and]))
              clear HBad HP HO
              go_wp2_with fail
              go_quiet ((go_at_call 52; exact Calls.quiet_of_same (HDk.out _)))
              go_wp2
              go_ret
              exact ⟨by rw [HR.out]; rfl, below_drewN HB1.out _⟩
            | true =>
              rw [g3] at HDk
              by_cases g4 : d < y
              · have d4 : decide (d < y) = true := by rw [decide_eq_true_iff]; exact g4
                have HR := Lib.hid (show x = false by rw [HX.out]; exact HBad.out (by rw [HO.out, show decide (1 ≤ z) = true by rw [decide_eq_true_iff]; omega, show decide (z ≤ 1099511627776) = true by rw [decide_eq_true_iff]; omega, g3, Bool.true_and, Bool.true_and, Bool.true_and, show decide (y ≤ d) = false by rw [decide_eq_false_iff_not]; omega]))
                clear HBad HP HO
                go_wp2_with fail
                go_quiet ((go_at_call 52; exact Calls.quiet_of_same (HDk.out _)))
                go_wp2
                go_ret
                exact ⟨by rw [HR.out]; rfl, below_drewN HB1.out _⟩
              · have d4 : decide (d < y) = false := by rw [decide_eq_false_iff_not]; exact g4
                have HQ := Lib.hid (HP.out (by rw [HO.out, show decide (1 ≤ z) = true by rw [decide_eq_true_iff]; omega, show decide (z ≤ 1099511627776) = true by rw [decide_eq_true_iff]; omega, g3, Bool.true_and, Bool.true_and, Bool.true_and, show decide (y ≤ d) = true by rw [decide_eq_true_iff]; omega]))
                clear HBad HP HO
                go_wp2_with fail
                go_quiet ((go_at_call 52; exact Calls.quiet_of_same (HDk.out _)))
                go_wp2
                go_roundw
                case rel => exact ⟨k + 1 + 1, by omega, by go_num, HQ, Lib.hid (below_drewN HB1.out _)⟩
                case measure => simp [intOf]; omega
    · obtain rfl : k = n := by omega
      have HR := Lib.hid (show x = true by rw [HX.out, dw_iff]; exact fun j hj => hp.out j (by rw [HN.out]; exact hj))
      go_wp2
      go_ret
      exact ⟨by rw [HR.out]; rfl, hb.out⟩


def lateAt (first last : Int) (d : Dw) : Bool := decide (d.d < first) || decide (last < d.d)
theorem late1_any (w : World) (c : Nat) (first last : Int) (d : Dw) (h6 : w.cell? ⟨c, 6, none⟩ = some (.int .i64 first)) (h7 : w.cell? ⟨c, 7, none⟩ = some (.int .i64 last)) :
    Calls Try.prog 70 #[.agg #[.int .i64 d.d, .int .i64 d.z], .pointer (some ⟨c, 0, none⟩)] w fun e w' => e = .returned (.bool (lateAt first last d)) ∧ Below w.heap.size w w' := by
  have HB0 := Lib.hid ((Below.refl w.heap.size w).alloc (Nat.le_refl _) (.cells #[.int .i64 d.d, .int .i64 d.z] 122))
  have k6 := cell_later HB0.out h6
  have k7 := cell_later HB0.out h7
  obtain ⟨d, z⟩ := d
  unfold lateAt
  dsimp only at HB0 k6 k7 ⊢
  cases g : decide (d < first) with
  | true =>
    go_enter Try.func70, Try.ntmps70
    go_wp2_with fail
    all_goals first
      | (go_quiet (fail); go_wp2; go_ret; exact ⟨by rw [Bool.true_or]; rfl, below_drewN HB0.out _⟩)
      | (go_ret; exact ⟨by rw [Bool.true_or]; rfl, HB0.out⟩)
  | false =>
    go_enter Try.func70, Try.ntmps70
    go_wp2_with fail
    all_goals first
      | (go_quiet (fail); go_wp2; go_ret; exact ⟨by rw [Bool.false_or]; rfl, below_drewN HB0.out _⟩)
      | (go_ret; exact ⟨by rw [Bool.false_or]; rfl, HB0.out⟩)

def lateB (first last : Int) (l : List Dw) : Bool := l.any (lateAt first last)
set_option maxHeartbeats 2000000 in
theorem idx_late (ao : Option Addr) (n cap c : Nat) (first last : Int) (l : List Dw) (w : World) (h : Draws w (.slice ao n cap) l) (hn : n = l.length) (hcap : n ≤ 100) (h6 : w.cell? ⟨c, 6, none⟩ = some (.int .i64 first)) (h7 : w.cell? ⟨c, 7, none⟩ = some (.int .i64 last)) :
    Calls Try.prog 84 #[.slice ao n cap, .func (.func 70) #[] #[.pointer (some ⟨c, 0, none⟩)]] w fun e w' => (∃ r : Int, e = .returned (.int .i64 r) ∧ decide (0 ≤ r) = lateB first last l) ∧ Below w.heap.size w w' := by
  have H := Lib.hid h
  have HN := Lib.hid hn
  have H6 := Lib.hid h6
  have H7 := Lib.hid h7
  have HB0 := Lib.hid (Below.refl w.heap.size w)
  have HP := Lib.hid (fun w c d h6 h7 => late1_any w c first last d h6 h7)
  clear h hn h6 h7
  go_enter Try.func84, Try.ntmps84
  go_wp2
  go_loopw [8] (fun i wr => ∃ k : Nat, k ≤ n ∧ i = .int .i64 (k : Int) ∧ Hid (∀ j, j < k → lateAt first last (l.getD j default) = false) ∧ Hid (Below w.heap.size w wr)) (fun i _ => n - (intOf i).toNat)
  case atStart => exact ⟨0, Nat.zero_le _, rfl, Lib.hid (fun j hj => by omega), HB0⟩
  case round =>
    obtain ⟨k, hk, rfl, ha, hb⟩ := hrel
    by_cases hlt : k < n
    · have l1 : (k : Int) < (n : Int) := by omega
      have l0 : (0 : Int) ≤ (k : Int) := by omega
      have hp2 : Draws wr (.slice ao n cap) l := Row.below H.out hb.out
      obtain ⟨bl, off, rfl, hbl, hc⟩ := hp2.get HN.out (by omega)
      obtain ⟨c0, c1⟩ := hc k hlt
      have hkl : k < l.length := by rw [← HN.out]; exact hlt
      have HT := Lib.hid (show lateAt first last (l.getD k default) = false → ∀ j, j < k + 1 → lateAt first last (l.getD j default) = false from fun h j hj => by
        by_cases e' : j = k
        · subst e'; exact h
        · exact ha.out j (by omega))
      have HF := Lib.hid (show lateAt first last (l.getD k default) = true → lateB first last l = true from fun h => by
        unfold lateB
        rw [List.any_eq_true]
        rw [List.getD_eq_getElem?_getD, List.getElem?_eq_getElem hkl] at h
        exact ⟨l[k], List.getElem_mem hkl, h⟩)
      have HX := Lib.hid (HP.out wr c (l.getD k default) (cell_later hb.out H6.out) (cell_later hb.out H7.out))
      generalize l.getD k default = p at *
      obtain ⟨pd, pz⟩ := p
      dsimp only at c0 c1 HX
      clear hc hp2
      cases g : lateAt first last ⟨pd, pz⟩ with
      | false =>
        have HR := Lib.hid (HT.out g)
        rw [g] at HX
        clear g HT HF
        go_wp2_with (go_at_call 70; refine HX.out.mono ?_; rintro e w' ⟨rfl, hb2⟩; have HB2 := Lib.hid (bt hb.out hb2); clear hb2)
        go_roundw
        case rel => exact ⟨k + 1, by omega, by go_num, HR, HB2⟩
        case measure => simp [intOf]; omega
      | true =>
        have HR := Lib.hid (HF.out g)
        rw [g] at HX
        clear g HT HF
        go_wp2_with (go_at_call 70; refine HX.out.mono ?_; rintro e w' ⟨rfl, hb2⟩; have HB2 := Lib.hid (bt hb.out hb2); clear hb2)
        go_ret
        exact ⟨⟨_, rfl, by rw [HR.out]; simp⟩, HB2.out⟩
    · have HR := Lib.hid (show lateB first last l = false by
        rw [Bool.eq_false_iff]
        intro h
        unfold lateB at h
        rw [List.any_eq_true] at h
        obtain ⟨x, hx, he⟩ := h
        obtain ⟨j, hj, rfl⟩ := List.mem_iff_getElem.1 hx
        have := ha.out j (by have := HN.out; omega)
        rw [List.getD_eq_getElem?_getD, List.getElem?_eq_getElem hj] at this
        dsimp only [Option.getD] at this
        rw [he] at this; cases this)
      go_wp2
      go_ret
      exact ⟨⟨_, rfl, by rw [HR.out]; rfl⟩, hb.out⟩

theorem has_late (ao : Option Addr) (n cap c : Nat) (first last : Int) (l : List Dw) (w : World) (h : Draws w (.slice ao n cap) l) (hn : n = l.length) (hcap : n ≤ 100) (h6 : w.cell? ⟨c, 6, none⟩ = some (.int .i64 first)) (h7 : w.cell? ⟨c, 7, none⟩ = some (.int .i64 last)) :
    Calls Try.prog 69 #[.slice ao n cap, .func (.func 70) #[] #[.pointer (some ⟨c, 0, none⟩)]] w fun e w' => e = .returned (.bool (lateB first last l)) ∧ Below w.heap.size w w' := by
  have HC := Lib.hid (idx_late ao n cap c first last l w h hn hcap h6 h7)
  generalize lateB first last l = x at *
  clear h hn h6 h7
  go_enter Try.func69, Try.ntmps69
  go_wp2_with fail
  refine HC.out.mono ?_
  rintro e w1 ⟨⟨r, rfl, hr⟩, hb⟩
  have HB := Lib.hid hb
  clear hb
  go_wp2
  go_ret
  exact ⟨rfl, HB.out⟩


/-- What is left behind draws, if each can be taken. -/
def subL : Int → List Dw → Option Int
  | a, [] => some a
  | a, d :: l => if a - d.z < 0 then none else subL (a - d.z) l
theorem subL_app : ∀ (A B : List Dw) (a : Int), subL a (A ++ B) = (subL a A).bind fun y => subL y B
  | [], B, a => rfl
  | d :: A, B, a => by
    rw [List.cons_append, subL, subL]
    split
    · rfl
    · exact subL_app A B _
theorem subL_step {l : List Dw} {k : Nat} {a y : Int} (hk : k < l.length) (h : subL a (l.take k) = some y) : subL a (l.take (k + 1)) = if y - l[k].z < 0 then none else some (y - l[k].z) := by
  rw [List.take_succ_eq_append_getElem hk, subL_app, h]
  show subL y [l[k]] = _
  rw [subL]
  split <;> rfl
theorem subL_none {l : List Dw} {k : Nat} {a : Int} (h : subL a (l.take k) = none) : subL a l = none := by
  rw [← List.take_append_drop k l, subL_app, h]; rfl

theorem sub1_any (w : World) (c : Nat) (y : Int) (d : Dw) (h : w.cell? ⟨c, 0, none⟩ = some (.int .i64 y)) (hf : w.frozen? ⟨c, 0, none⟩ = false) (hy : 0 ≤ y ∧ y ≤ 1099511627776) (hz : 1 ≤ d.z ∧ d.z ≤ 1099511627776) :
    Calls Try.prog 72 #[.agg #[.int .i64 d.d, .int .i64 d.z], .pointer (some ⟨c, 0, none⟩)] w fun e w' => e = .returned (.bool (decide (y - d.z < 0))) ∧ w'.cell? ⟨c, 0, none⟩ = some (.int .i64 (y - d.z)) ∧ w'.frozen? ⟨c, 0, none⟩ = false ∧ Touch (fun k => k = c) w w' := by
  have hba := (Below.refl w.heap.size w).alloc (Nat.le_refl _) (.cells #[.int .i64 d.d, .int .i64 d.z] 122)
  have k1 := cell_later hba h
  have k2 : (w.alloc (.cells #[.int .i64 d.d, .int .i64 d.z] 122)).frozen? ⟨c, 0, none⟩ = false := by rw [hba.frozen (World.block_lt_of_cell? _ _ h)]; exact hf
  have v1 : IntKind.i64.wrap (y - d.z) = y - d.z := IntWalk.i64_in _ (by omega)
  have hlt := World.block_lt_of_cell? _ _ h
  have HT := Lib.hid (((Touch.refl (fun k => k = c) w).setCell (p := ⟨c, 0, none⟩) (.inl rfl) (.int .i64 (y - d.z))).alloc (.cells #[.int .i64 d.d, .int .i64 d.z] 122))
  have h8 : (w.setCell ⟨c, 0, none⟩ (.int .i64 (y - d.z))).cell? ⟨c, 0, none⟩ = some (.int .i64 (y - d.z)) := by simp [go_sem, h, hf]
  have h9 : (w.setCell ⟨c, 0, none⟩ (.int .i64 (y - d.z))).frozen? ⟨c, 0, none⟩ = false := by simp [go_sem, h, hf]
  have hb8 := (Below.refl (w.setCell ⟨c, 0, none⟩ (.int .i64 (y - d.z))).heap.size (w.setCell ⟨c, 0, none⟩ (.int .i64 (y - d.z)))).alloc (Nat.le_refl _) (.cells #[.int .i64 d.d, .int .i64 d.z] 122)
  have HK := Lib.hid (And.intro (cell_later hb8 h8) (show ((w.setCell ⟨c, 0, none⟩ (.int .i64 (y - d.z))).alloc (.cells #[.int .i64 d.d, .int .i64 d.z] 122)).frozen? ⟨c, 0, none⟩ = false by rw [hb8.frozen (World.block_lt_of_cell? _ _ h8)]; exact h9))
  clear h8 h9 hb8
  obtain ⟨d, z⟩ := d
  dsimp only at k1 k2 v1 HT HK ⊢
  obtain ⟨m, hm⟩ : ∃ m, m = y - z := ⟨_, rfl⟩
  rw [← hm] at v1 HT HK ⊢
  have v1 : IntKind.i64.wrap (y - z) = m := by rw [← hm]; exact v1
  obtain ⟨x1, x2⟩ := HK.out
  clear hm hba hy hz h hf
  go_enter Try.func72, Try.ntmps72
  go_wp2
  go_ret
  exact ⟨rfl, HK.out.1, HK.out.2, HT.out⟩

theorem subL_bd : ∀ {l : List Dw} {a y : Int}, (∀ d ∈ l, 1 ≤ d.z) → 0 ≤ a → subL a l = some y → 0 ≤ y ∧ y ≤ a
  | [], a, y, _, h0, h => by cases h; exact ⟨h0, Int.le_refl _⟩
  | d :: l, a, y, hz, h0, h => by
    rw [subL] at h
    split at h
    · cases h
    · have h1 := hz d (by simp)
      have h2 := subL_bd (l := l) (a := a - d.z) (fun x hx => hz x (by simp [hx])) (by omega) h
      omega
set_option maxHeartbeats 4000000 in
theorem idx_sub (ao : Option Addr) (n cap c : Nat) (a0 : Int) (l : List Dw) (w : World) (h : Draws w (.slice ao n cap) l) (hn : n = l.length) (hcap : n ≤ 100) (hc : w.cell? ⟨c, 0, none⟩ = some (.int .i64 a0)) (hf : w.frozen? ⟨c, 0, none⟩ = false) (hne : l ≠ [] → ∀ a, ao = some a → a.block ≠ c) (ha : 0 ≤ a0 ∧ a0 ≤ 1099511627776) (hz : ∀ d ∈ l, 1 ≤ d.z ∧ d.z ≤ 1099511627776) :
    Calls Try.prog 84 #[.slice ao n cap, .func (.func 72) #[] #[.pointer (some ⟨c, 0, none⟩)]] w fun e w' => (∃ r : Int, e = .returned (.int .i64 r) ∧ decide (0 ≤ r) = (subL a0 l).isNone) ∧ (∀ y, subL a0 l = some y → w'.cell? ⟨c, 0, none⟩ = some (.int .i64 y)) ∧ Touch (fun k => k = c) w w' := by
  have H := Lib.hid h
  have HN := Lib.hid hn
  have HNe := Lib.hid hne
  have HA := Lib.hid ha
  have HZ := Lib.hid hz
  have H0 := Lib.hid (And.intro hc hf)
  have HP := Lib.hid (fun w y d h hf hy hz => sub1_any w c y d h hf hy hz)
  clear h hn hc hf hne ha hz
  go_enter Try.func84, Try.ntmps84
  go_wp2
  go_loopw [8] (fun i wr => ∃ (k : Nat) (y : Int), k ≤ n ∧ i = .int .i64 (k : Int) ∧ Hid (subL a0 (l.take k) = some y ∧ wr.cell? ⟨c, 0, none⟩ = some (.int .i64 y) ∧ wr.frozen? ⟨c, 0, none⟩ = false) ∧ Hid (Touch (fun k => k = c) w wr)) (fun i _ => n - (intOf i).toNat)
  case atStart => exact ⟨0, a0, Nat.zero_le _, rfl, Lib.hid ⟨rfl, H0.out.1, H0.out.2⟩, Lib.hid (Touch.refl _ _)⟩
  case round =>
    obtain ⟨k, y, hk, rfl, hs, ht⟩ := hrel
    by_cases hlt : k < n
    · have l1 : (k : Int) < (n : Int) := by omega
      have l0 : (0 : Int) ≤ (k : Int) := by omega
      have hp2 : Draws wr (.slice ao n cap) l := row_touch H.out ht.out (fun a cp e ne g => by cases e; exact HNe.out (fun e2 => ne (by rw [e2]; rfl)) a rfl g)
      obtain ⟨bl, off, rfl, hbl, hcc⟩ := hp2.get HN.out (by omega)
      obtain ⟨c0, c1⟩ := hcc k hlt
      have hkl : k < l.length := by rw [← HN.out]; exact hlt
      have hge : l.getD k default = l[k] := by rw [List.getD_eq_getElem?_getD, List.getElem?_eq_getElem hkl]; rfl
      rw [hge] at c0 c1
      have HSt := Lib.hid (subL_step hkl hs.out.1)
      have hyb := subL_bd (fun d hd => (HZ.out d (List.mem_of_mem_take hd)).1) HA.out.1 hs.out.1
      have hzb := HZ.out l[k] (List.getElem_mem hkl)
      have haa := HA.out
      have HX := Lib.hid (HP.out wr y l[k] hs.out.2.1 hs.out.2.2 (by omega) hzb)
      generalize l[k] = p at *
      obtain ⟨pd, pz⟩ := p
      dsimp only at c0 c1 HX HSt
      clear hcc hp2 hge hyb hzb haa
      by_cases g : y - pz < 0
      · have HR := Lib.hid (show subL a0 l = none from subL_none (k := k + 1) (by rw [HSt.out, if_pos g]))
        rw [decide_eq_true g] at HX
        clear g HSt
        go_wp2_with (go_at_call 72; refine HX.out.mono ?_; rintro e w' ⟨rfl, q1, q2, q3⟩; have HT2 := Lib.hid (ht.out.trans q3 (fun x hx => .inl hx)); clear q1 q2 q3)
        go_ret
        exact ⟨⟨_, rfl, by rw [HR.out]; simp⟩, (fun y h => by rw [HR.out] at h; cases h), HT2.out⟩
      · have HR := Lib.hid (show subL a0 (l.take (k + 1)) = some (y - pz) by rw [HSt.out, if_neg g])
        rw [decide_eq_false g] at HX
        clear g HSt
        go_wp2_with (go_at_call 72; refine HX.out.mono ?_; rintro e w' ⟨rfl, q1, q2, q3⟩; have HT2 := Lib.hid (ht.out.trans q3 (fun x hx => .inl hx)); have HQ := Lib.hid (And.intro HR.out (And.intro q1 q2)); clear q1 q2 q3)
        go_roundw
        case rel => exact ⟨k + 1, y - pz, by omega, by go_num, HQ, HT2⟩
        case measure => simp [intOf]; omega
    · obtain rfl : k = n := by omega
      have HR := Lib.hid (show subL a0 l = some y by have := hs.out.1; rwa [List.take_of_length_le (by rw [HN.out]; exact Nat.le_refl _)] at this)
      go_wp2
      go_ret
      exact ⟨⟨_, rfl, by rw [HR.out]; rfl⟩, (fun y' h => by rw [HR.out] at h; cases h; exact hs.out.2.1), ht.out⟩

theorem has_sub (ao : Option Addr) (n cap c : Nat) (a0 : Int) (l : List Dw) (w : World) (h : Draws w (.slice ao n cap) l) (hn : n = l.length) (hcap : n ≤ 100) (hc : w.cell? ⟨c, 0, none⟩ = some (.int .i64 a0)) (hf : w.frozen? ⟨c, 0, none⟩ = false) (hne : l ≠ [] → ∀ a, ao = some a → a.block ≠ c) (ha : 0 ≤ a0 ∧ a0 ≤ 1099511627776) (hz : ∀ d ∈ l, 1 ≤ d.z ∧ d.z ≤ 1099511627776) :
    Calls Try.prog 69 #[.slice ao n cap, .func (.func 72) #[] #[.pointer (some ⟨c, 0, none⟩)]] w fun e w' => e = .returned (.bool (subL a0 l).isNone) ∧ (∀ y, subL a0 l = some y → w'.cell? ⟨c, 0, none⟩ = some (.int .i64 y)) ∧ Touch (fun k => k = c) w w' := by
  have HC := Lib.hid (idx_sub ao n cap c a0 l w h hn hcap hc hf hne ha hz)
  clear h hn hc hf hne ha hz
  go_enter Try.func69, Try.ntmps69
  go_wp2_with fail
  refine HC.out.mono ?_
  rintro e w1 ⟨⟨r, rfl, hr⟩, hy, ht⟩
  have HB := Lib.hid (And.intro hy ht)
  clear hy ht
  go_wp2
  go_ret
  exact ⟨rfl, HB.out.1, HB.out.2⟩


theorem open1_any (w : World) (c2 c3 : Nat) (i f t : ByteArray) (sum own : Int) (ap : Option Addr) (np capp : Nat) (zs : List Int) (first last share : Int) (ao : Option Addr) (n cap : Nat) (l : List Dw) (hz : Ints w (.slice ap np capp) zs) (hzn : np = zs.length) (hd : Draws w (.slice ao n cap) l) (hn : n = l.length) (hcap : n ≤ maxLen)
    (p0 : w.cell? ⟨c2, 0, none⟩ = some (.string i)) (p1 : w.cell? ⟨c2, 1, none⟩ = some (.string f)) (p2 : w.cell? ⟨c2, 2, none⟩ = some (.string t)) (p3 : w.cell? ⟨c2, 3, none⟩ = some (.int .i64 sum)) (p4 : w.cell? ⟨c2, 4, none⟩ = some (.int .i64 own)) (p5 : w.cell? ⟨c2, 5, none⟩ = some (.slice ap np capp)) (p6 : w.cell? ⟨c2, 6, none⟩ = some (.int .i64 first)) (p7 : w.cell? ⟨c2, 7, none⟩ = some (.int .i64 last)) (p8 : w.cell? ⟨c2, 8, none⟩ = some (.int .i64 share)) (h3 : w.cell? ⟨c3, 0, none⟩ = some (.slice ao n cap)) :
    Calls Try.prog 66 #[.pointer (some ⟨c2, 0, none⟩), .pointer (some ⟨c3, 0, none⟩)] w fun e w' => e = .returned (.bool (!((Po.mk i f t sum own (.slice ap np capp) zs first last share).may && dwB l))) ∧ Below w.heap.size w w' := by
  have HM := Lib.hid (pmay_any i f t sum own ap np capp zs first last share w hz hzn)
  have HD := Lib.hid (fun w h => drawsmay_any ao n cap l w h hn hcap)
  have H := Lib.hid hd
  have H3 := Lib.hid h3
  generalize dwB l = x at *
  clear hz hzn hd hn hcap
  cases g : (Po.mk i f t sum own (.slice ap np capp) zs first last share).may with
  | false =>
    rw [g] at HM
    go_enter Try.func66, Try.ntmps66
    go_wp2_with fail
    refine HM.out.mono ?_
    rintro e w1 ⟨rfl, hb⟩
    have HB := Lib.hid hb
    clear hb
    go_wp2
    go_ret
    exact ⟨by simp, HB.out⟩
  | true =>
    rw [g] at HM
    go_enter Try.func66, Try.ntmps66
    go_wp2_with fail
    refine HM.out.mono ?_
    rintro e w1 ⟨rfl, hb⟩
    have k3 := cell_later hb H3.out
    have HB := Lib.hid hb
    have HD1 := Lib.hid (HD.out w1 (H.out.below hb))
    clear hb
    go_wp2_with fail
    refine HD1.out.mono ?_
    rintro e w2 ⟨rfl, hb2⟩
    have HB2 := Lib.hid (bt HB.out hb2)
    clear hb2
    go_wp2
    go_ret
    exact ⟨by rw [Bool.true_and]; rfl, HB2.out⟩

theorem open2_any (w : World) (c2 c3 : Nat) (first last : Int) (ao : Option Addr) (n cap : Nat) (l : List Dw) (hd : Draws w (.slice ao n cap) l) (hn : n = l.length) (hcap : n ≤ 100) (p6 : w.cell? ⟨c2, 6, none⟩ = some (.int .i64 first)) (p7 : w.cell? ⟨c2, 7, none⟩ = some (.int .i64 last)) (h3 : w.cell? ⟨c3, 0, none⟩ = some (.slice ao n cap)) :
    Calls Try.prog 68 #[.pointer (some ⟨c3, 0, none⟩), .pointer (some ⟨c2, 0, none⟩)] w fun e w' => e = .returned (.bool (lateB first last l)) ∧ Below w.heap.size w w' := by
  have HC := Lib.hid (has_late ao n cap c2 first last l w hd hn hcap p6 p7)
  generalize lateB first last l = x at *
  clear hd hn hcap p6 p7
  go_enter Try.func68, Try.ntmps68
  go_wp2_with fail
  refine HC.out.mono ?_
  rintro e w1 ⟨rfl, hb⟩
  have HB := Lib.hid hb
  clear hb
  go_wp2
  go_ret
  exact ⟨rfl, HB.out⟩

theorem open3_any (w : World) (c3 c6 : Nat) (a0 : Int) (ao : Option Addr) (n cap : Nat) (l : List Dw) (hd : Draws w (.slice ao n cap) l) (hn : n = l.length) (hcap : n ≤ 100) (h3 : w.cell? ⟨c3, 0, none⟩ = some (.slice ao n cap)) (hc : w.cell? ⟨c6, 0, none⟩ = some (.int .i64 a0)) (hf : w.frozen? ⟨c6, 0, none⟩ = false) (hne : l ≠ [] → ∀ a, ao = some a → a.block ≠ c6) (ha : 0 ≤ a0 ∧ a0 ≤ 1099511627776) (hz : ∀ d ∈ l, 1 ≤ d.z ∧ d.z ≤ 1099511627776) :
    Calls Try.prog 71 #[.pointer (some ⟨c3, 0, none⟩), .pointer (some ⟨c6, 0, none⟩)] w fun e w' => e = .returned (.bool (subL a0 l).isNone) ∧ (∀ y, subL a0 l = some y → w'.cell? ⟨c6, 0, none⟩ = some (.int .i64 y)) ∧ Touch (fun k => k = c6) w w' := by
  have HC := Lib.hid (has_sub ao n cap c6 a0 l w hd hn hcap hc hf hne ha hz)
  clear hd hn hcap hc hf hne ha hz
  go_enter Try.func71, Try.ntmps71
  go_wp2_with fail
  refine HC.out.mono ?_
  rintro e w1 ⟨rfl, hy, ht⟩
  have HB := Lib.hid (And.intro hy ht)
  clear hy ht
  go_wp2
  go_ret
  exact ⟨rfl, HB.out.1, HB.out.2⟩


def firstE (b1 b2 b3 : Bool) : Int := if b1 then 1 else if b2 then 11 else if b3 then 10 else 0
def FirstPost (c6 : Nat) (w : World) (b1 b2 b3 : Bool) (s : Option Int) (e : Ending) (w' : World) : Prop :=
  e = .returned (.int .i64 (firstE b1 b2 b3)) ∧ (b1 = false → b2 = false → ∀ y, s = some y → w'.cell? ⟨c6, 0, none⟩ = some (.int .i64 y)) ∧ Touch (fun k => k = c6) w w'

theorem box_at2 {w w1 : World} {t : TypeId} {cs : Array Value} {j : Nat} {v : Value} (h : Below (w.alloc (.cells cs t)).heap.size (w.alloc (.cells cs t)) w1) (hv : cs[j]? = some v) : w1.cell? ⟨w.heap.size, j, none⟩ = some v := by
  rw [h.cell (by simp)]; unfold World.cell?; rw [heap_alloc_new]; exact hv

theorem box_touch {S : Nat → Prop} {w w1 : World} {t : TypeId} {cs : Array Value} {j : Nat} {v : Value} (h : Touch S (w.alloc (.cells cs t)) w1) (hn : ¬ S w.heap.size) (hv : cs[j]? = some v) : w1.cell? ⟨w.heap.size, j, none⟩ = some v := by
  unfold World.cell?; rw [h.block _ (by simp) hn, heap_alloc_new]; exact hv

set_option maxRecDepth 20000 in
set_option maxHeartbeats 2000000 in
theorem first_any (w : World) (bk c2 c3 c6 : Nat) (b1 b2 b3 : Bool) (s : Option Int) (hc6 : c6 < w.heap.size)
    (k0 : w.cell? ⟨bk, 0, none⟩ = some (.int .i64 1)) (k1 : w.cell? ⟨bk, 1, none⟩ = some (.func (.func 66) #[] #[.pointer (some ⟨c2, 0, none⟩), .pointer (some ⟨c3, 0, none⟩)]))
    (k2 : w.cell? ⟨bk, 2, none⟩ = some (.int .i64 11)) (k3 : w.cell? ⟨bk, 3, none⟩ = some (.func (.func 68) #[] #[.pointer (some ⟨c3, 0, none⟩), .pointer (some ⟨c2, 0, none⟩)]))
    (k4 : w.cell? ⟨bk, 4, none⟩ = some (.int .i64 10)) (k5 : w.cell? ⟨bk, 5, none⟩ = some (.func (.func 71) #[] #[.pointer (some ⟨c3, 0, none⟩), .pointer (some ⟨c6, 0, none⟩)]))
    (h1 : ∀ w', Below w.heap.size w w' → Calls Try.prog 66 #[.pointer (some ⟨c2, 0, none⟩), .pointer (some ⟨c3, 0, none⟩)] w' fun e w'' => e = .returned (.bool b1) ∧ Below w'.heap.size w' w'')
    (h2 : b1 = false → ∀ w', Below w.heap.size w w' → Calls Try.prog 68 #[.pointer (some ⟨c3, 0, none⟩), .pointer (some ⟨c2, 0, none⟩)] w' fun e w'' => e = .returned (.bool b2) ∧ Below w'.heap.size w' w'')
    (h3 : b1 = false → b2 = false → ∀ w', Below w.heap.size w w' → Calls Try.prog 71 #[.pointer (some ⟨c3, 0, none⟩), .pointer (some ⟨c6, 0, none⟩)] w' fun e w'' => e = .returned (.bool b3) ∧ (∀ y, s = some y → w''.cell? ⟨c6, 0, none⟩ = some (.int .i64 y)) ∧ Touch (fun k => k = c6) w' w'') :
    Calls Try.prog 65 #[.slice (some ⟨bk, 0, none⟩) 3 3] w (FirstPost c6 w b1 b2 b3 s) := by
  have hba := (Below.refl w.heap.size w).alloc (Nat.le_refl _) (.cells #[.int .i64 1, .func (.func 66) #[] #[.pointer (some ⟨c2, 0, none⟩), .pointer (some ⟨c3, 0, none⟩)]] 119)
  have H1 := Lib.hid (h1 _ hba)
  have HBa := Lib.hid hba
  have HK := Lib.hid (And.intro k2 (And.intro k3 (And.intro k4 k5)))
  cases b1 with
  | true =>
    clear h1 h2 h3 hba k2 k3 k4 k5
    go_enter Try.func65, Try.ntmps65
    go_wp2
    refine wp_loop_rounds 1 ?_
    rw [rounds_succ]
    go_wp2_with (go_at_call 66; refine H1.out.mono ?_; rintro e w1 ⟨rfl, hb1⟩; have e0 := box_at2 (j := 0) hb1 rfl; have HB1 := Lib.hid (bt HBa.out hb1); clear hb1)
    go_ret
    exact ⟨rfl, (fun h => by cases h), Touch.of_below HB1.out⟩
  | false =>
    have h2 := h2 rfl
    have h3 := h3 rfl
    have H2 := Lib.hid h2
    have H3 := Lib.hid h3
    clear h1 h2 h3 hba k2 k3 k4 k5
    cases b2 with
    | true =>
      clear H3
      go_enter Try.func65, Try.ntmps65
      go_wp2
      refine wp_loop_rounds 2 ?_
      rw [rounds_succ]
      go_wp2_with (go_at_call 66; refine H1.out.mono ?_; rintro e w1 ⟨rfl, hb1⟩; have HB1 := Lib.hid (bt HBa.out hb1); have k2 := cell_later HB1.out HK.out.1; have k3 := cell_later HB1.out HK.out.2.1; clear hb1)
      have hba2 := (Below.refl w1.heap.size w1).alloc (Nat.le_refl _) (.cells #[.int .i64 11, .func (.func 68) #[] #[.pointer (some ⟨c3, 0, none⟩), .pointer (some ⟨c2, 0, none⟩)]] 119)
      have HBa2 := Lib.hid (bt HB1.out hba2)
      have HC2 := Lib.hid (H2.out _ HBa2.out)
      clear hba2
      rw [rounds_succ]
      go_wp2_with (go_at_call 68; refine HC2.out.mono ?_; rintro e w2 ⟨rfl, hb2⟩; have e0 := box_at2 (j := 0) hb2 rfl; have HB2 := Lib.hid (bt HBa2.out hb2); clear hb2)
      go_ret
      exact ⟨rfl, (fun _ h => by cases h), Touch.of_below HB2.out⟩
    | false =>
      have HLt := Lib.hid hc6
      clear hc6
      cases b3 with
      | true =>
        go_enter Try.func65, Try.ntmps65
        go_wp2
        refine wp_loop_rounds 3 ?_
        rw [rounds_succ]
        go_wp2_with (go_at_call 66; refine H1.out.mono ?_; rintro e w1 ⟨rfl, hb1⟩; have HB1 := Lib.hid (bt HBa.out hb1); have k2 := cell_later HB1.out HK.out.1; have k3 := cell_later HB1.out HK.out.2.1; clear hb1)
        have hba2 := (Below.refl w1.heap.size w1).alloc (Nat.le_refl _) (.cells #[.int .i64 11, .func (.func 68) #[] #[.pointer (some ⟨c3, 0, none⟩), .pointer (some ⟨c2, 0, none⟩)]] 119)
        have HBa2 := Lib.hid (bt HB1.out hba2)
        have HC2 := Lib.hid (H2.out _ HBa2.out)
        clear hba2
        rw [rounds_succ]
        go_wp2_with (go_at_call 68; refine HC2.out.mono ?_; rintro e w2 ⟨rfl, hb2⟩; have HB2 := Lib.hid (bt HBa2.out hb2); have k4 := cell_later HB2.out HK.out.2.2.1; have k5 := cell_later HB2.out HK.out.2.2.2; clear hb2)
        have hba3 := (Below.refl w2.heap.size w2).alloc (Nat.le_refl _) (.cells #[.int .i64 10, .func (.func 71) #[] #[.pointer (some ⟨c3, 0, none⟩), .pointer (some ⟨c6, 0, none⟩)]] 119)
        have HBa3 := Lib.hid (bt HB2.out hba3)
        have HC3 := Lib.hid (H3.out (by first | trivial | rfl) _ HBa3.out)
        have HS2 := Lib.hid (show ¬ (w2.heap.size = c6) by have := HB2.out.size; have := HLt.out; omega)
        clear hba3
        rw [rounds_succ]
        go_wp2_with (go_at_call 71; refine HC3.out.mono ?_; rintro e w3 ⟨rfl, hy, ht⟩; have e0 := box_touch (j := 0) ht HS2.out rfl; have HT3 := Lib.hid (And.intro hy ((Touch.of_below HBa3.out).trans ht (fun x hx => .inl hx))); clear hy ht)
        go_ret
        exact ⟨rfl, (fun _ _ => HT3.out.1), HT3.out.2⟩
      | false =>
        go_enter Try.func65, Try.ntmps65
        go_wp2
        refine wp_loop_rounds 4 ?_
        rw [rounds_succ]
        go_wp2_with (go_at_call 66; refine H1.out.mono ?_; rintro e w1 ⟨rfl, hb1⟩; have HB1 := Lib.hid (bt HBa.out hb1); have k2 := cell_later HB1.out HK.out.1; have k3 := cell_later HB1.out HK.out.2.1; clear hb1)
        have hba2 := (Below.refl w1.heap.size w1).alloc (Nat.le_refl _) (.cells #[.int .i64 11, .func (.func 68) #[] #[.pointer (some ⟨c3, 0, none⟩), .pointer (some ⟨c2, 0, none⟩)]] 119)
        have HBa2 := Lib.hid (bt HB1.out hba2)
        have HC2 := Lib.hid (H2.out _ HBa2.out)
        clear hba2
        rw [rounds_succ]
        go_wp2_with (go_at_call 68; refine HC2.out.mono ?_; rintro e w2 ⟨rfl, hb2⟩; have HB2 := Lib.hid (bt HBa2.out hb2); have k4 := cell_later HB2.out HK.out.2.2.1; have k5 := cell_later HB2.out HK.out.2.2.2; clear hb2)
        have hba3 := (Below.refl w2.heap.size w2).alloc (Nat.le_refl _) (.cells #[.int .i64 10, .func (.func 71) #[] #[.pointer (some ⟨c3, 0, none⟩), .pointer (some ⟨c6, 0, none⟩)]] 119)
        have HBa3 := Lib.hid (bt HB2.out hba3)
        have HC3 := Lib.hid (H3.out (by first | trivial | rfl) _ HBa3.out)
        have HS2 := Lib.hid (show ¬ (w2.heap.size = c6) by have := HB2.out.size; have := HLt.out; omega)
        clear hba3
        rw [rounds_succ]
        go_wp2_with (go_at_call 71; refine HC3.out.mono ?_; rintro e w3 ⟨rfl, hy, ht⟩; have HT3 := Lib.hid (And.intro hy ((Touch.of_below HBa3.out).trans ht (fun x hx => .inl hx))); clear hy ht)
        rw [rounds_succ]
        go_wp2
        go_ret
        exact ⟨rfl, (fun _ _ => HT3.out.1), HT3.out.2⟩

/-- What is left of a policy's sum behind draws; the error. -/
def openN (o : Po) (l : List Dw) : Int × Int :=
  if (o.may && dwB l) = false then (0, 1) else if lateB o.first o.last l = true then (0, 11) else match subL o.sum l with | none => (0, 10) | some y => (y, 0)
theorem dw_nums {l : List Dw} (h : dwB l = true) : ∀ d ∈ l, 1 ≤ d.z ∧ d.z ≤ 1099511627776 := by
  intro d hd
  obtain ⟨k, hk, rfl⟩ := List.mem_iff_getElem.1 hd
  have := (dw_iff l).1 h k hk
  unfold dwAt at this
  rw [List.getD_eq_getElem?_getD, List.getElem?_eq_getElem hk] at this
  simp only [Option.getD_some, Bool.and_eq_true, decide_eq_true_eq] at this
  exact ⟨this.1, this.2.1⟩

theorem blocks4 (w : World) (A B C D : Obj) : ((((w.alloc A).alloc B).alloc C).alloc D).heap[w.heap.size]? = some A ∧ ((((w.alloc A).alloc B).alloc C).alloc D).heap[w.heap.size + 1]? = some B ∧ ((((w.alloc A).alloc B).alloc C).alloc D).heap[w.heap.size + 1 + 1]? = some C ∧ ((((w.alloc A).alloc B).alloc C).alloc D).heap[w.heap.size + 1 + 1 + 1]? = some D ∧ Below w.heap.size w ((((w.alloc A).alloc B).alloc C).alloc D) := by
  have s1 : (w.alloc A).heap.size = w.heap.size + 1 := by simp
  have s2 : ((w.alloc A).alloc B).heap.size = w.heap.size + 1 + 1 := by simp
  have s3 : (((w.alloc A).alloc B).alloc C).heap.size = w.heap.size + 1 + 1 + 1 := by simp
  have e0 := heap_alloc_new w A
  have e1 := heap_alloc_new (w.alloc A) B
  have e2 := heap_alloc_new ((w.alloc A).alloc B) C
  have e3 := heap_alloc_new (((w.alloc A).alloc B).alloc C) D
  rw [s1] at e1; rw [s2] at e2; rw [s3] at e3
  refine ⟨?_, ?_, ?_, e3, ((((Below.refl _ _).alloc (Nat.le_refl _) A).alloc (by simp) B).alloc (by simp; omega) C).alloc (by simp; omega) D⟩
  · rw [Below.heap_alloc _ _ _ (by rw [s3]; omega), Below.heap_alloc _ _ _ (by rw [s2]; omega), Below.heap_alloc _ _ _ (by rw [s1]; omega)]; exact e0
  · rw [Below.heap_alloc _ _ _ (by rw [s3]; omega), Below.heap_alloc _ _ _ (by rw [s2]; omega)]; exact e1
  · rw [Below.heap_alloc _ _ _ (by rw [s3]; omega)]; exact e2
theorem block_cell {w : World} {b : Nat} {cs : Array Value} {t : TypeId} (h : w.heap[b]? = some (.cells cs t)) {j : Nat} {v : Value} (hv : cs[j]? = some v) : w.cell? ⟨b, j, none⟩ = some v := by simp [World.cell?, h, hv]
theorem block_free {w : World} {b : Nat} {cs : Array Value} {t : TypeId} (h : w.heap[b]? = some (.cells cs t)) (j : Nat) : w.frozen? ⟨b, j, none⟩ = false := by simp [World.frozen?, h]

set_option maxRecDepth 20000 in
set_option maxHeartbeats 4000000 in
theorem popen_any (o : Po) (ao : Option Addr) (n cap : Nat) (l : List Dw) (w : World) (h : Ints w o.cv o.zs) (hd : Draws w (.slice ao n cap) l) (hn : n = l.length) (hcap : n ≤ 100) :
    Calls Try.prog 47 #[o.val, .slice ao n cap] w fun e w' => e = .returned (.tuple #[.int .i64 (openN o l).1, .int .i64 (openN o l).2]) ∧ Below w.heap.size w w' := by
  obtain ⟨b1, hb1⟩ : ∃ b, b = !(o.may && dwB l) := ⟨_, rfl⟩
  obtain ⟨b2, hb2⟩ : ∃ b, b = lateB o.first o.last l := ⟨_, rfl⟩
  obtain ⟨s, hs⟩ : ∃ s, s = subL o.sum l := ⟨_, rfl⟩
  obtain ⟨R, hR⟩ : ∃ R, R = openN o l := ⟨_, rfl⟩
  have HR := Lib.hid (show (firstE b1 b2 s.isNone ≠ 0 → R = (0, firstE b1 b2 s.isNone)) ∧ (firstE b1 b2 s.isNone = 0 → b1 = false ∧ b2 = false ∧ ∃ y, s = some y ∧ R = (y, 0)) by
    rw [hR]; unfold openN firstE
    rw [← hb2, ← hs]
    have e : (o.may && dwB l) = !b1 := by rw [hb1, Bool.not_not]
    rw [e]
    cases b1 <;> cases b2 <;> cases s <;> simp)
  rw [← hR]
  have hao : l ≠ [] → ∀ a, ao = some a → a.block < w.heap.size := fun hne a e => by
    obtain ⟨bl, off, e2, hlt, _⟩ := hd.get hn (by rw [hn]; exact List.length_pos_iff.2 hne)
    rw [e] at e2; cases e2; exact hlt
  have hgood : b1 = false → o.may = true ∧ dwB l = true := fun e => by
    rw [e] at hb1
    revert hb1
    cases o.may <;> cases dwB l <;> simp
  have hnum := fun (e : o.may = true) => may_nums e
  obtain ⟨i, f, t, sum, own, ap, np, capp, first, last, share, e, hnp, hq1, hq2⟩ := Po.apart h
  generalize o.zs = zs at *
  subst e
  unfold Po.val Po.cells
  dsimp only at h hb1 hb2 hs hnp hgood hnum ⊢
  obtain ⟨B0, B1, B2, B3, BW⟩ := blocks4 w (.cells #[.string i, .string f, .string t, .int .i64 sum, .int .i64 own, .slice ap np capp, .int .i64 first, .int .i64 last, .int .i64 share] 32) (.cells #[.slice ao n cap] 64) (.cells #[.int .i64 sum] 2) (.cells #[.int .i64 1, .func (.func 66) #[] #[.pointer (some ⟨w.heap.size, 0, none⟩), .pointer (some ⟨w.heap.size + 1, 0, none⟩)], .int .i64 11, .func (.func 68) #[] #[.pointer (some ⟨w.heap.size + 1, 0, none⟩), .pointer (some ⟨w.heap.size, 0, none⟩)], .int .i64 10, .func (.func 71) #[] #[.pointer (some ⟨w.heap.size + 1, 0, none⟩), .pointer (some ⟨w.heap.size + 1 + 1, 0, none⟩)]] 119)
  obtain ⟨W, hW⟩ : ∃ W, W = (((w.alloc (.cells #[.string i, .string f, .string t, .int .i64 sum, .int .i64 own, .slice ap np capp, .int .i64 first, .int .i64 last, .int .i64 share] 32)).alloc (.cells #[.slice ao n cap] 64)).alloc (.cells #[.int .i64 sum] 2)).alloc (.cells #[.int .i64 1, .func (.func 66) #[] #[.pointer (some ⟨w.heap.size, 0, none⟩), .pointer (some ⟨w.heap.size + 1, 0, none⟩)], .int .i64 11, .func (.func 68) #[] #[.pointer (some ⟨w.heap.size + 1, 0, none⟩), .pointer (some ⟨w.heap.size, 0, none⟩)], .int .i64 10, .func (.func 71) #[] #[.pointer (some ⟨w.heap.size + 1, 0, none⟩), .pointer (some ⟨w.heap.size + 1 + 1, 0, none⟩)]] 119) := ⟨_, rfl⟩
  rw [← hW] at B0 B1 B2 B3 BW
  have lt3 := lt_of_block B3
  have HF := Lib.hid (first_any W (w.heap.size + 1 + 1 + 1) w.heap.size (w.heap.size + 1) (w.heap.size + 1 + 1) b1 b2 s.isNone s (by omega)
    (block_cell B3 rfl) (block_cell B3 rfl) (block_cell B3 rfl) (block_cell B3 rfl) (block_cell B3 rfl) (block_cell B3 rfl)
    (fun W' hb => by
      have C0 := (hb.block _ (lt_of_block B0)).trans B0
      have C1 := (hb.block _ (lt_of_block B1)).trans B1
      rw [hb1]
      exact open1_any W' _ _ i f t sum own ap np capp zs first last share ao n cap l (Ints.below h (bt BW hb)) hnp (hd.below (bt BW hb)) hn (by unfold maxLen; omega) (block_cell C0 rfl) (block_cell C0 rfl) (block_cell C0 rfl) (block_cell C0 rfl) (block_cell C0 rfl) (block_cell C0 rfl) (block_cell C0 rfl) (block_cell C0 rfl) (block_cell C0 rfl) (block_cell C1 rfl))
    (fun _ W' hb => by
      have C0 := (hb.block _ (lt_of_block B0)).trans B0
      have C1 := (hb.block _ (lt_of_block B1)).trans B1
      rw [hb2]
      exact open2_any W' _ _ first last ao n cap l (hd.below (bt BW hb)) hn hcap (block_cell C0 rfl) (block_cell C0 rfl) (block_cell C1 rfl))
    (fun e _ W' hb => by
      have C1 := (hb.block _ (lt_of_block B1)).trans B1
      have C2 := (hb.block _ (lt_of_block B2)).trans B2
      obtain ⟨g1, g2⟩ := hgood e
      have g3 := hnum g1
      rw [hs]
      exact open3_any W' _ _ sum ao n cap l (hd.below (bt BW hb)) hn hcap (block_cell C1 rfl) (block_cell C2 rfl) (block_free C2 0) (fun hne a ea => by have := hao hne a ea; omega) (by omega) (dw_nums g2)))
  rw [hW] at HF
  have HB := Lib.hid (show Below w.heap.size w W from BW)
  rw [hW] at HB
  clear B0 B1 B2 B3 BW lt3 hW hn hd hcap hao hgood hnum hnp h hb1 hb2 hs hR hq1 hq2
  by_cases g : firstE b1 b2 s.isNone = 0
  · obtain ⟨g1, g2, y, g3, g4⟩ := HR.out.2 g
    have HY := Lib.hid (And.intro g1 (And.intro g2 g3))
    rw [g4]
    unfold FirstPost at HF
    rw [g] at HF
    clear g g1 g2 g3 g4 HR
    go_enter Try.func47, Try.ntmps47
    go_wp2_with fail
    refine HF.out.mono ?_
    rintro e w1 ⟨rfl, hy, ht⟩
    have c1 := hy HY.out.1 HY.out.2.1 y HY.out.2.2
    have HB1 := Lib.hid (HB.out.trans (ht.below HB.out.size (fun x hx => by omega)))
    clear hy ht
    go_wp2
    go_ret2
    exact ⟨rfl, HB1.out⟩
  · have g4 := HR.out.1 g
    have e0 : (firstE b1 b2 s.isNone != 0) = true := by simp [bne, g]
    have e1 : (firstE b1 b2 s.isNone == 0) = false := by simp [g]
    rw [g4]
    unfold FirstPost at HF
    generalize firstE b1 b2 s.isNone = E at *
    clear g g4 HR
    go_enter Try.func47, Try.ntmps47
    go_wp2_with fail
    refine HF.out.mono ?_
    rintro e w1 ⟨rfl, hy, ht⟩
    have HB1 := Lib.hid (HB.out.trans (ht.below HB.out.size (fun x hx => by omega)))
    clear hy ht
    go_wp2
    go_ret2
    exact ⟨rfl, HB1.out⟩


/-- What is left, as the document reckons it. -/
def leftR : Int → List Dw → Int
  | a, [] => a
  | a, d :: l => leftR (if 0 ≤ a then a - d.z else a) l
theorem leftR_app : ∀ (A B : List Dw) (a : Int), leftR a (A ++ B) = leftR (leftR a A) B
  | [], B, a => rfl
  | d :: A, B, a => by rw [List.cons_append, leftR, leftR, leftR_app A B]
theorem leftR_step {l : List Dw} {k : Nat} {a : Int} (hk : k < l.length) : leftR a (l.take (k + 1)) = if 0 ≤ leftR a (l.take k) then leftR a (l.take k) - (l.getD k default).z else leftR a (l.take k) := by
  rw [List.take_succ_eq_append_getElem hk, leftR_app, List.getD_eq_getElem?_getD, List.getElem?_eq_getElem hk]
  rfl
theorem leftR_neg : ∀ (l : List Dw) {a : Int}, a < 0 → leftR a l = a
  | [], a, _ => rfl
  | d :: l, a, h => by rw [leftR, if_neg (by omega)]; exact leftR_neg l h
theorem leftR_sub : ∀ (l : List Dw) {a : Int}, 0 ≤ a → subL a l = if leftR a l < 0 then none else some (leftR a l)
  | [], a, h => by rw [subL, leftR, if_neg (by omega)]
  | d :: l, a, h => by
    rw [subL, leftR, if_pos h]
    by_cases g : a - d.z < 0
    · rw [if_pos g, leftR_neg l g, if_pos g]
    · rw [if_neg g]; exact leftR_sub l (by omega)
theorem leftR_bd : ∀ (l : List Dw) {a : Int}, (∀ d ∈ l, 1 ≤ d.z ∧ d.z ≤ 1099511627776) → -1099511627776 ≤ a → a ≤ 1099511627776 → -1099511627776 ≤ leftR a l ∧ leftR a l ≤ 1099511627776
  | [], a, _, h0, h1 => ⟨h0, h1⟩
  | d :: l, a, hz, h0, h1 => by
    have := hz d (by simp)
    rw [leftR]
    by_cases g : 0 ≤ a
    · rw [if_pos g]; exact leftR_bd l (fun x hx => hz x (by simp [hx])) (by omega) (by omega)
    · rw [if_neg g]; exact leftR_bd l (fun x hx => hz x (by simp [hx])) h0 h1
theorem late_step {l : List Dw} {k : Nat} {f t : Int} (hk : k < l.length) : lateB f t (l.take (k + 1)) = (lateB f t (l.take k) || (decide ((l.getD k default).d < f) || decide (t < (l.getD k default).d))) := by
  unfold lateB
  rw [List.take_succ_eq_append_getElem hk, List.any_append, List.getD_eq_getElem?_getD, List.getElem?_eq_getElem hk]
  simp [lateAt]

theorem openN_left {o : Po} {l : List Dw} (hm : o.may = true) (hd : dwB l = true) (h0 : 0 ≤ o.sum) : openN o l = if lateB o.first o.last l = true then (0, 11) else if leftR o.sum l < 0 then (0, 10) else (leftR o.sum l, 0) := by
  unfold openN; rw [hm, hd, leftR_sub l h0]
  by_cases h1 : lateB o.first o.last l = true
  · simp [h1]
  · by_cases h2 : leftR o.sum l < 0
    · simp [h1, h2]
    · simp [h1, h2]

set_option maxRecDepth 100000 in
set_option maxHeartbeats 8000000 in
theorem ropen_any (o : Po) (ao : Option Addr) (n cap : Nat) (l : List Dw) (w : World) (h : Ints w o.cv o.zs) (s1 : o.i.size ≤ maxLen) (s2 : o.f.size ≤ maxLen) (s3 : o.t.size ≤ maxLen) (s4 : o.zs.length ≤ 1000) (hd : Draws w (.slice ao n cap) l) (hn : n = l.length) (hcap : n ≤ 100) :
    Calls Try.prog 48 #[o.val, .slice ao n cap] w fun e w' => e = .returned (.tuple #[.int .i64 (openN o l).1, .int .i64 (openN o l).2]) ∧ Below w.heap.size w w' := by
  have hba := (Below.refl w.heap.size w).alloc (Nat.le_refl _) (.cells (Po.cells o).toArray 32)
  have HM := Lib.hid (rmay_o o _ (h.below hba) s1 s2 s3 s4)
  have HBa := Lib.hid hba
  have HMn := Lib.hid (fun (h : o.may = true) => may_nums h)
  obtain ⟨R, hR⟩ : ∃ R, R = openN o l := ⟨_, rfl⟩
  have HR := Lib.hid hR
  have H := Lib.hid hd
  have HN := Lib.hid hn
  have HIn := Lib.hid (fun n w => in_any n 0 1048576 w)
  rw [← hR]
  obtain ⟨m, hm⟩ : ∃ m, m = o.may := ⟨_, rfl⟩
  rw [← hm] at HM
  have Hm := Lib.hid hm
  clear hm hR hn hd hba s1 s2 s3 s4
  obtain ⟨i, f, t, sum, own, ap, np, capp, first, last, share, e, hnp, hq1, hq2⟩ := Po.apart h
  clear h hnp hq1 hq2
  generalize o.zs = zs at *
  subst e
  unfold Po.val at HM ⊢
  unfold Po.cells at HM HBa ⊢
  dsimp only at HM HBa HMn Hm HR ⊢
  cases m with
  | false =>
    have HX := Lib.hid (show R = (0, 1) by rw [HR.out]; unfold openN; rw [← Hm.out]; rfl)
    go_enter Try.func48, Try.ntmps48
    go_wp2_with fail
    refine HM.out.mono ?_
    rintro e w1 ⟨rfl, hb1⟩
    have HB1 := Lib.hid (bt HBa.out hb1)
    clear hb1
    go_wp2
    go_ret2
    exact ⟨by rw [HX.out]; rfl, HB1.out⟩
  | true =>
    have hsum := HMn.out Hm.out.symm

    have HSum := Lib.hid hsum
    clear hsum
    go_enter Try.func48, Try.ntmps48
    go_wp2_with fail
    refine HM.out.mono ?_
    rintro e w1 ⟨rfl, hb1⟩
    have HB1 := Lib.hid (bt HBa.out hb1)
    have p3 := box_at (j := 3) (v := .int .i64 sum) hb1 rfl
    have p6 := box_at (j := 6) (v := .int .i64 first) hb1 rfl
    have p7 := box_at (j := 7) (v := .int .i64 last) hb1 rfl
    have HPp := Lib.hid (And.intro p3 (And.intro p6 p7))
    have H1 := Lib.hid (H.out.below HB1.out)
    clear hb1 p3 p6 p7 HM
    go_wp2_with fail
    go_loopw [6] (fun i wr => ∃ k : Nat, k ≤ n ∧ i = .int .i64 (k : Int) ∧ Hid (∀ j, j < k → dwAt l j = true) ∧ Hid (Below w1.heap.size w1 wr)) (fun i _ => n - (intOf i).toNat)
    case atStart => exact ⟨0, Nat.zero_le _, rfl, Lib.hid (fun j hj => by omega), Lib.hid (Below.refl _ _)⟩
    case round =>
      obtain ⟨k, hk, rfl, hp, hb⟩ := hrel
      by_cases hlt : k < n
      · have l1 : (k : Int) < (n : Int) := by omega
        have l0 : (0 : Int) ≤ (k : Int) := by omega
        have HBad := Lib.hid (show dwAt l k = false → R = (0, 1) from fun h => by
          rw [HR.out]; unfold openN; rw [dw_bad (l := l) (k := k) (by rw [← HN.out]; exact hlt) h, Bool.and_false]; rfl)
        have HP := Lib.hid (show dwAt l k = true → ∀ j, j < k + 1 → dwAt l j = true from fun h j hj => by
          by_cases e : j = k
          · subst e; exact h
          · exact hp.out j (by omega))
        obtain ⟨bl, off, rfl, hbl, hc⟩ := H1.out.get HN.out (by omega)
        have hcw : ∀ j, j < n → wr.cell? ⟨bl, off + j * 2, none⟩ = some (.int .i64 (l.getD j default).d) ∧ wr.cell? ⟨bl, off + j * 2 + 1, none⟩ = some (.int .i64 (l.getD j default).z) := fun j hj => by
          obtain ⟨q1, q2⟩ := hc j hj
          exact ⟨by rw [hb.out.cell (by show bl < _; omega)]; exact q1, by rw [hb.out.cell (by show bl < _; omega)]; exact q2⟩
        obtain ⟨c1, c2⟩ := hcw k hlt
        rcases k with _ | k
        · have HO := Lib.hid (dwAt_zero l)
          obtain ⟨z, hz⟩ : ∃ z, z = (l.getD 0 default).z := ⟨_, rfl⟩
          obtain ⟨d, hd⟩ : ∃ d, d = (l.getD 0 default).d := ⟨_, rfl⟩
          rw [← hz] at c2 HO
          rw [← hd] at c1 HO
          clear hz hd hc hcw
          simp at c1 c2
          have HBr := Lib.hid (bt HB1.out hb.out)
          have HDk := Lib.hid (fun w => HIn.out d w)
          have HDy := Lib.hid (show inB d 0 1048576 = dayB d from rfl)
          rw [HDy.out] at HDk
          by_cases g1 : z < 1
          · have d1 : decide (z < 1) = true := by rw [decide_eq_true_iff]; exact g1
            have HX := Lib.hid (show R = (0, 1) from HBad.out (by rw [HO.out, show decide (1 ≤ z) = false by rw [decide_eq_false_iff_not]; omega, Bool.false_and]))
            clear HBad HP HO
            go_wp2_with fail
            go_quiet ((go_at_call 46; exact Calls.quiet_of_same (HDk.out _)))
            go_wp2
            go_ret2
            exact ⟨by rw [HX.out]; rfl, below_drewN HBr.out _⟩
          · have d1 : decide (z < 1) = false := by rw [decide_eq_false_iff_not]; exact g1
            by_cases g2 : 1099511627776 < z
            · have d2 : decide (1099511627776 < z) = true := by rw [decide_eq_true_iff]; exact g2
              have HX := Lib.hid (show R = (0, 1) from HBad.out (by rw [HO.out, show decide (1 ≤ z) = true by rw [decide_eq_true_iff]; omega, show decide (z ≤ 1099511627776) = false by rw [decide_eq_false_iff_not]; omega, Bool.true_and, Bool.false_and]))
              clear HBad HP HO
              go_wp2_with fail
              go_quiet ((go_at_call 46; exact Calls.quiet_of_same (HDk.out _)))
              go_wp2
              go_ret2
              exact ⟨by rw [HX.out]; rfl, below_drewN HBr.out _⟩
            · have d2 : decide (1099511627776 < z) = false := by rw [decide_eq_false_iff_not]; exact g2
              cases g3 : dayB d with
              | false =>
                rw [g3] at HDk
                have HX := Lib.hid (show R = (0, 1) from HBad.out (by rw [HO.out, show decide (1 ≤ z) = true by rw [decide_eq_true_iff]; omega, show decide (z ≤ 1099511627776) = true by rw [decide_eq_true_iff]; omega, g3, Bool.true_and, Bool.true_and]))
                clear HBad HP HO
                go_wp2_with fail
                go_quiet ((go_at_call 46; exact Calls.quiet_of_same (HDk.out _)))
                go_wp2
                go_ret2
                exact ⟨by rw [HX.out]; rfl, below_drewN HBr.out _⟩
              | true =>
                rw [g3] at HDk
                have HQ := Lib.hid (HP.out (by rw [HO.out, show decide (1 ≤ z) = true by rw [decide_eq_true_iff]; omega, show decide (z ≤ 1099511627776) = true by rw [decide_eq_true_iff]; omega, g3, Bool.true_and, Bool.true_and]))
                clear HBad HP HO
                go_wp2_with fail
                go_quiet ((go_at_call 46; exact Calls.quiet_of_same (HDk.out _)))
                go_wp2
                go_roundw
                case rel => exact ⟨1, by omega, by go_num, HQ, Lib.hid (below_drewN hb.out _)⟩
                case measure => simp [intOf]; omega
        · have HO := Lib.hid (dwAt_succ l k)
          obtain ⟨q1, -⟩ := hcw k (by omega)
          obtain ⟨z, hz⟩ : ∃ z, z = (l.getD (k + 1) default).z := ⟨_, rfl⟩
          obtain ⟨d, hd⟩ : ∃ d, d = (l.getD (k + 1) default).d := ⟨_, rfl⟩
          rw [← hz] at c2 HO
          rw [← hd] at c1 HO
          obtain ⟨y, hy⟩ : ∃ y, y = (l.getD k default).d := ⟨_, rfl⟩
          rw [← hy] at q1 HO
          have l2 : (k : Int) < (n : Int) := by omega
          have l3 : (0 : Int) ≤ (k : Int) := by omega
          have v1 : IntKind.i64.wrap ((k : Int) + 1 - 1) = (k : Int) := by rw [Int.add_sub_cancel]; exact IntWalk.i64_in _ (by omega)
          have v2 : IntKind.i64.wrap (k : Int) = (k : Int) := IntWalk.i64_in _ (by omega)
          have d5 : decide ((0 : Int) < (k : Int) + 1) = true := by rw [decide_eq_true_iff]; omega
          clear hy
          clear hz hd hc hcw
          have HBr := Lib.hid (bt HB1.out hb.out)
          have HDk := Lib.hid (fun w => HIn.out d w)
          have HDy := Lib.hid (show inB d 0 1048576 = dayB d from rfl)
          rw [HDy.out] at HDk
          by_cases g1 : z < 1
          · have d1 : decide (z < 1) = true := by rw [decide_eq_true_iff]; exact g1
            have HX := Lib.hid (show R = (0, 1) from HBad.out (by rw [HO.out, show decide (1 ≤ z) = false by rw [decide_eq_false_iff_not]; omega, Bool.false_and]))
            clear HBad HP HO
            go_wp2_with fail
            go_quiet ((go_at_call 46; exact Calls.quiet_of_same (HDk.out _)))
            go_wp2
            go_ret2
            exact ⟨by rw [HX.out]; rfl, below_drewN HBr.out _⟩
          · have d1 : decide (z < 1) = false := by rw [decide_eq_false_iff_not]; exact g1
            by_cases g2 : 1099511627776 < z
            · have d2 : decide (1099511627776 < z) = true := by rw [decide_eq_true_iff]; exact g2
              have HX := Lib.hid (show R = (0, 1) from HBad.out (by rw [HO.out, show decide (1 ≤ z) = true by rw [decide_eq_true_iff]; omega, show decide (z ≤ 1099511627776) = false by rw [decide_eq_false_iff_not]; omega, Bool.true_and, Bool.false_and]))
              clear HBad HP HO
              go_wp2_with fail
              go_quiet ((go_at_call 46; exact Calls.quiet_of_same (HDk.out _)))
              go_wp2
              go_ret2
              exact ⟨by rw [HX.out]; rfl, below_drewN HBr.out _⟩
            · have d2 : decide (1099511627776 < z) = false := by rw [decide_eq_false_iff_not]; exact g2
              cases g3 : dayB d with
              | false =>
                rw [g3] at HDk
                have HX := Lib.hid (show R = (0, 1) from HBad.out (by rw [HO.out, show decide (1 ≤ z) = true by rw [decide_eq_true_iff]; omega, show decide (z ≤ 1099511627776) = true by rw [decide_eq_true_iff]; omega, g3, Bool.true_and, Bool.true_and, Bool.false_and]))
                clear HBad HP HO
                go_wp2_with fail
                go_quiet ((go_at_call 46; exact Calls.quiet_of_same (HDk.out _)))
                go_wp2
                go_ret2
                exact ⟨by rw [HX.out]; rfl, below_drewN HBr.out _⟩
              | true =>
                rw [g3] at HDk
                by_cases g4 : d < y
                · have d4 : decide (d < y) = true := by rw [decide_eq_true_iff]; exact g4
                  have HX := Lib.hid (show R = (0, 1) from HBad.out (by rw [HO.out, show decide (1 ≤ z) = true by rw [decide_eq_true_iff]; omega, show decide (z ≤ 1099511627776) = true by rw [decide_eq_true_iff]; omega, g3, Bool.true_and, Bool.true_and, Bool.true_and, show decide (y ≤ d) = false by rw [decide_eq_false_iff_not]; omega]))
                  clear HBad HP HO
                  go_wp2_with fail
                  go_quiet ((go_at_call 46; exact Calls.quiet_of_same (HDk.out _)))
                  go_wp2
                  go_ret2
                  exact ⟨by rw [HX.out]; rfl, below_drewN HBr.out _⟩
                · have d4 : decide (d < y) = false := by rw [decide_eq_false_iff_not]; exact g4
                  have HQ := Lib.hid (HP.out (by rw [HO.out, show decide (1 ≤ z) = true by rw [decide_eq_true_iff]; omega, show decide (z ≤ 1099511627776) = true by rw [decide_eq_true_iff]; omega, g3, Bool.true_and, Bool.true_and, Bool.true_and, show decide (y ≤ d) = true by rw [decide_eq_true_iff]; omega]))
                  clear HBad HP HO
                  go_wp2_with fail
                  go_quiet ((go_at_call 46; exact Calls.quiet_of_same (HDk.out _)))
                  go_wp2
                  go_roundw
                  case rel => exact ⟨k + 1 + 1, by omega, by go_num, HQ, Lib.hid (below_drewN hb.out _)⟩
                  case measure => simp [intOf]; omega
      · obtain rfl : k = n := by omega
        have hdw : dwB l = true := (dw_iff l).2 fun j hj => hp.out j (by rw [HN.out]; exact hj)
        have HZ := Lib.hid (dw_nums hdw)
        have hs0 := HSum.out
        have HX := Lib.hid (show R = (if lateB first last l = true then (0, 11) else if leftR sum l < 0 then (0, 10) else (leftR sum l, 0)) by
          rw [HR.out]; exact openN_left Hm.out.symm hdw (by show 0 ≤ sum; omega))
        have HLb := Lib.hid (show ∀ j, -1099511627776 ≤ leftR sum (l.take j) ∧ leftR sum (l.take j) ≤ 1099511627776 from fun j => leftR_bd _ (fun d hd => HZ.out d (List.mem_of_mem_take hd)) (by omega) (by omega))
        obtain ⟨wz, hwz⟩ : ∃ wz, wz = wr := ⟨_, rfl⟩
        subst hwz
        have HBz := Lib.hid (bt HB1.out hb.out)
        have HPz := Lib.hid (And.intro (cell_later hb.out HPp.out.1) (And.intro (cell_later hb.out HPp.out.2.1) (cell_later hb.out HPp.out.2.2)))
        have H2 := Lib.hid (H1.out.below hb.out)
        have p3 := HPz.out.1
        clear hp hb hdw hs0 H1 HPp HB1 HBa HMn Hm HR HIn
        go_wp2_with fail
        go_loopw [7, 8, 9] (fun t s i wr => ∃ j : Nat, j ≤ k ∧ i = .int .i64 (j : Int) ∧ t = .int .i64 (leftR sum (l.take j)) ∧ s = .bool (lateB first last (l.take j)) ∧ Hid (Below wz.heap.size wz wr)) (fun _ _ i _ => k - (intOf i).toNat)
        case atStart => exact ⟨0, Nat.zero_le _, rfl, rfl, rfl, Lib.hid (Below.refl _ _)⟩
        case round =>
          clear p3
          obtain ⟨j, hj, rfl, rfl, rfl, hb⟩ := hrel
          by_cases hlt : j < k
          · have l1 : (j : Int) < (k : Int) := by omega
            have l0 : (0 : Int) ≤ (j : Int) := by omega
            have hjl : j < l.length := by rw [← HN.out]; exact hlt
            obtain ⟨bl, off, rfl, hbl, hc⟩ := H2.out.get HN.out (by omega)
            obtain ⟨q1, q2⟩ := hc j hlt
            have c1 : wr.cell? ⟨bl, off + j * 2, none⟩ = some (.int .i64 (l.getD j default).d) := by rw [hb.out.cell (by show bl < _; omega)]; exact q1
            have c2 : wr.cell? ⟨bl, off + j * 2 + 1, none⟩ = some (.int .i64 (l.getD j default).z) := by rw [hb.out.cell (by show bl < _; omega)]; exact q2
            have p6 := cell_later hb.out HPz.out.2.1
            have p7 := cell_later hb.out HPz.out.2.2
            have HSl := Lib.hid (leftR_step (a := sum) hjl)
            have HSt := Lib.hid (late_step (f := first) (t := last) hjl)
            have hlb := HLb.out j
            have hzz := HZ.out (l.getD j default) (by rw [List.getD_eq_getElem?_getD, List.getElem?_eq_getElem hjl]; exact List.getElem_mem hjl)
            have HL2 := Lib.hid (HLb.out (j + 1))
            obtain ⟨x, hx⟩ : ∃ x, x = leftR sum (l.take j) := ⟨_, rfl⟩
            obtain ⟨s, hs⟩ : ∃ s, s = lateB first last (l.take j) := ⟨_, rfl⟩
            rw [← hx] at HSl hlb ⊢
            rw [← hs] at HSt ⊢
            obtain ⟨z, hz⟩ : ∃ z, z = (l.getD j default).z := ⟨_, rfl⟩
            obtain ⟨d, hd⟩ : ∃ d, d = (l.getD j default).d := ⟨_, rfl⟩
            rw [← hz] at c2 HSl hzz
            rw [← hd] at c1 HSt
            clear hx hs hz hd hc q1 q2 hjl
            have v1 : IntKind.i64.wrap (x - z) = x - z := IntWalk.i64_in _ (by omega)
            have e2 : off + (j * 2 + 1) = off + j * 2 + 1 := by omega
            clear hlb hzz
            cases s with
            | true =>
              have HT := Lib.hid (show lateB first last (l.take (j + 1)) = true by rw [HSt.out]; rfl)
              by_cases g : 0 ≤ x
              · have d3 : decide (0 ≤ x) = true := by rw [decide_eq_true_iff]; exact g
                have HU := Lib.hid (show leftR sum (l.take (j + 1)) = x - z by rw [HSl.out, if_pos g])
                clear g
                go_wp2_with fail
                go_quiet (fail)
                go_wp2
                go_roundw
                case rel => exact ⟨j + 1, by omega, by go_num, by rw [HU.out], by rw [HT.out], Lib.hid (below_drewN hb.out _)⟩
                case measure => simp [intOf]; omega
              · have d3 : decide (0 ≤ x) = false := by rw [decide_eq_false_iff_not]; exact g
                have HU := Lib.hid (show leftR sum (l.take (j + 1)) = x by rw [HSl.out, if_neg g])
                clear g
                go_wp2_with fail
                go_quiet (fail)
                go_wp2
                go_roundw
                case rel => exact ⟨j + 1, by omega, by go_num, by rw [HU.out], by rw [HT.out], Lib.hid (below_drewN hb.out _)⟩
                case measure => simp [intOf]; omega
            | false =>
              cases g1 : decide (d < first) with
              | true =>
                have HT := Lib.hid (show lateB first last (l.take (j + 1)) = true by rw [HSt.out, g1]; rfl)
                by_cases g : 0 ≤ x
                · have d3 : decide (0 ≤ x) = true := by rw [decide_eq_true_iff]; exact g
                  have HU := Lib.hid (show leftR sum (l.take (j + 1)) = x - z by rw [HSl.out, if_pos g])
                  clear g
                  go_wp2_with fail
                  go_quiet (fail)
                  go_wp2
                  go_roundw
                  case rel => exact ⟨j + 1, by omega, by go_num, by rw [HU.out], by rw [HT.out], Lib.hid (below_drewN hb.out _)⟩
                  case measure => simp [intOf]; omega
                · have d3 : decide (0 ≤ x) = false := by rw [decide_eq_false_iff_not]; exact g
                  have HU := Lib.hid (show leftR sum (l.take (j + 1)) = x by rw [HSl.out, if_neg g])
                  clear g
                  go_wp2_with fail
                  go_quiet (fail)
                  go_wp2
                  go_roundw
                  case rel => exact ⟨j + 1, by omega, by go_num, by rw [HU.out], by rw [HT.out], Lib.hid (below_drewN hb.out _)⟩
                  case measure => simp [intOf]; omega
              | false =>
                cases g2 : decide (last < d) with
                | true =>
                  have HT := Lib.hid (show lateB first last (l.take (j + 1)) = true by rw [HSt.out, g1, g2]; rfl)
                  by_cases g : 0 ≤ x
                  · have d3 : decide (0 ≤ x) = true := by rw [decide_eq_true_iff]; exact g
                    have HU := Lib.hid (show leftR sum (l.take (j + 1)) = x - z by rw [HSl.out, if_pos g])
                    clear g
                    go_wp2_with fail
                    go_quiet (fail)
                    go_wp2
                    go_roundw
                    case rel => exact ⟨j + 1, by omega, by go_num, by rw [HU.out], by rw [HT.out], Lib.hid (below_drewN hb.out _)⟩
                    case measure => simp [intOf]; omega
                  · have d3 : decide (0 ≤ x) = false := by rw [decide_eq_false_iff_not]; exact g
                    have HU := Lib.hid (show leftR sum (l.take (j + 1)) = x by rw [HSl.out, if_neg g])
                    clear g
                    go_wp2_with fail
                    go_quiet (fail)
                    go_wp2
                    go_roundw
                    case rel => exact ⟨j + 1, by omega, by go_num, by rw [HU.out], by rw [HT.out], Lib.hid (below_drewN hb.out _)⟩
                    case measure => simp [intOf]; omega
                | false =>
                  have HT := Lib.hid (show lateB first last (l.take (j + 1)) = false by rw [HSt.out, g1, g2]; rfl)
                  by_cases g : 0 ≤ x
                  · have d3 : decide (0 ≤ x) = true := by rw [decide_eq_true_iff]; exact g
                    have HU := Lib.hid (show leftR sum (l.take (j + 1)) = x - z by rw [HSl.out, if_pos g])
                    clear g
                    go_wp2_with fail
                    go_quiet (fail)
                    go_wp2
                    go_roundw
                    case rel => exact ⟨j + 1, by omega, by go_num, by rw [HU.out], by rw [HT.out], Lib.hid (below_drewN hb.out _)⟩
                    case measure => simp [intOf]; omega
                  · have d3 : decide (0 ≤ x) = false := by rw [decide_eq_false_iff_not]; exact g
                    have HU := Lib.hid (show leftR sum (l.take (j + 1)) = x by rw [HSl.out, if_neg g])
                    clear g
                    go_wp2_with fail
                    go_quiet (fail)
                    go_wp2
                    go_roundw
                    case rel => exact ⟨j + 1, by omega, by go_num, by rw [HU.out], by rw [HT.out], Lib.hid (below_drewN hb.out _)⟩
                    case measure => simp [intOf]; omega
          · obtain rfl : j = k := by omega
            have e : l.take j = l := List.take_of_length_le (by rw [HN.out]; exact Nat.le_refl _)
            rw [e]
            have HBq := Lib.hid (bt HBz.out hb.out)
            generalize lateB first last l = s at *
            generalize leftR sum l = x at *
            clear HLb
            cases s with
            | true =>
              have HY := Lib.hid (show R = (0, 11) by rw [HX.out]; rfl)
              go_wp2
              go_ret2
              exact ⟨by rw [HY.out]; rfl, HBq.out⟩
            | false =>
              by_cases g : x < 0
              · have d3 : decide (x < 0) = true := by rw [decide_eq_true_iff]; exact g
                have HY := Lib.hid (show R = (0, 10) by rw [HX.out, if_neg (by simp), if_pos g])
                clear g
                go_wp2
                go_ret2
                exact ⟨by rw [HY.out]; rfl, HBq.out⟩
              · have d3 : decide (x < 0) = false := by rw [decide_eq_false_iff_not]; exact g
                have HY := Lib.hid (show R = (x, 0) by rw [HX.out, if_neg (by simp), if_neg g])
                clear g
                go_wp2
                go_ret2
                exact ⟨by rw [HY.out]; rfl, HBq.out⟩
end Go.Proofs.Ytamfdkigokicoaa
