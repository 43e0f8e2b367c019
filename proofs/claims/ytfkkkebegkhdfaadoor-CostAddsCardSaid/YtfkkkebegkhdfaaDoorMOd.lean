/-
  Lines, names, currencies, orders. (Put together of XLin, XNameC, XOrd.)
-/
import Derived.Test.YtfkkkebegkhdfaaDoorRows
import Derived.Test.YtfkkkebegkhdfaaDoorKit
import Derived.Test.YtfkkkebegkhdfaaDoorFld
import Derived.Test.YtfkkkebegkhdfaaDoorMark
namespace Go.Proofs.YtfkkkebegkhdfaaDoor
open Go Go.RowKit Go.Deep
set_option linter.unusedVariables false
set_option linter.unusedSimpArgs false

structure Li where
  t : ByteArray
  s : Int
  z : Int
instance : Inhabited Li := ⟨⟨⟨#[]⟩, 0, 0⟩⟩
def Li.cells (o : Li) : List Value := [.string o.t, .int .i64 o.s, .int .i64 o.z]
def Lins (w : World) (v : Value) (l : List Li) : Prop := Row w v 3 l.length (l.flatMap Li.cells)
theorem Lins.below {w w' : World} {v : Value} {l : List Li} (h : Lins w v l) (hb : Below w.heap.size w w') : Lins w' v l := Row.below h hb
theorem Lins.drewN {w : World} {v : Value} {l : List Li} (h : Lins w v l) (n : Nat) : Lins (w.drewN n) v l := Row.drewN h n
theorem Lins.shape {w : World} {v : Value} {l : List Li} (h : Lins w v l) : ∃ ao cap, v = .slice ao l.length cap ∧ l.length ≤ cap ∧ cap ≤ maxLen ∧ (ao = none → cap = 0) := by
  obtain ⟨_, ao, cap, h1, h2, h3, h4, _⟩ := h
  exact ⟨ao, cap, h1, h2, h3, h4⟩
theorem Lins.get {w : World} {ao : Option Addr} {n cap : Nat} {l : List Li} (h : Lins w (.slice ao n cap) l) (hn : n = l.length) (hp : 0 < n) : ∃ b off, ao = some ⟨b, off, none⟩ ∧ b < w.heap.size ∧ ∀ k, k < n →
    w.cell? ⟨b, off + k * 3, none⟩ = some (.string (l.getD k default).t) ∧
    w.cell? ⟨b, off + k * 3 + 1, none⟩ = some (.int .i64 (l.getD k default).s) ∧
    w.cell? ⟨b, off + k * 3 + 2, none⟩ = some (.int .i64 (l.getD k default).z) := by
  have hl : (l.flatMap Li.cells).length = l.length * 3 := flat_len (f := Li.cells) (sz := 3) (fun _ => rfl) l
  obtain ⟨b, off, cap', e, h2, h3, h4, h5⟩ := Row.at h (by omega)
  cases e
  refine ⟨b, off, rfl, h4, fun k hk => ?_⟩
  rw [List.getD_eq_getElem?_getD, List.getElem?_eq_getElem (by omega)]
  have g : ∀ j, j < 3 → w.cell? ⟨b, off + (k * 3 + j), none⟩ = (Li.cells l[k])[j]? := fun j hj => by
    have e := flat_get (f := Li.cells) (sz := 3) (fun _ => rfl) l k j (by omega) hj
    rw [← e, h5 (k * 3 + j) (by rw [hl]; omega), List.getElem?_eq_getElem]
  exact ⟨by have := g 0 (by omega); simpa [Li.cells] using this, by rw [Nat.add_assoc]; have := g 1 (by omega); simpa [Li.cells] using this, by rw [Nat.add_assoc]; have := g 2 (by omega); simpa [Li.cells] using this⟩

theorem cellsLi : Tryd.prog.cellsOf 44 = 3 := by kernel_rfl
def Li.wf (o : Li) : Prop := o.t.size ≤ maxLen ∧ (Lit.int .i64 o.s).wf = true ∧ (Lit.int .i64 o.z).wf = true
set_option maxRecDepth 20000 in
theorem lins_trod {H : Type} {enc : TypeId × Value → H} {W : World} {spare : Nat → Bool} {held : Bool} {fuel : Nat} {v : Value} {x : DataW H × List MemPlace}
    (hf : DataW.trod enc Tryd.prog W 0 spare held fuel 31 [v] = some x) : ∃ l, Lins W v l ∧ ∀ o ∈ l, o.wf := by
  rcases DataW.trod_slice Tryd.underlying31 hf with ⟨hcs, _⟩ | ⟨a, len', cap', elems, rest, n, rfl, hcs, hx, _, hl, hm, hel2, hcells, _⟩
  · simp at hcs
    subst hcs
    exact ⟨[], Row.nil _ _, by simp⟩
  · simp at hcs
    subst hcs
    rw [cellsLi] at hcells
    obtain ⟨xs, h1, h2, h3⟩ := row_of_each (f := Li.cells) (p := Li.wf) (sz := 3) (fun _ => rfl) hl hm (W := W) (a := a) (fun i hi => by
      have := hcells i hi
      rw [List.getElem?_eq_getElem (by omega)] at this
      obtain ⟨cs1, hc1, ht⟩ := Option.bind_eq_some_iff.1 this
      obtain ⟨hlen, m, hfs⟩ := fields_at Tryd.underlying44 (by kernel_rfl) (by kernel_rfl) ht
      obtain ⟨v0, y0, e0, t0⟩ := hfs 0 _ rfl
      obtain ⟨v1, y1, e1, t1⟩ := hfs 1 _ rfl
      obtain ⟨v2, y2, e2, t2⟩ := hfs 2 _ rfl
      obtain ⟨z0, r0, _, hw0⟩ := DataW.trod_string Tryd.underlying9 t0
      obtain ⟨z1, r1, _, hw1⟩ := DataW.trod_int Tryd.underlying3 t1
      obtain ⟨z2, r2, _, hw2⟩ := DataW.trod_int Tryd.underlying2 t2
      cases r0; cases r1; cases r2
      refine ⟨⟨z0, z1, z2⟩, ?_, hw0, hw1, hw2⟩
      rw [hc1]
      match cs1, hlen with
      | [c0, c1, c2], _ => simp at e0 e1 e2; subst e0 e1 e2; rfl)
    subst h1
    exact ⟨xs, h3, h2⟩


set_option maxHeartbeats 1000000 in
theorem rname_all (s : ByteArray) (w : World) (hs : s.size ≤ maxLen) :
    Calls Tryd.prog 41 #[.string s] w fun e w' => e = .returned (.bool (nameB s)) ∧ w' = w := by
  obtain ⟨x, hx⟩ : ∃ x, x = nameB s := ⟨_, rfl⟩
  rw [← hx]
  have HX := Lib.hid hx
  clear hx
  obtain ⟨n, HN⟩ : ∃ n, Hid (n = s.size) := ⟨_, Lib.hid rfl⟩
  have e0 : s.size = n := HN.out.symm
  have hn : n ≤ 9223372036854775807 := by rw [HN.out]; unfold maxLen at hs; omega
  clear hs
  have HL := Lib.hid (fun z w => rletter_any z w)
  have HD := Lib.hid (fun z w => rdigit_any z w)
  go_enter Tryd.func41, Tryd.ntmps41
  go_wp2
  go_loopw [3] (fun i wr => ∃ k : Nat, k ≤ n ∧ i = .int .i64 (k : Int) ∧ Hid (∀ j, j < k → chB (byt s j) = true) ∧ Hid (wr = w)) (fun i _ => n - (intOf i).toNat)
  case atStart => exact ⟨0, Nat.zero_le _, rfl, Lib.hid (fun j hj => by omega), Lib.hid rfl⟩
  case round =>
    obtain ⟨k, hk, rfl, hp, hw⟩ := hrel
    by_cases hlt : k < n
    · have l1 : (k : Int) < (n : Int) := by omega
      have HI := byt_run (P := Tryd.prog) 9 s k Tryd.underlying9 (by omega)
      have HC := Lib.hid (show chB (byt s k) = (letB (byt s k) || digB (byt s k) || byt s k == 45) from rfl)
      have HB := Lib.hid (fun h => name_bad (s := s) (k := k) (by omega) h)
      obtain ⟨z, hz⟩ : ∃ z, z = byt s k := ⟨_, rfl⟩
      rw [← hz] at HC HB
      rw [← hz] at HI
      have HZ := Lib.hid hz
      clear hz
      have HP := Lib.hid (show chB z = true → ∀ j, j < k + 1 → chB (byt s j) = true from fun h j hj => by
        by_cases e : j = k
        · subst e; rw [← HZ.out]; exact h
        · exact hp.out j (by omega))
      cases g1 : letB z with
      | true =>
        have HQ := Lib.hid (HP.out (by rw [HC.out, g1]; rfl))
        go_wp2_with fail
        refine (HL.out _ _).mono ?_
        rintro e w1 ⟨rfl, rfl⟩
        go_wp2
        go_roundw
        case rel => exact ⟨k + 1, by omega, by go_num, HQ, hw⟩
        case measure => simp [intOf]; omega
      | false =>
        cases g2 : digB z with
        | true =>
          have HQ := Lib.hid (HP.out (by rw [HC.out, g1, g2]; rfl))
          go_wp2_with fail
          refine (HL.out _ _).mono ?_
          rintro e w1 ⟨rfl, rfl⟩
          go_wp2_with fail
          refine (HD.out _ _).mono ?_
          rintro e w1 ⟨rfl, rfl⟩
          go_wp2
          go_roundw
          case rel => exact ⟨k + 1, by omega, by go_num, HQ, hw⟩
          case measure => simp [intOf]; omega
        | false =>
          cases g3 : (z == 45) with
          | true =>
            have g4 : (z != 45) = false := by simp [bne, g3]
            have HQ := Lib.hid (HP.out (by rw [HC.out, g1, g2, g3]; rfl))
            go_wp2_with fail
            refine (HL.out _ _).mono ?_
            rintro e w1 ⟨rfl, rfl⟩
            go_wp2_with fail
            refine (HD.out _ _).mono ?_
            rintro e w1 ⟨rfl, rfl⟩
            go_wp2
            go_roundw
            case rel => exact ⟨k + 1, by omega, by go_num, HQ, hw⟩
            case measure => simp [intOf]; omega
          | false =>
            have g4 : (z != 45) = true := by simp [bne, g3]
            have HR := Lib.hid (show x = false by rw [HX.out]; exact HB.out (by rw [HC.out, g1, g2, g3]; rfl))
            go_wp2_with fail
            refine (HL.out _ _).mono ?_
            rintro e w1 ⟨rfl, rfl⟩
            go_wp2_with fail
            refine (HD.out _ _).mono ?_
            rintro e w1 ⟨rfl, rfl⟩
            go_wp2
            go_ret
            exact ⟨by rw [HR.out]; rfl, hw.out⟩
    · obtain rfl : k = n := by omega
      have hw := hw
      by_cases h1 : k < 1
      · have d1 : decide ((1 : Int) ≤ (k : Int)) = false := by rw [decide_eq_false_iff_not]; omega
        have HR := Lib.hid (show x = false by rw [HX.out]; exact name_out (by omega))
        go_wp2
        go_ret
        exact ⟨by rw [HR.out]; rfl, hw.out⟩
      · have d1 : decide ((1 : Int) ≤ (k : Int)) = true := by rw [decide_eq_true_iff]; omega
        by_cases h2 : 16 < k
        · have d2 : decide ((k : Int) ≤ 16) = false := by rw [decide_eq_false_iff_not]; omega
          have HR := Lib.hid (show x = false by rw [HX.out]; exact name_out (by omega))
          go_wp2
          go_ret
          exact ⟨by rw [HR.out]; rfl, hw.out⟩
        · have d2 : decide ((k : Int) ≤ 16) = true := by rw [decide_eq_true_iff]; omega
          have HR := Lib.hid (show x = true by rw [HX.out, name_iff]; exact ⟨by omega, by omega, fun j hj => hp.out j (by omega)⟩)
          go_wp2
          go_ret
          exact ⟨by rw [HR.out]; rfl, hw.out⟩

/-- Is a text three great letters? -/
def upB (z : Int) : Bool := decide (65 ≤ z) && decide (z ≤ 90)
def curB (s : ByteArray) : Bool := decide (s.size = 3) && (upB (byt s 0) && (upB (byt s 1) && upB (byt s 2)))
theorem cur_iff (s : ByteArray) : curB s = true ↔ s.size = 3 ∧ ∀ k, k < 3 → upB (byt s k) = true := by
  unfold curB
  simp only [Bool.and_eq_true, decide_eq_true_eq]
  constructor
  · rintro ⟨h, h0, h1, h2⟩
    refine ⟨h, fun k hk => ?_⟩
    match k, hk with
    | 0, _ => exact h0
    | 1, _ => exact h1
    | 2, _ => exact h2
  · rintro ⟨h, hk⟩
    exact ⟨h, hk 0 (by omega), hk 1 (by omega), hk 2 (by omega)⟩
theorem cur_bad {s : ByteArray} {k : Nat} (hk : k < 3) (h : upB (byt s k) = false) : curB s = false := by
  rw [Bool.eq_false_iff]
  intro hm
  have := ((cur_iff s).1 hm).2 k hk
  rw [h] at this; cases this
theorem cur_out {s : ByteArray} (h : s.size ≠ 3) : curB s = false := by
  rw [Bool.eq_false_iff]
  intro hm
  exact h ((cur_iff s).1 hm).1

set_option maxHeartbeats 1000000 in
theorem iscur_any (s : ByteArray) (w : World) :
    Calls Tryd.prog 74 #[.string s] w fun e w' => e = .returned (.bool (curB s)) ∧ w' = w := by
  obtain ⟨x, hx⟩ : ∃ x, x = curB s := ⟨_, rfl⟩
  rw [← hx]
  have HX := Lib.hid hx
  clear hx
  obtain ⟨n, HN⟩ : ∃ n, Hid (n = s.size) := ⟨_, Lib.hid rfl⟩
  have e0 : s.size = n := HN.out.symm
  by_cases h3 : n = 3
  · subst h3
    go_enter Tryd.func74, Tryd.ntmps74
    go_wp2
    go_loopw [9] (fun i wr => ∃ k : Nat, k ≤ 3 ∧ i = .int .i64 (k : Int) ∧ Hid (∀ j, j < k → upB (byt s j) = true) ∧ Hid (wr = w)) (fun i _ => 3 - (intOf i).toNat)
    case atStart => exact ⟨0, Nat.zero_le _, rfl, Lib.hid (fun j hj => by omega), Lib.hid rfl⟩
    case round =>
      obtain ⟨k, hk, rfl, hp, hw⟩ := hrel
      by_cases hlt : k < 3
      · have l1 : (k : Int) < 3 := by omega
        have HI := byt_run (P := Tryd.prog) 9 s k Tryd.underlying9 (by omega)
        have HB := Lib.hid (fun h => cur_bad (s := s) (k := k) hlt h)
        have HP := Lib.hid (show upB (byt s k) = true → ∀ j, j < k + 1 → upB (byt s j) = true from fun h j hj => by
          by_cases e : j = k
          · subst e; exact h
          · exact hp.out j (by omega))
        have HU := Lib.hid (show upB (byt s k) = (decide (65 ≤ byt s k) && decide (byt s k ≤ 90)) from rfl)
        generalize byt s k = z at *
        by_cases g1 : z < 65
        · have d1 : decide (z < 65) = true := by rw [decide_eq_true_iff]; exact g1
          have HR := Lib.hid (show x = false by rw [HX.out]; exact HB.out (by rw [HU.out, show decide (65 ≤ z) = false by rw [decide_eq_false_iff_not]; omega]; rfl))
          go_wp2
          go_ret
          exact ⟨by rw [HR.out]; rfl, hw.out⟩
        · have d1 : decide (z < 65) = false := by rw [decide_eq_false_iff_not]; exact g1
          by_cases g2 : 90 < z
          · have d2 : decide (90 < z) = true := by rw [decide_eq_true_iff]; exact g2
            have HR := Lib.hid (show x = false by rw [HX.out]; exact HB.out (by rw [HU.out, show decide (z ≤ 90) = false by rw [decide_eq_false_iff_not]; omega]; simp))
            go_wp2
            go_ret
            exact ⟨by rw [HR.out]; rfl, hw.out⟩
          · have d2 : decide (90 < z) = false := by rw [decide_eq_false_iff_not]; exact g2
            have HQ := Lib.hid (HP.out (by rw [HU.out, show decide (65 ≤ z) = true by rw [decide_eq_true_iff]; omega, show decide (z ≤ 90) = true by rw [decide_eq_true_iff]; omega]; rfl))
            go_wp2
            go_roundw
            case rel => exact ⟨k + 1, by omega, by go_num, HQ, hw⟩
            case measure => simp [intOf]; omega
      · obtain rfl : k = 3 := by omega
        have HR := Lib.hid (show x = true by rw [HX.out, cur_iff]; exact ⟨e0, fun j hj => hp.out j hj⟩)
        go_wp2
        go_ret
        exact ⟨by rw [HR.out]; rfl, hw.out⟩
  · have HR := Lib.hid (show x = false by rw [HX.out]; exact cur_out (by omega))
    have d1 : ((n : Int) == 3) = false := by rw [beq_eq_false_iff_ne]; omega
    have d2 : ((n : Int) != 3) = true := by simp [bne, d1]
    go_enter Tryd.func74, Tryd.ntmps74
    go_wp2
    go_ret
    exact ⟨by rw [HR.out]; rfl, rfl⟩

set_option maxHeartbeats 1000000 in
theorem rcur_any (s : ByteArray) (w : World) :
    Calls Tryd.prog 57 #[.string s] w fun e w' => e = .returned (.bool (curB s)) ∧ w' = w := by
  obtain ⟨x, hx⟩ : ∃ x, x = curB s := ⟨_, rfl⟩
  rw [← hx]
  have HX := Lib.hid hx
  clear hx
  obtain ⟨n, HN⟩ : ∃ n, Hid (n = s.size) := ⟨_, Lib.hid rfl⟩
  have e0 : s.size = n := HN.out.symm
  by_cases h3 : n = 3
  · subst h3
    go_enter Tryd.func57, Tryd.ntmps57
    go_wp2
    go_loopw [3] (fun i wr => ∃ k : Nat, k ≤ 3 ∧ i = .int .i64 (k : Int) ∧ Hid (∀ j, j < k → upB (byt s j) = true) ∧ Hid (wr = w)) (fun i _ => 3 - (intOf i).toNat)
    case atStart => exact ⟨0, Nat.zero_le _, rfl, Lib.hid (fun j hj => by omega), Lib.hid rfl⟩
    case round =>
      obtain ⟨k, hk, rfl, hp, hw⟩ := hrel
      by_cases hlt : k < 3
      · have l1 : (k : Int) < 3 := by omega
        have HI := byt_run (P := Tryd.prog) 9 s k Tryd.underlying9 (by omega)
        have HB := Lib.hid (fun h => cur_bad (s := s) (k := k) hlt h)
        have HP := Lib.hid (show upB (byt s k) = true → ∀ j, j < k + 1 → upB (byt s j) = true from fun h j hj => by
          by_cases e : j = k
          · subst e; exact h
          · exact hp.out j (by omega))
        have HU := Lib.hid (show upB (byt s k) = (decide (65 ≤ byt s k) && decide (byt s k ≤ 90)) from rfl)
        generalize byt s k = z at *
        by_cases g1 : z < 65
        · have d1 : decide (z < 65) = true := by rw [decide_eq_true_iff]; exact g1
          have HR := Lib.hid (show x = false by rw [HX.out]; exact HB.out (by rw [HU.out, show decide (65 ≤ z) = false by rw [decide_eq_false_iff_not]; omega]; rfl))
          go_wp2
          go_ret
          exact ⟨by rw [HR.out]; rfl, hw.out⟩
        · have d1 : decide (z < 65) = false := by rw [decide_eq_false_iff_not]; exact g1
          by_cases g2 : 90 < z
          · have d2 : decide (90 < z) = true := by rw [decide_eq_true_iff]; exact g2
            have HR := Lib.hid (show x = false by rw [HX.out]; exact HB.out (by rw [HU.out, show decide (z ≤ 90) = false by rw [decide_eq_false_iff_not]; omega]; simp))
            go_wp2
            go_ret
            exact ⟨by rw [HR.out]; rfl, hw.out⟩
          · have d2 : decide (90 < z) = false := by rw [decide_eq_false_iff_not]; exact g2
            have HQ := Lib.hid (HP.out (by rw [HU.out, show decide (65 ≤ z) = true by rw [decide_eq_true_iff]; omega, show decide (z ≤ 90) = true by rw [decide_eq_true_iff]; omega]; rfl))
            go_wp2
            go_roundw
            case rel => exact ⟨k + 1, by omega, by go_num, HQ, hw⟩
            case measure => simp [intOf]; omega
      · obtain rfl : k = 3 := by omega
        have HR := Lib.hid (show x = true by rw [HX.out, cur_iff]; exact ⟨e0, fun j hj => hp.out j hj⟩)
        go_wp2
        go_ret
        exact ⟨by rw [HR.out]; rfl, hw.out⟩
  · have HR := Lib.hid (show x = false by rw [HX.out]; exact cur_out (by omega))
    have d1 : ((n : Int) == 3) = false := by rw [beq_eq_false_iff_ne]; omega
    have d2 : ((n : Int) != 3) = true := by simp [bne, d1]
    go_enter Tryd.func57, Tryd.ntmps57
    go_wp2
    go_ret
    exact ⟨by rw [HR.out]; rfl, rfl⟩


structure Od where
  n : ByteArray
  s : ByteArray
  b : ByteArray
  c : ByteArray
  f : ByteArray
  t : ByteArray
  term : Int
  lv : Value
  l : List Li
instance : Inhabited Od := ⟨⟨⟨#[]⟩, ⟨#[]⟩, ⟨#[]⟩, ⟨#[]⟩, ⟨#[]⟩, ⟨#[]⟩, 0, .slice none 0 0, []⟩⟩
def Od.cells (o : Od) : List Value := [.string o.n, .string o.s, .string o.b, .string o.c, .string o.f, .string o.t, .int .i64 o.term, o.lv]
def Od.val (o : Od) : Value := .agg o.cells.toArray
/-- An order that lies in memory. -/
structure OdOk (W : World) (o : Od) : Prop where
  row : Lins W o.lv o.l
  z1 : o.n.size ≤ maxLen
  z2 : o.s.size ≤ maxLen
  z3 : o.b.size ≤ maxLen
  z5 : o.f.size ≤ maxLen
  z6 : o.t.size ≤ maxLen
  wf : ∀ x ∈ o.l, x.wf
theorem OdOk.below {w w' : World} {o : Od} (h : OdOk w o) (hb : Below w.heap.size w w') : OdOk w' o := ⟨h.row.below hb, h.z1, h.z2, h.z3, h.z5, h.z6, h.wf⟩
theorem cellsOd : Tryd.prog.cellsOf 33 = 8 := by kernel_rfl
def Is33 (w : World) (v : Value) : Prop := ∃ o : Od, v = o.val ∧ OdOk w o
set_option maxRecDepth 20000 in
theorem open33 {H : Type} {enc : TypeId × Value → H} {W : World} {base : Nat} {v : Value} {d : DataW H} {p : List MemPlace} (hval : Value.okWide Tryd.prog W .any base 33 v)
    (h : DataW.Trod enc Tryd.prog W 0 (fun _ => true) true 33 v d p) : Is33 W v := by
  obtain ⟨⟨cs⟩, rfl, hsz⟩ := WideShapes.okWide_struct Tryd.underlying33 hval
  rw [cellsOd] at hsz
  obtain ⟨fuel, hf⟩ := h
  have hsz : cs.length = 8 := hsz
  match cs, hsz with
  | [c0, c1, c2, c3, c4, c5, c6, c7], _ =>
    have ht : DataW.trod enc Tryd.prog W 0 (fun _ => true) true fuel 33 [c0, c1, c2, c3, c4, c5, c6, c7] = some (d, p) := by simpa [Value.cells] using hf
    obtain ⟨_, m, hps⟩ := fields_at Tryd.underlying33 (by kernel_rfl) (by kernel_rfl) ht
    obtain ⟨v0, y0, e0, p0⟩ := hps 0 _ rfl
    obtain ⟨v1, y1, e1, p1⟩ := hps 1 _ rfl
    obtain ⟨v2, y2, e2, p2⟩ := hps 2 _ rfl
    obtain ⟨v3, y3, e3, p3⟩ := hps 3 _ rfl
    obtain ⟨v4, y4, e4, p4⟩ := hps 4 _ rfl
    obtain ⟨v5, y5, e5, p5⟩ := hps 5 _ rfl
    obtain ⟨v6, y6, e6, p6⟩ := hps 6 _ rfl
    obtain ⟨v7, y7, e7, p7⟩ := hps 7 _ rfl
    simp at e0 e1 e2 e3 e4 e5 e6 e7
    subst e0 e1 e2 e3 e4 e5 e6 e7
    obtain ⟨z0, r0, _, hw0⟩ := DataW.trod_string Tryd.underlying9 p0
    obtain ⟨z1, r1, _, hw1⟩ := DataW.trod_string Tryd.underlying9 p1
    obtain ⟨z2, r2, _, hw2⟩ := DataW.trod_string Tryd.underlying9 p2
    obtain ⟨z3, r3, _, hw3⟩ := DataW.trod_string Tryd.underlying9 p3
    obtain ⟨z4, r4, _, hw4⟩ := DataW.trod_string Tryd.underlying9 p4
    obtain ⟨z5, r5, _, hw5⟩ := DataW.trod_string Tryd.underlying9 p5
    obtain ⟨z6, r6, _, hw6⟩ := DataW.trod_int Tryd.underlying3 p6
    obtain ⟨ls, hls, hlw⟩ := lins_trod p7
    cases r0; cases r1; cases r2; cases r3; cases r4; cases r5; cases r6
    exact ⟨⟨z0, z1, z2, z3, z4, z5, z6, _, ls⟩, rfl, ⟨hls, hw0, hw1, hw2, hw4, hw5, hlw⟩⟩

/-- Is a line's good named ahead of line k? -/
def seenL (l : List Li) (k : Nat) (s : ByteArray) : Bool := (l.take k).any fun o => decide (o.t = s)
def lineAt (l : List Li) (k : Nat) : Bool := nameB (l.getD k default).t && (! seenL l k (l.getD k default).t && (decide (1 ≤ (l.getD k default).s) && (decide ((l.getD k default).s ≤ 1048576) && (decide (0 ≤ (l.getD k default).z) && decide ((l.getD k default).z ≤ 1073741824)))))
def linesB (l : List Li) : Bool := (List.range l.length).all (lineAt l)
theorem lines_iff (l : List Li) : linesB l = true ↔ ∀ k, k < l.length → lineAt l k = true := by simp [linesB]
theorem lines_bad {l : List Li} {k : Nat} (hk : k < l.length) (h : lineAt l k = false) : linesB l = false := by
  rw [Bool.eq_false_iff]
  intro hm
  have := (lines_iff l).1 hm k hk
  rw [h] at this; cases this
theorem seenL_zero (l : List Li) : (fun _ => false) = seenL l 0 := by funext s; simp [seenL]
theorem seenL_step {l : List Li} {k : Nat} (hk : k < l.length) : (fun u => if u = (l.getD k default).t then true else seenL l k u) = seenL l (k + 1) := by
  funext u
  have e : l.getD k default = l[k] := by rw [List.getD_eq_getElem?_getD, List.getElem?_eq_getElem hk]; rfl
  rw [e]
  unfold seenL
  rw [List.take_succ_eq_append_getElem hk, List.any_append]
  by_cases h : u = l[k].t
  · subst h; simp
  · rw [if_neg h]
    have h' : ¬ l[k].t = u := fun e => h e.symm
    simp [h']
/-- The five names, and what is asked besides of an order. -/
def Od.names (o : Od) : Bool := nameB o.n && (nameB o.s && (nameB o.b && (nameB o.f && nameB o.t)))
def Od.head (o : Od) : Bool := ! decide (o.s = o.b) && (curB o.c && (decide (0 ≤ o.term) && (decide (o.term ≤ 7) && (decide (1 ≤ o.l.length) && decide (o.l.length ≤ 64)))))
def Od.may (o : Od) : Bool := o.names && (o.head && linesB o.l)
/-- What the lines are worth. -/
def worthL (l : List Li) : List Int := l.map fun x => x.s * x.z
def cntL (l : List Li) : List Int := l.map fun x => x.s
def totL (l : List Li) : Int := (worthL l).sum
theorem line_nums {l : List Li} (h : linesB l = true) {x : Li} (hx : x ∈ l) : 1 ≤ x.s ∧ x.s ≤ 1048576 ∧ 0 ≤ x.z ∧ x.z ≤ 1073741824 := by
  obtain ⟨k, hk, rfl⟩ := List.mem_iff_getElem.1 hx
  have := (lines_iff l).1 h k hk
  unfold lineAt at this
  rw [List.getD_eq_getElem?_getD, List.getElem?_eq_getElem hk] at this
  simp only [Option.getD_some, Bool.and_eq_true, decide_eq_true_eq] at this
  omega
theorem worth_bd {x : Li} (h : 1 ≤ x.s ∧ x.s ≤ 1048576 ∧ 0 ≤ x.z ∧ x.z ≤ 1073741824) : 0 ≤ x.s * x.z ∧ x.s * x.z ≤ 1125899906842624 := by
  obtain ⟨h1, h2, h3, h4⟩ := h
  refine ⟨Int.mul_nonneg (by omega) h3, ?_⟩
  calc x.s * x.z ≤ 1048576 * 1073741824 := Int.mul_le_mul h2 h4 h3 (by omega)
    _ = 1125899906842624 := by decide
theorem worth_each {l : List Li} (h : linesB l = true) : ∀ z ∈ worthL l, 0 ≤ z ∧ z ≤ 1125899906842624 := by
  intro z hz
  obtain ⟨x, hx, rfl⟩ := List.mem_map.1 hz
  exact worth_bd (line_nums h hx)
theorem worth_len (l : List Li) : (worthL l).length = l.length := by simp [worthL]
theorem worth_get (l : List Li) (k : Nat) : (worthL l).getD k 0 = (l.getD k default).s * (l.getD k default).z := by
  simp only [worthL, List.getD_eq_getElem?_getD, List.getElem?_map]
  cases l[k]? <;> rfl
theorem cnt_get (l : List Li) (k : Nat) : (cntL l).getD k 0 = (l.getD k default).s := by
  simp only [cntL, List.getD_eq_getElem?_getD, List.getElem?_map]
  cases l[k]? <;> rfl
theorem may_apart {o : Od} (h : o.may = true) : o.names = true ∧ linesB o.l = true ∧ o.s ≠ o.b ∧ curB o.c = true ∧ 0 ≤ o.term ∧ o.term ≤ 7 ∧ 1 ≤ o.l.length ∧ o.l.length ≤ 64 := by
  unfold Od.may Od.head at h
  simp only [Bool.and_eq_true, Bool.not_eq_true', decide_eq_true_eq, decide_eq_false_iff_not] at h
  exact ⟨h.1, h.2.2, h.2.1.1, h.2.1.2.1, h.2.1.2.2.1, h.2.1.2.2.2.1, h.2.1.2.2.2.2.1, h.2.1.2.2.2.2.2⟩
end Go.Proofs.YtfkkkebegkhdfaaDoor
