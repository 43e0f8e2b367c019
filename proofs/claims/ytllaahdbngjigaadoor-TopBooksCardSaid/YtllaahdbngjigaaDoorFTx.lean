/-
  field: isName, may, Text.
-/
import Derived.Test.YtllaahdbngjigaaDoorMark
import Derived.Test.YtllaahdbngjigaaDoorSep
import Derived.Test.YtllaahdbngjigaaDoorShelf
namespace Go.Proofs.YtllaahdbngjigaaDoor
open Go Go.RowKit
set_option linter.unusedVariables false
set_option linter.unusedSimpArgs false

/-- A field. -/
structure Fd where
  n : ByteArray
  v : ByteArray
instance : Inhabited Fd := ⟨⟨⟨#[]⟩, ⟨#[]⟩⟩⟩
def Fd.cells (f : Fd) : List Value := [.string f.n, .string f.v]
theorem Fd.cells_len (f : Fd) : f.cells.length = 2 := rfl
def Fd.ok (f : Fd) : Prop := nameB f.n = true ∧ f.v.size ≤ 4096
/-- A slice of fields. -/
def Flds (w : World) (v : Value) (l : List Fd) : Prop := Row w v 2 l.length (l.flatMap Fd.cells)
theorem Flds.below {w w' : World} {v : Value} {l : List Fd} (h : Flds w v l) (hb : Below w.heap.size w w') : Flds w' v l := Row.below h hb
theorem Flds.shape {w : World} {v : Value} {l : List Fd} (h : Flds w v l) : ∃ ao cap, v = .slice ao l.length cap ∧ l.length ≤ cap ∧ cap ≤ maxLen ∧ (ao = none → cap = 0) := by
  obtain ⟨_, ao, cap, h1, h2, h3, h4, _⟩ := h
  exact ⟨ao, cap, h1, h2, h3, h4⟩
theorem Flds.get {w : World} {ao : Option Addr} {n cap : Nat} {l : List Fd} (h : Flds w (.slice ao n cap) l) (hn : n = l.length) (hp : 0 < n) :
    ∃ b off, ao = some ⟨b, off, none⟩ ∧ b < w.heap.size ∧ ∀ k (hk : k < l.length), w.cell? ⟨b, off + k * 2, none⟩ = some (.string l[k].n) ∧ w.cell? ⟨b, off + k * 2 + 1, none⟩ = some (.string l[k].v) := by
  have hl : (l.flatMap Fd.cells).length = l.length * 2 := flat_len (f := Fd.cells) (sz := 2) (fun _ => rfl) l
  obtain ⟨b, off, cap', e, h2, h3, h4, h5⟩ := Row.at h (by omega)
  cases e
  refine ⟨b, off, rfl, h4, fun k hk => ?_⟩
  have key : ∀ j, (hj : j < 2) → w.cell? ⟨b, off + (k * 2 + j), none⟩ = (Fd.cells l[k])[j]? := fun j hj => by
    have e := flat_get (f := Fd.cells) (sz := 2) (fun _ => rfl) l k j hk hj
    rw [← e, h5 (k * 2 + j) (by rw [hl]; omega), ← List.getElem?_eq_getElem]
  exact ⟨key 0 (by omega), key 1 (by omega)⟩

def esc1 (c : UInt8) : List UInt8 := if c = 92 then [92, 92] else if c = 10 then [92, 110] else [c]
def escL (l : List UInt8) : List UInt8 := l.flatMap esc1
def lineL (f : Fd) : List UInt8 := f.n.data.toList ++ [61] ++ escL f.v.data.toList ++ [10]
/-- The text of a record. -/
def textL (l : List Fd) : List UInt8 := l.flatMap lineL
def textB (l : List Fd) : ByteArray := ⟨(textL l).toArray⟩
theorem esc1_len (c : UInt8) : (esc1 c).length ≤ 2 := by unfold esc1; split <;> (try split) <;> simp
theorem escL_len (l : List UInt8) : (escL l).length ≤ 2 * l.length := by
  induction l with
  | nil => simp [escL]
  | cons c l ih =>
    have := esc1_len c
    simp only [escL, List.flatMap_cons, List.length_append, List.length_cons] at *
    omega
theorem lineL_len {f : Fd} (h : f.ok) : (lineL f).length ≤ 8300 := by
  have h1 := ((name_iff f.n).1 h.1).2.1
  have h2 := escL_len f.v.data.toList
  have h3 := h.2
  have e1 : f.n.data.toList.length = f.n.size := Array.length_toList
  have e2 : f.v.data.toList.length = f.v.size := Array.length_toList
  simp only [lineL, List.length_append, List.length_singleton]
  omega
theorem textL_len (l : List Fd) (h : ∀ f ∈ l, f.ok) : (textL l).length ≤ 8300 * l.length := by
  induction l with
  | nil => simp [textL]
  | cons f l ih =>
    have h1 := lineL_len (h f (by simp))
    have h2 := ih (fun g hg => h g (by simp [hg]))
    simp only [textL, List.flatMap_cons, List.length_append, List.length_cons] at *
    omega
theorem textL_snoc (l : List Fd) (k : Nat) (hk : k < l.length) : textL (l.take (k + 1)) = textL (l.take k) ++ lineL l[k] := by
  unfold textL
  rw [List.take_succ_eq_append_getElem hk, List.flatMap_append, List.flatMap_cons, List.flatMap_nil, List.append_nil]
theorem escL_snoc (l : List UInt8) (k : Nat) (hk : k < l.length) : escL (l.take (k + 1)) = escL (l.take k) ++ esc1 l[k] := by
  unfold escL
  rw [List.take_succ_eq_append_getElem hk, List.flatMap_append, List.flatMap_cons, List.flatMap_nil, List.append_nil]

set_option maxHeartbeats 1000000 in
theorem fname_ok (s : ByteArray) (h : nameB s = true) (w : World) :
    Calls Tryd.prog 102 #[.string s] w fun e w' => e = .returned (.bool true) ∧ w' = w := by
  obtain ⟨h1, h2, h3⟩ := (name_iff s).1 h
  obtain ⟨n, HN⟩ : ∃ n, Hid (n = s.size) := ⟨_, Lib.hid rfl⟩
  have e0 : s.size = n := HN.out.symm
  rw [e0] at h1 h2 h3
  have d1 : decide ((n : Int) < 1) = false := by rw [decide_eq_false_iff_not]; omega
  have d2 : decide ((16 : Int) < (n : Int)) = false := by rw [decide_eq_false_iff_not]; omega
  have H3 := Lib.hid h3
  clear h h3
  go_enter Tryd.func102, Tryd.ntmps102
  go_wp2
  go_loopw [15] (fun i wr => ∃ k : Nat, k ≤ n ∧ i = .int .i64 (k : Int) ∧ Hid (wr = w)) (fun i _ => n - (intOf i).toNat)
  case atStart => exact ⟨0, Nat.zero_le _, rfl, Lib.hid rfl⟩
  case round =>
    obtain ⟨k, hk, rfl, hw⟩ := hrel
    by_cases hlt : k < n
    · have l1 : (k : Int) < (n : Int) := by omega
      have HI := byt_run (P := Tryd.prog) 9 s k Tryd.underlying9 (by omega)
      have hc := H3.out k hlt
      obtain ⟨z, hz⟩ : ∃ z, z = byt s k := ⟨_, rfl⟩
      rw [← hz] at hc HI
      simp only [chB, letB, digB, Bool.or_eq_true, Bool.and_eq_true, decide_eq_true_eq, beq_iff_eq] at hc
      clear hz
      by_cases g1 : z < 97
      · have e1 : decide (z < 97) = true := by rw [decide_eq_true_iff]; exact g1
        by_cases g2 : z < 48
        · obtain rfl : z = 45 := by omega
          go_wp2
          go_roundw
          case rel => exact ⟨k + 1, by omega, by go_num, hw⟩
          case measure => simp [intOf]; omega
        · have e2 : decide (z < 48) = false := by rw [decide_eq_false_iff_not]; exact g2
          have e3 : decide (57 < z) = false := by rw [decide_eq_false_iff_not]; omega
          clear hc g1 g2
          go_wp2
          go_roundw
          case rel => exact ⟨k + 1, by omega, by go_num, hw⟩
          case measure => simp [intOf]; omega
      · have e1 : decide (z < 97) = false := by rw [decide_eq_false_iff_not]; exact g1
        have e2 : decide (122 < z) = false := by rw [decide_eq_false_iff_not]; omega
        clear hc g1
        go_wp2
        go_roundw
        case rel => exact ⟨k + 1, by omega, by go_num, hw⟩
        case measure => simp [intOf]; omega
    · obtain rfl : k = n := by omega
      go_wp2
      go_ret
      exact ⟨rfl, hw.out⟩
theorem fmay_ok (f : Fd) (h : f.ok) (w : World) :
    Calls Tryd.prog 78 #[.agg #[.string f.n, .string f.v]] w fun e w' => e = .returned (.bool true) ∧ Below w.heap.size w w' := by
  have HN := Lib.hid (fun w => fname_ok f.n h.1 w)
  have d1 : decide ((f.v.size : Int) ≤ 4096) = true := by rw [decide_eq_true_iff]; have := h.2; omega
  clear h
  have hA := Lib.hid ((Below.refl w.heap.size w).alloc (Nat.le_refl _) (.cells #[.string f.n, .string f.v] 54))
  obtain ⟨fn, fv⟩ := f
  go_enter Tryd.func78, Tryd.ntmps78
  go_wp2_with fail
  refine (HN.out _).mono ?_
  rintro e w1 ⟨rfl, rfl⟩
  go_wp2
  go_ret
  exact ⟨rfl, hA.out⟩

theorem bld_below {T e : TypeId} {B b : Nat} {bs : List Value} {w w' : World} (h : Lib.IsBuilderF T e B b bs w) (hb : Below w.heap.size w w') : Lib.IsBuilderF T e B b bs w' := by
  have key : ∀ p, Lib.BuilderAtF T e B b p bs w → Lib.BuilderAtF T e B b p bs w' := by
    intro p hp
    obtain ⟨hB, v, h1, h2, h3⟩ := hp
    refine ⟨hB, v, (hb.block b (lt_of_block h1)).trans h1, ?_, h3⟩
    obtain ⟨hl, h⟩ := h2
    refine ⟨hl, h.imp id (fun ⟨g, cap, cur, fz, a1, a2, a3, a4⟩ => ⟨g, cap, cur, fz, a1, a2, (hb.block g (lt_of_block a3)).trans a3, a4⟩)⟩
  exact h.imp (key _) (key _)
theorem kept_at {e T : TypeId} {b k : Nat} {cs : Array Value} {w w' : World} (h : Lib.OthersKept e (some b) w w') (hk : w.heap[k]? = some (.cells cs T (0, 0))) (hb : k ≠ b) (hT : T ≠ e) : w'.heap[k]? = some (.cells cs T (0, 0)) :=
  h k _ hk (fun e => hb (by injection e)) (fun c fz e => by injection e with _ e2; exact hT e2)

/-- What a text's writer holds, and what it has not touched. -/
def BldI (w0 : World) (b : Nat) (l : List UInt8) (w : World) : Prop := Lib.IsBuilderF 142 5 b b (Lib.byteCells l) w ∧ Below b w0 w ∧ b < w.heap.size
theorem BldI.step {w0 w w' : World} {b : Nat} {l l' : List UInt8} {bs : List Value} (h : BldI w0 b l w) (h1 : Lib.BuilderAtF 142 5 b b (.pointer (some ⟨b, 0, none⟩)) bs w') (h2 : Below b w w') (e : bs = Lib.byteCells l') : BldI w0 b l' w' :=
  ⟨.inr (e ▸ h1), h.2.1.trans h2, Nat.lt_of_lt_of_le h.2.2 h2.size⟩
theorem BldI.later {w0 w w' : World} {b : Nat} {l : List UInt8} (h : BldI w0 b l w) (hb : Below w.heap.size w w') : BldI w0 b l w' :=
  ⟨bld_below h.1 hb, h.2.1.trans (hb.mono (Nat.le_of_lt h.2.2)), Nat.lt_of_lt_of_le h.2.2 hb.size⟩

set_option maxRecDepth 20000 in
set_option maxHeartbeats 4000000 in
theorem text_ok (ao : Option Addr) (n cap : Nat) (l : List Fd) (w : World) (h : Flds w (.slice ao n cap) l) (hn : n = l.length) (hl : n ≤ 64) (hok : ∀ f ∈ l, f.ok) :
    Calls Tryd.prog 49 #[.slice ao n cap] w fun e w' => e = .returned (.tuple #[.string (textB l), .int .i64 0]) ∧ Below w.heap.size w w' := by
  have HF := Lib.hid h
  have HN := Lib.hid hn
  have HO := Lib.hid hok
  have HMay := Lib.hid (fun f hf w => fmay_ok f hf w)
  have HS := Lib.hid (fun b bs s w h1 h2 h3 => bld_str b b bs s w h1 h2 h3)
  have HBy := Lib.hid (fun b bs c w h1 h2 h3 => bld_byte b b bs c w h1 h2 h3)
  have HOut := Lib.hid (fun b l w h1 h2 => bld_out b b l w h1 h2)
  have H0 := Lib.hid (show BldI w w.heap.size [] (w.alloc (.cells #[.pointer none, .slice none 0 0] 142)) from
    ⟨Lib.IsBuilderF.of (Lib.fresh_isBuilder _ _ w), (Below.refl _ _).alloc (Nat.le_refl _) _, by simp⟩)
  clear h hn hok
  go_enter Tryd.func49, Tryd.ntmps49
  go_wp2_with fail
  go_loopw [13] (fun i wr => ∃ k : Nat, k ≤ n ∧ i = .int .i64 (k : Int) ∧ Hid (BldI w w.heap.size (textL (l.take k)) wr)) (fun i _ => n - (intOf i).toNat)
  case atStart => exact ⟨0, Nat.zero_le _, rfl, H0⟩
  case round =>
    obtain ⟨k, hk, rfl, HB⟩ := hrel
    by_cases hlt : k < n
    · have l1 : (k : Int) < (n : Int) := by omega
      have l0 : (0 : Int) ≤ (k : Int) := by omega
      obtain ⟨b, off, rfl, _, hc⟩ := HF.out.get HN.out (by omega)
      have hkl : k < l.length := by rw [← HN.out]; exact hlt
      have c0 := (HB.out.2.1.cell (p := ⟨b, off + k * 2, none⟩) (by assumption)).trans (hc k hkl).1
      have c1 := (HB.out.2.1.cell (p := ⟨b, off + k * 2 + 1, none⟩) (by assumption)).trans (hc k hkl).2
      have HOk := Lib.hid (HO.out _ (List.getElem_mem hkl))
      have HT := Lib.hid (textL_snoc l k hkl)
      clear hc
      generalize l[k] = f at *
      have hv := HOk.out.2
      have HLen := Lib.hid (show (textL (l.take k)).length ≤ 531200 from by
        have h1 := textL_len (l.take k) (fun f hf => HO.out f (List.mem_of_mem_take hf))
        have h2 : (l.take k).length ≤ k := List.length_take_le _ _
        omega)
      have hA := (Below.refl wr.heap.size wr).alloc (Nat.le_refl _) (.cells #[.string f.n, .string f.v] 54)
      have HX := Lib.hid (heap_alloc_new wr (.cells #[.string f.n, .string f.v] 54))
      have HBA := Lib.hid (HB.out.later hA)
      have HNe := Lib.hid (show wr.heap.size ≠ w.heap.size from fun e => by have := HB.out.2.2; omega)
      clear hA
      go_wp2_with fail
      generalize wr.alloc (.cells #[.string f.n, .string f.v] 54) = wA at *
      generalize wr.heap.size = bx at *
      refine (HMay.out f HOk.out _).mono ?_
      rintro e w1 ⟨rfl, hb1⟩
      have HB1 := Lib.hid (HBA.out.later hb1)
      have HX1 := Lib.hid ((hb1.block _ (lt_of_block HX.out)).trans HX.out)
      clear hb1 HBA HX c0 c1
      have x0 : w1.cell? ⟨bx, 0, none⟩ = some (.string f.n) := Lib.cell_of_heap HX1.out 0
      have x1 : w1.cell? ⟨bx, 1, none⟩ = some (.string f.v) := Lib.cell_of_heap HX1.out 1
      go_wp2_with fail
      refine (HS.out _ _ _ _ HB1.out.1 (by
        have h1 := ((name_iff f.n).1 HOk.out.1).2.1
        have h2 := HLen.out
        rw [Lib.byteCells_length]; omega) (Nat.le_of_lt HB1.out.2.2)).mono ?_
      rintro e w2 ⟨rfl, h2, hb2, hk2⟩
      have HB2 := Lib.hid (HB1.out.step (l' := textL (l.take k) ++ f.n.data.toList) h2 hb2 (by rw [Lib.byteCells_append]; rfl))
      have HX2 := Lib.hid (kept_at hk2 HX1.out HNe.out (by decide))
      clear h2 hb2 hk2 x0 x1 HX1 HB1
      have x0 : w2.cell? ⟨bx, 0, none⟩ = some (.string f.n) := Lib.cell_of_heap HX2.out 0
      have x1 : w2.cell? ⟨bx, 1, none⟩ = some (.string f.v) := Lib.cell_of_heap HX2.out 1
      go_wp2_with fail
      refine (HBy.out _ _ _ _ HB2.out.1 (by
        have h1 := ((name_iff f.n).1 HOk.out.1).2.1
        have h2 := HLen.out
        have h3 : f.n.data.toList.length = f.n.size := Array.length_toList
        rw [Lib.byteCells_length, List.length_append]; omega) (Nat.le_of_lt HB2.out.2.2)).mono ?_
      rintro e w3 ⟨rfl, h2, hb2, hk2⟩
      have HB3 := Lib.hid (HB2.out.step (l' := textL (l.take k) ++ f.n.data.toList ++ [61]) h2 hb2 (by rw [Lib.byteCells_append (textL (l.take k) ++ f.n.data.toList)]; rfl))
      have HX3 := Lib.hid (kept_at hk2 HX2.out HNe.out (by decide))
      clear h2 hb2 hk2 x0 x1 HX2 HB2
      have x0 : w3.cell? ⟨bx, 0, none⟩ = some (.string f.n) := Lib.cell_of_heap HX3.out 0
      have x1 : w3.cell? ⟨bx, 1, none⟩ = some (.string f.v) := Lib.cell_of_heap HX3.out 1
      go_wp2_with fail
      clear x0 x1
      go_loopw [27] (fun i wr => ∃ j : Nat, j ≤ f.v.size ∧ i = .int .i64 (j : Int) ∧ Hid (BldI w w.heap.size (textL (l.take k) ++ f.n.data.toList ++ [61] ++ escL (f.v.data.toList.take j)) wr ∧ wr.heap[bx]? = some (.cells #[.string f.n, .string f.v] 54 (0, 0)))) (fun i _ => f.v.size - (intOf i).toNat)
      case atStart => exact ⟨0, Nat.zero_le _, rfl, Lib.hid ⟨by simpa [escL] using HB3.out, HX3.out⟩⟩
      case round =>
        obtain ⟨j, hj, rfl, HJ⟩ := hrel
        have x0 : wr.cell? ⟨bx, 0, none⟩ = some (.string f.n) := Lib.cell_of_heap HJ.out.2 0
        have x1 : wr.cell? ⟨bx, 1, none⟩ = some (.string f.v) := Lib.cell_of_heap HJ.out.2 1
        by_cases hjl : j < f.v.size
        · obtain ⟨c, hcv⟩ : ∃ c, f.v[j] = c := ⟨_, rfl⟩
          have HE := Lib.hid (show escL (f.v.data.toList.take (j + 1)) = escL (f.v.data.toList.take j) ++ esc1 c from by
            rw [escL_snoc _ j hjl, ← hcv]; rfl)
          have HL2 := Lib.hid (show (textL (l.take k) ++ f.n.data.toList ++ [61] ++ escL (f.v.data.toList.take j)).length ≤ 600000 from by
            have h1 := ((name_iff f.n).1 HOk.out.1).2.1
            have h2 := HLen.out
            have h3 : f.n.data.toList.length = f.n.size := Array.length_toList
            have h4 := escL_len (f.v.data.toList.take j)
            have h5 : (f.v.data.toList.take j).length ≤ j := List.length_take_le _ _
            have h6 := HOk.out.2
            simp only [List.length_append, List.length_singleton]; omega)
          by_cases g1 : c = 92
          · subst g1
            have d1 : (((92 : UInt8).toNat : Int) == 92) = true := by decide
            go_wp2_with fail
            refine (HS.out _ _ _ _ HJ.out.1.1 (by
              have h2 := HL2.out
              rw [Lib.byteCells_length]
              have : (⟨#[92, 92]⟩ : ByteArray).size = 2 := rfl
              omega) (Nat.le_of_lt HJ.out.1.2.2)).mono ?_
            rintro e w4 ⟨rfl, h2, hb2, hk2⟩
            have HB4 := Lib.hid (HJ.out.1.step (l' := textL (l.take k) ++ f.n.data.toList ++ [61] ++ escL (f.v.data.toList.take (j + 1))) h2 hb2 (by rw [HE.out, ← List.append_assoc, Lib.byteCells_append (_ ++ escL _)]; rfl))
            have HX4 := Lib.hid (kept_at hk2 HJ.out.2 HNe.out (by decide))
            clear h2 hb2 hk2 x0 x1
            go_wp2
            go_roundw
            case rel => exact ⟨j + 1, by omega, by go_num, Lib.hid ⟨HB4.out, HX4.out⟩⟩
            case measure => simp [intOf]; omega
          · have d1 : ((c.toNat : Int) == 92) = false := by
              rw [beq_eq_false_iff_ne]
              intro e
              exact g1 (UInt8.toNat_inj.1 (by simp; omega))
            by_cases g2 : c = 10
            · subst g2
              have d2 : (((10 : UInt8).toNat : Int) == 10) = true := by decide
              go_wp2_with fail
              refine (HS.out _ _ _ _ HJ.out.1.1 (by
                have h2 := HL2.out
                rw [Lib.byteCells_length]
                have : (⟨#[92, 110]⟩ : ByteArray).size = 2 := rfl
                omega) (Nat.le_of_lt HJ.out.1.2.2)).mono ?_
              rintro e w4 ⟨rfl, h2, hb2, hk2⟩
              have HB4 := Lib.hid (HJ.out.1.step (l' := textL (l.take k) ++ f.n.data.toList ++ [61] ++ escL (f.v.data.toList.take (j + 1))) h2 hb2 (by rw [HE.out, ← List.append_assoc, Lib.byteCells_append (_ ++ escL _)]; rfl))
              have HX4 := Lib.hid (kept_at hk2 HJ.out.2 HNe.out (by decide))
              clear h2 hb2 hk2 x0 x1
              go_wp2
              go_roundw
              case rel => exact ⟨j + 1, by omega, by go_num, Lib.hid ⟨HB4.out, HX4.out⟩⟩
              case measure => simp [intOf]; omega
            · have d2 : ((c.toNat : Int) == 10) = false := by
                rw [beq_eq_false_iff_ne]
                intro e
                exact g2 (UInt8.toNat_inj.1 (by simp; omega))
              have HC := Lib.hid (show esc1 c = [c] by unfold esc1; rw [if_neg g1, if_neg g2])
              clear g1 g2
              go_wp2_with fail
              refine (HBy.out _ _ _ _ HJ.out.1.1 (by
                have h2 := HL2.out
                rw [Lib.byteCells_length]
                omega) (Nat.le_of_lt HJ.out.1.2.2)).mono ?_
              rintro e w4 ⟨rfl, h2, hb2, hk2⟩
              have HB4 := Lib.hid (HJ.out.1.step (l' := textL (l.take k) ++ f.n.data.toList ++ [61] ++ escL (f.v.data.toList.take (j + 1))) h2 hb2 (by rw [HE.out, ← List.append_assoc, Lib.byteCells_append (_ ++ escL _), HC.out]; rfl))
              have HX4 := Lib.hid (kept_at hk2 HJ.out.2 HNe.out (by decide))
              clear h2 hb2 hk2 x0 x1
              go_wp2
              go_roundw
              case rel => exact ⟨j + 1, by omega, by go_num, Lib.hid ⟨HB4.out, HX4.out⟩⟩
              case measure => simp [intOf]; omega
        · obtain rfl : j = f.v.size := by omega
          have HL2 := Lib.hid (show (textL (l.take k) ++ f.n.data.toList ++ [61] ++ escL (f.v.data.toList.take f.v.size)).length ≤ 600000 from by
            have h1 := ((name_iff f.n).1 HOk.out.1).2.1
            have h2 := HLen.out
            have h3 : f.n.data.toList.length = f.n.size := Array.length_toList
            have h4 := escL_len (f.v.data.toList.take f.v.size)
            have h5 : (f.v.data.toList.take f.v.size).length ≤ f.v.size := List.length_take_le _ _
            have h6 := HOk.out.2
            simp only [List.length_append, List.length_singleton]; omega)
          go_wp2_with fail
          refine (HBy.out _ _ _ _ HJ.out.1.1 (by
            have h2 := HL2.out
            rw [Lib.byteCells_length]
            omega) (Nat.le_of_lt HJ.out.1.2.2)).mono ?_
          rintro e w4 ⟨rfl, h2, hb2, hk2⟩
          have HB4 := Lib.hid (HJ.out.1.step (l' := textL (l.take (k + 1))) h2 hb2 (by
            rw [HT.out, List.take_of_length_le (show f.v.data.toList.length ≤ f.v.size from Nat.le_of_eq Array.length_toList)]
            unfold lineL
            simp only [← List.append_assoc]
            rw [Lib.byteCells_append (_ ++ escL _)]; rfl))
          clear h2 hb2 hk2 x0 x1
          go_wp2
          go_roundw
          case rel => exact ⟨k + 1, by omega, by go_num, HB4⟩
          case measure => simp [intOf]; omega
    · obtain rfl : k = n := by omega
      go_wp2_with fail
      refine (HOut.out _ _ _ HB.out.1 (Nat.le_of_lt HB.out.2.2)).mono ?_
      rintro e w1 ⟨rfl, _, hb, _⟩
      have HE := Lib.hid (show (⟨(textL (l.take k)).toArray⟩ : ByteArray) = textB l by unfold textB; rw [List.take_of_length_le (by rw [HN.out]; exact Nat.le_refl _)])
      rw [HE.out]
      have HB1 := Lib.hid (HB.out.2.1.trans hb)
      clear hb
      go_wp2
      go_ret2
      exact ⟨rfl, HB1.out⟩
end Go.Proofs.YtllaahdbngjigaaDoor
