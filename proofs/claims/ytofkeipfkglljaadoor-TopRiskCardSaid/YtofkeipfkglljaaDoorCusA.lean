/-
  Custody: names, days, a chain of one box.
-/
import Derived.Test.YtofkeipfkglljaaDoorMark
import Derived.Test.YtofkeipfkglljaaDoorBear
import Derived.Test.YtofkeipfkglljaaDoorAppRow
import Derived.Deep.RegionLaw
import Derived.Deep.DeepCutAuto
namespace Go.Proofs.YtofkeipfkglljaaDoor
open Go Go.RowKit
set_option linter.unusedVariables false
set_option linter.unusedSimpArgs false

set_option maxHeartbeats 1000000 in
theorem cname_ok (s : ByteArray) (h : nameB s = true) (w : World) :
    Calls Tryd.prog 29 #[.string s] w fun e w' => e = .returned (.bool true) ∧ w' = w := by
  obtain ⟨h1, h2, h3⟩ := (name_iff s).1 h
  obtain ⟨n, HN⟩ : ∃ n, Hid (n = s.size) := ⟨_, Lib.hid rfl⟩
  have e0 : s.size = n := HN.out.symm
  rw [e0] at h1 h2 h3
  have d1 : decide ((n : Int) < 1) = false := by rw [decide_eq_false_iff_not]; omega
  have d2 : decide ((16 : Int) < (n : Int)) = false := by rw [decide_eq_false_iff_not]; omega
  have H3 := Lib.hid h3
  clear h h3
  go_enter Tryd.func29, Tryd.ntmps29
  go_wp2
  go_loopw [15] (fun i wr => ∃ k : Nat, k ≤ n ∧ i = .int .i64 (k : Int) ∧ Hid (wr = w)) (fun i _ => n - (intOf i).toNat)
  case atStart => exact ⟨0, Nat.zero_le _, rfl, Lib.hid rfl⟩
  case round =>
    obtain ⟨k, hk, rfl, hw⟩ := hrel
    by_cases hlt : k < n
    · have l1 : (k : Int) < (n : Int) := by omega
      have HI := byt_run (P := Tryd.prog) 9 s k Tryd.underlying9 (by omega)
      have hc := H3.out k hlt
      obtain ⟨z, hz⟩ : ∃ z, z = byt s k := ⟨_, rfl⟩
      rw [← hz] at hc HI
      simp only [chB, letB, digB, Bool.or_eq_true, Bool.and_eq_true, decide_eq_true_eq, beq_iff_eq] at hc
      clear hz
      by_cases g1 : z < 97
      · have e1 : decide (z < 97) = true := by rw [decide_eq_true_iff]; exact g1
        by_cases g2 : z < 48
        · obtain rfl : z = 45 := by omega
          go_wp2
          go_roundw
          case rel => exact ⟨k + 1, by omega, by go_num, hw⟩
          case measure => simp [intOf]; omega
        · have e2 : decide (z < 48) = false := by rw [decide_eq_false_iff_not]; exact g2
          have e3 : decide (57 < z) = false := by rw [decide_eq_false_iff_not]; omega
          clear hc g1 g2
          go_wp2
          go_roundw
          case rel => exact ⟨k + 1, by omega, by go_num, hw⟩
          case measure => simp [intOf]; omega
      · have e1 : decide (z < 97) = false := by rw [decide_eq_false_iff_not]; exact g1
        have e2 : decide (122 < z) = false := by rw [decide_eq_false_iff_not]; omega
        clear hc g1
        go_wp2
        go_roundw
        case rel => exact ⟨k + 1, by omega, by go_num, hw⟩
        case measure => simp [intOf]; omega
    · obtain rfl : k = n := by omega
      go_wp2
      go_ret
      exact ⟨rfl, hw.out⟩

/-- Texts in a row. -/
def Txs (w : World) (v : Value) (ss : List ByteArray) : Prop := Row w v 1 ss.length (ss.map Value.string)
theorem Txs.get {w : World} {ao : Option Addr} {n cap : Nat} {ss : List ByteArray} (h : Txs w (.slice ao n cap) ss) (hn : n = ss.length) (hp : 0 < n) : ∃ b off, ao = some ⟨b, off, none⟩ ∧ ∀ k (hk : k < ss.length), w.cell? ⟨b, off + k, none⟩ = some (.string ss[k]) := by
  obtain ⟨b, off, cap', e, _, _, h4, h5⟩ := Row.at h (by simp; omega)
  cases e
  refine ⟨b, off, rfl, fun k hk => ?_⟩
  have := h5 k (by simpa using hk)
  rw [this]; simp
set_option maxHeartbeats 1000000 in
theorem names_ok (ao : Option Addr) (n cap : Nat) (ss : List ByteArray) (w : World) (h : Txs w (.slice ao n cap) ss) (hn : n = ss.length) (h4 : n ≤ 4) (hs : ∀ s ∈ ss, nameB s = true) :
    Calls Tryd.prog 14 #[.slice ao n cap] w fun e w' => e = .returned (.bool true) ∧ w' = w := by
  have H := Lib.hid h
  have HN := Lib.hid hn
  have HC := Lib.hid (fun s hs w => cname_ok s hs w)
  have HS := Lib.hid hs
  clear h hn hs
  go_enter Tryd.func14, Tryd.ntmps14
  go_wp2
  go_loopw [7] (fun i wr => ∃ k : Nat, k ≤ n ∧ i = .int .i64 (k : Int) ∧ Hid (wr = w)) (fun i _ => n - (intOf i).toNat)
  case atStart => exact ⟨0, Nat.zero_le _, rfl, Lib.hid rfl⟩
  case round =>
    obtain ⟨k, hk, rfl, hw⟩ := hrel
    have hwe := hw.out
    subst hwe
    by_cases hlt : k < n
    · have l1 : (k : Int) < (n : Int) := by omega
      have l0 : (0 : Int) ≤ (k : Int) := by omega
      obtain ⟨b, off, rfl, hc⟩ := H.out.get HN.out (by omega)
      have hkl : k < ss.length := by rw [← HN.out]; exact hlt
      have c0 := hc k hkl
      have HCk := Lib.hid (HC.out ss[k] (HS.out _ (List.getElem_mem hkl)))
      generalize ss[k] = s at *
      clear hc
      go_wp2_with fail
      refine (HCk.out _).mono ?_
      rintro e w1 ⟨rfl, rfl⟩
      go_wp2
      go_roundw
      case rel => exact ⟨k + 1, by omega, by go_num, Lib.hid (by first | trivial | rfl)⟩
      case measure => simp [intOf]; omega
    · obtain rfl : k = n := by omega
      go_wp2
      go_ret
      exact ⟨rfl, rfl⟩
theorem isday_ok (d : Int) (h0 : 0 ≤ d) (h1 : d ≤ 1048576) (w : World) :
    Calls Tryd.prog 15 #[.int .i64 d] w fun e w' => e = .returned (.bool true) ∧ w' = w := by
  have d1 : decide (0 ≤ d) = true := by rw [decide_eq_true_iff]; exact h0
  have d2 : decide (d ≤ 1048576) = true := by rw [decide_eq_true_iff]; exact h1
  go_enter Tryd.func15, Tryd.ntmps15
  go_wp2
  go_ret
  exact ⟨rfl, rfl⟩

/-- The box's name. -/
def tBox : ByteArray := ⟨#[98, 111, 120]⟩
theorem fB0 (w : World) : (Instr.findKey 9 (.string ⟨#[98, 111, 120]⟩) []).run Tryd.prog w = .ok none w := by kernel_rfl
theorem fB1 (v : Value) (n : Nat) (w : World) : (Instr.findKey 9 (.string ⟨#[98, 111, 120]⟩) [⟨.string ⟨#[98, 111, 120]⟩, v, n⟩]).run Tryd.prog w = .ok (some (0, v)) w := by kernel_rfl
theorem cB (em : Bool) (w : World) : (Instr.checkKey em 10000 9 (.string ⟨#[98, 111, 120]⟩)).run Tryd.prog w = .ok () w := by cases em <;> kernel_rfl
theorem sB (w : World) : (Instr.keyThatStays (.string ⟨#[98, 111, 120]⟩) (.string ⟨#[98, 111, 120]⟩)).run Tryd.prog w = .ok (.string ⟨#[98, 111, 120]⟩) w := by kernel_rfl
theorem zB (w : World) : (zeroValue 36).run Tryd.prog w = .ok (.slice none 0 0) w := by kernel_rfl

/-- The map of one box. -/
def BM (w : World) (b : Nat) (v : Value) : Prop := w.heap[b]? = some (.map #[⟨.string ⟨#[98, 111, 120]⟩, v, 0⟩] 1)
def BM0 (w : World) (b : Nat) : Prop := w.heap[b]? = some (.map #[] 0)
theorem BM0.look {w : World} {b : Nat} (h : BM0 w b) : (Instr.lookup 50 (.map (some b)) (.string ⟨#[98, 111, 120]⟩) true).run Tryd.prog w = .ok (.tuple #[.slice none 0 0, .bool false]) w := by
  simp [Instr.lookup, run_underlying Tryd.underlying50, MapKept.run_getObj_map (show w.heap[b]? = _ from h), cB, fB0 w, zB w, Result.andThen]
theorem BM0.len {w : World} {b : Nat} (h : BM0 w b) (ty : TypeId) : (Builtin.len_ #[50] ty #[.map (some b)]).run Tryd.prog w = .ok (.int .i64 0) w := by
  simp [Builtin.len_, run_underlying Tryd.underlying50, MapKept.run_getObj_map (show w.heap[b]? = _ from h), Result.andThen, goInt]
theorem BM.look {w : World} {b : Nat} {v : Value} (h : BM w b v) (c : Bool) : (Instr.lookup 50 (.map (some b)) (.string ⟨#[98, 111, 120]⟩) c).run Tryd.prog w = .ok (if c then .tuple #[v, .bool true] else v) w := by
  simp [Instr.lookup, run_underlying Tryd.underlying50, MapKept.run_getObj_map (show w.heap[b]? = _ from h), cB, fB1 _ _ w, Result.andThen]
theorem bm_touch (w : World) (b : Nat) (o : Obj) (h : b < w.heap.size) : Touch (fun k => k = b) w (ChangeMaps.setBlock w b o) ∧ (ChangeMaps.setBlock w b o).heap[b]? = some o := by
  refine ⟨⟨rfl, rfl, rfl, by simp [ChangeMaps.setBlock], fun k hk hn => ?_⟩, by simp [ChangeMaps.setBlock, h]⟩
  simp [ChangeMaps.setBlock, Array.getElem?_setIfInBounds, show ¬ b = k from fun e => hn e.symm]
theorem BM0.put {w : World} {b : Nat} (v : Value) (h : BM0 w b) : ∃ w', (Instr.mapUpdate 50 (.map (some b)) (.string ⟨#[98, 111, 120]⟩) v).run Tryd.prog w = .ok () w' ∧ BM w' b v ∧ Touch (fun k => k = b) w w' := by
  have t := bm_touch w b (.map #[⟨.string ⟨#[98, 111, 120]⟩, v, 0⟩] 1) (lt_of_block h)
  refine ⟨_, ?_, t.2, t.1⟩
  simp [Instr.mapUpdate, run_underlying Tryd.underlying50, MapKept.run_getObj_map (show w.heap[b]? = _ from h), cB, fB0 w, MapKept.run_setObj_map _ (show w.heap[b]? = _ from h), Result.andThen, ChangeMaps.setBlock]
theorem BM.put {w : World} {b : Nat} {u : Value} (v : Value) (h : BM w b u) : ∃ w', (Instr.mapUpdate 50 (.map (some b)) (.string ⟨#[98, 111, 120]⟩) v).run Tryd.prog w = .ok () w' ∧ BM w' b v ∧ Touch (fun k => k = b) w w' := by
  have t := bm_touch w b (.map #[⟨.string ⟨#[98, 111, 120]⟩, v, 0⟩] 1) (lt_of_block h)
  refine ⟨_, ?_, t.2, t.1⟩
  simp [Instr.mapUpdate, run_underlying Tryd.underlying50, MapKept.run_getObj_map (show w.heap[b]? = _ from h), cB, fB1 _ _ w, sB w, MapKept.run_setObj_map _ (show w.heap[b]? = _ from h), Result.andThen, ChangeMaps.setBlock]
theorem BM.touch {S : Nat → Prop} {w w' : World} {b : Nat} {v : Value} (h : BM w b v) (ht : Touch S w w') (hn : ¬ S b) : BM w' b v := (ht.block b (lt_of_block h) hn).trans h
theorem BM0.touch {S : Nat → Prop} {w w' : World} {b : Nat} (h : BM0 w b) (ht : Touch S w w') (hn : ¬ S b) : BM0 w' b := (ht.block b (lt_of_block h) hn).trans h

/-- The chain of the box. -/
structure CH (w : World) (bc bm : Nat) (v : Value) (hs : List Hand) : Prop where
  hc : w.heap[bc]? = some (.cells #[.map (some bm)] 52 (0, 0))
  hm : BM w bm v
  row : w.ownsRow 0 35 5 v hs.length (hs.flatMap Hand.cells)
  n1 : v.ownBlock ≠ some bc
  n2 : v.ownBlock ≠ some bm
  n3 : bc ≠ bm
theorem CH.later {w w' : World} {bc bm : Nat} {v : Value} {hs : List Hand} (h : CH w bc bm v hs) (hb : Below w.heap.size w w') : CH w' bc bm v hs := by
  have ht : Touch (fun _ => False) w w' := Touch.of_below hb
  obtain ⟨hc, hm, row, n1, n2, n3⟩ := h
  exact ⟨(hb.block bc (lt_of_block hc)).trans hc, hm.touch ht id, own_touch row ht (fun _ _ => id), n1, n2, n3⟩
end Go.Proofs.YtofkeipfkglljaaDoor
