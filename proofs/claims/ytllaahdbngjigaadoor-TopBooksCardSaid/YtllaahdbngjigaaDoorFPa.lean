/-
  field.Parse of a text that a record has.
-/
import Derived.Test.YtllaahdbngjigaaDoorFTx
import Derived.Test.YtllaahdbngjigaaDoorAppRow
import Derived.BigQuiet
import Derived.Laws.BytesString
import Derived.Lib.IndexBytes
namespace Go.Proofs.YtllaahdbngjigaaDoor
open Go Go.RowKit
set_option linter.unusedVariables false
set_option linter.unusedSimpArgs false

theorem ba_ext {s t : ByteArray} (h : s.data.toList = t.data.toList) : s = t := by
  cases s; cases t; congr 1; exact Array.toList_inj.1 h
theorem ba_of {s : ByteArray} {l : List UInt8} (h : s.data.toList = l) : s = ⟨l.toArray⟩ := ba_ext (by rw [h])
theorem ba_take (s : ByteArray) (n : Nat) : (s.extract 0 n).data.toList = s.data.toList.take n := by simp
theorem index_at (a b : List UInt8) (c : UInt8) (h : c ∉ a) : Lib.indexByte (a ++ c :: b) c = (a.length : Int) := by
  induction a with
  | nil => simp [Lib.indexByte]
  | cons x a ih =>
    have hx : (x == c) = false := by
      rw [beq_eq_false_iff_ne]; intro e; exact h (by simp [e])
    have := ih (fun hm => h (by simp [hm]))
    simp only [List.cons_append, Lib.indexByte, hx, this]
    have e : (((a.length : Nat) : Int) == -1) = false := by rw [beq_eq_false_iff_ne]; omega
    rw [e]
    simp
theorem cut0 (s : ByteArray) (n : Nat) (w : World) (hi : Lib.indexByte s.data.toList 61 = (n : Int)) (hn : n < s.size) (hs : s.size ≤ 1000000) :
    Calls Tryd.prog 135 #[.string s, .string ⟨#[61]⟩] w fun e w' => e = .returned (.tuple #[.string (s.extract 0 n), .string (s.extract (n + 1) s.size), .bool true]) ∧ ∃ q, w' = w.drewN q := by
  have HI := Lib.hid (index_one s 61 w)
  rw [hi] at HI
  have e1 : IntKind.i64.wrap ((n : Int) + 1) = (n : Int) + 1 := IntWalk.i64_in _ (by omega)
  have e2 : (0 : Int) ≤ (n : Int) + 1 := by omega
  have e3 : ((n : Int) + 1).toNat = n + 1 := by omega
  clear hi
  go_enter Tryd.func135, Tryd.ntmps135
  go_wp2_with fail
  refine HI.out.mono ?_
  rintro e w1 ⟨rfl, rfl⟩
  go_wp2_with fail
  go_quiet (fail)
  go_wp2
  refine bodyPost_ret (v := .tuple #[.string (s.extract 0 n), .string (s.extract (n + 1) s.size), .bool true]) (by simp [results, Tryd.results135, go_sem]) rfl ⟨rfl, _, rfl⟩
theorem cut_ok (s : ByteArray) (a b : List UInt8) (w : World) (h : s.data.toList = a ++ 61 :: b) (ha : 61 ∉ a) (hs : s.size ≤ 1000000) :
    Calls Tryd.prog 121 #[.string s, .string ⟨#[61]⟩] w fun e w' => e = .returned (.tuple #[.string ⟨a.toArray⟩, .string ⟨b.toArray⟩, .bool true]) ∧ ∃ q, w' = w.drewN q := by
  have hl : s.size = a.length + 1 + b.length := by
    rw [show s.size = s.data.toList.length from (Array.length_toList).symm, h]; simp; omega
  have HC := Lib.hid (cut0 s a.length w (by rw [h]; exact index_at a b 61 ha) (by omega) hs)
  have e1 : s.extract 0 a.length = ⟨a.toArray⟩ := ba_of (by rw [ba_take, h]; simp)
  have e2 : s.extract (a.length + 1) s.size = ⟨b.toArray⟩ := ba_of (by
    rw [Lib.extract_to_end, h]; simp)
  rw [e1, e2] at HC
  clear h e1 e2
  go_enter Tryd.func121, Tryd.ntmps121
  go_wp2_with fail
  refine HC.out.mono ?_
  rintro e w1 ⟨rfl, q, rfl⟩
  go_wp2
  refine bodyPost_ret (v := .tuple #[.string ⟨a.toArray⟩, .string ⟨b.toArray⟩, .bool true]) (by simp [results, Tryd.results121, go_sem]) rfl ⟨rfl, q, rfl⟩

theorem fold_push (l : List UInt8) : ∀ r : ByteArray, ((l.map fun c => (c.toNat : Int)).foldl (fun r n => r.push (UInt8.ofNat n.toNat)) r).data.toList = r.data.toList ++ l := by
  induction l with
  | nil => intro r; simp
  | cons c l ih =>
    intro r
    rw [List.map_cons, List.foldl_cons, ih]
    simp [ByteArray.push]
/-- 'string(b)' of bytes that the call has gathered. -/
theorem bytes_str {w : World} {ao : Option Addr} {n cap : Nat} {l : List UInt8} (h : w.ownsRow 0 5 1 (.slice ao n cap) n (Lib.byteCells l)) :
    (convert 73 9 (.slice ao n cap)).run Tryd.prog w = .ok (.string ⟨l.toArray⟩) w := by
  rw [run_convert_bytes_string w _ _ 5 _ _ _ Tryd.underlying73 Tryd.underlying5 Tryd.underlying9]
  have hl : l.length = n := by have := h.1; rw [Lib.byteCells_length] at this; omega
  rcases h.2 with ⟨e, hn⟩ | ⟨g, cp, cur, e, _, h4, h5, h6, h7, h8⟩
  · cases e
    obtain rfl : l = [] := List.eq_nil_of_length_eq_zero hl
    rfl
  · cases e
    have hc : ∀ j, j < n → w.cell? ((⟨g, 0, none⟩ : Addr).add j) = some (.int .u8 (((l.map fun c => (c.toNat : Int)).getD j 0))) := by
      intro j hj
      have ea : (⟨g, 0, none⟩ : Addr).add j = ⟨g, j, none⟩ := by cases j <;> simp [Addr.add]
      rw [ea, Lib.cell_of_heap h4 j]
      have e1 : cur[j]? = (cur.toList.take (n * 1))[j]? := by
        rw [List.getElem?_take, if_pos (by omega)]; simp
      rw [e1, h8]
      simp [Lib.byteCells, List.getD_eq_getElem?_getD, List.getElem?_eq_getElem (show j < l.length by omega)]
    have hL := run_loadCells (P := Tryd.prog) w ⟨g, 0, none⟩ n (fun j => .int .u8 ((l.map fun c => (c.toNat : Int)).getD j 0)) hc
    have hR : (List.range n).map (fun j => Value.int .u8 ((l.map fun c => (c.toNat : Int)).getD j 0)) = (l.map fun c => (c.toNat : Int)).map (Value.int .u8) := by
      have := range_map_take (Value.int .u8) (l.map fun c => (c.toNat : Int)) n (by simp; omega)
      rw [this, List.take_of_length_le (by simp; omega)]
    rw [run_bytesToString w ⟨g, 0, none⟩ n cap (l.map fun c => (c.toNat : Int)) (by rw [hL, hR])]
    congr 2
    exact ba_of (by rw [fold_push]; rfl)

theorem esc_no10 (l : List UInt8) : 10 ∉ escL l := by
  unfold escL
  intro h
  obtain ⟨c, _, hc⟩ := List.mem_flatMap.1 h
  unfold esc1 at hc
  split at hc
  · simp at hc
  · split at hc
    · simp at hc
    · rename_i h1 h2
      simp at hc; exact h2 hc.symm
theorem name_sign {s : ByteArray} (h : nameB s = true) : ∀ c ∈ s.data.toList, c ≠ 10 ∧ c ≠ 61 := by
  intro c hc
  obtain ⟨k, hk, e⟩ := List.getElem_of_mem hc
  have hk' : k < s.size := by rw [Array.length_toList] at hk; exact hk
  have h3 := ((name_iff s).1 h).2.2 k hk'
  have eb : byt s k = (c.toNat : Int) := by
    unfold byt
    rw [List.getD_eq_getElem?_getD, List.getElem?_eq_getElem hk, e]; rfl
  rw [eb] at h3
  simp only [chB, letB, digB, Bool.or_eq_true, Bool.and_eq_true, decide_eq_true_eq, beq_iff_eq] at h3
  constructor
  · intro e; subst e; simp at h3
  · intro e; subst e; simp at h3
/-- A line ahead of its end. -/
def headL (f : Fd) : List UInt8 := f.n.data.toList ++ 61 :: escL f.v.data.toList
theorem line_head (f : Fd) : lineL f = headL f ++ [10] := by simp [lineL, headL]
theorem head_no10 {f : Fd} (h : f.ok) : 10 ∉ headL f := by
  unfold headL
  intro hm
  rcases List.mem_append.1 hm with hm | hm
  · exact (name_sign h.1 _ hm).1 rfl
  · rcases List.mem_cons.1 hm with hm | hm
    · cases hm
    · exact esc_no10 _ hm
end Go.Proofs.YtllaahdbngjigaaDoor
