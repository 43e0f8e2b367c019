/-
  TopBooks, plain: the writes of a book, and what becomes of them when one is spoilt.
-/
import Derived.Test.YtllaahdbngjigaaDoorBkE
namespace Go.Proofs.YtllaahdbngjigaaDoor
open Go Go.RowKit
set_option linter.unusedVariables false
set_option linter.unusedSimpArgs false
def recF (v : ByteArray) : Fd := ⟨⟨#[118]⟩, v⟩
def vAt (vs : List ByteArray) (i : Nat) : ByteArray := vs.getD i ⟨#[]⟩
/-- The writes of the first so many values. -/
def lsN (vs : List ByteArray) : Nat → List (List Fd)
  | 0 => []
  | i + 1 => lsN vs i ++ [wholeL i (lkS (lsN vs i) i) [recF (vAt vs i)]]
theorem lsN_len (vs : List ByteArray) (n : Nat) : (lsN vs n).length = n := by
  induction n with
  | zero => rfl
  | succ n ih => simp [lsN, ih]
theorem lsN_take (vs : List ByteArray) (n m : Nat) (h : m ≤ n) : (lsN vs n).take m = lsN vs m := by
  induction n with
  | zero =>
    obtain rfl : m = 0 := by omega
    rfl
  | succ n ih =>
    by_cases e : m = n + 1
    · subst e
      exact List.take_of_length_le (by rw [lsN_len]; exact Nat.le_refl _)
    · show (lsN vs n ++ _).take m = _
      rw [List.take_append_of_le_length (by rw [lsN_len]; omega)]
      exact ih (by omega)
theorem lsN_get (vs : List ByteArray) (n i : Nat) (h : i < n) : (lsN vs n).getD i [] = wholeL i (lkS (lsN vs i) i) [recF (vAt vs i)] := by
  have e : (lsN vs n).getD i [] = (lsN vs (i + 1)).getD i [] := by
    rw [← lsN_take vs n (i + 1) (by omega)]
    simp only [List.getD_eq_getElem?_getD, List.getElem?_take]
    rw [if_pos (by omega)]
  rw [e]
  show (lsN vs i ++ [_]).getD i [] = _
  have h2 := getD_snoc_eq (lsN vs i) (wholeL i (lkS (lsN vs i) i) [recF (vAt vs i)]) []
  rw [lsN_len] at h2
  exact h2
theorem lkS_get {ls ls' : List (List Fd)} {i : Nat} (h : ∀ j, j + 1 = i → ls.getD j [] = ls'.getD j []) : lkS ls i = lkS ls' i := by
  cases i with
  | zero => rfl
  | succ i => show lkB _ (textL _) = lkB _ (textL _); rw [h i rfl]
theorem lkS_lsN (vs : List ByteArray) (n i : Nat) (h : i ≤ n) : lkS (lsN vs n) i = lkS (lsN vs i) i :=
  lkS_get (fun j hj => by rw [lsN_get vs n j (by omega), lsN_get vs i j (by omega)])
theorem lkB_size (o : ByteArray) (t : List UInt8) : (lkB o t).size = 16 := by unfold lkB; exact dig_size _
theorem lkS_size (ls : List (List Fd)) (i : Nat) : (lkS ls i).size = 16 := by
  cases i with
  | zero => unfold lkS; exact lkB_size _ _
  | succ i => unfold lkS; exact lkB_size _ _
theorem ok_v {v : ByteArray} (h : v.size ≤ 4096) : (recF v).ok := ⟨(by decide +kernel : nameB ⟨#[118]⟩ = true), h⟩
theorem ok_x : Fd.ok ⟨⟨#[120]⟩, ⟨#[49]⟩⟩ := ⟨(by decide +kernel : nameB ⟨#[120]⟩ = true), by decide⟩
theorem whole_ok {k : Nat} {lk v : ByteArray} (hk : k < 90) (hlk : lk.size = 16) (hv : v.size ≤ 300) : ∀ f ∈ wholeL k lk [recF v], f.ok := fun f hf => by
  simp only [wholeL, List.mem_cons, List.not_mem_nil, or_false] at hf
  rcases hf with rfl | rfl | rfl
  · exact ok_n (by omega)
  · exact ok_last (by omega)
  · exact ok_v (by omega)
theorem line_le (f : Fd) : (lineL f).length ≤ f.n.size + 2 + 2 * f.v.size := by
  have h2 := escL_len f.v.data.toList
  have e1 : f.n.data.toList.length = f.n.size := Array.length_toList
  have e2 : f.v.data.toList.length = f.v.size := Array.length_toList
  simp only [lineL, List.length_append, List.length_singleton]
  omega
theorem whole_size {k : Nat} {lk v : ByteArray} (hk : k < 90) (hlk : lk.size = 16) (hv : v.size ≤ 300) : (textB (wholeL k lk [recF v])).size ≤ 700 := by
  have h1 := line_le ⟨⟨#[110]⟩, itB k⟩
  have h2 := line_le ⟨⟨#[108, 97, 115, 116]⟩, lk⟩
  have h3 := line_le (recF v)
  have h4 := itB_size (k := k) (by omega)
  have e1 : (⟨#[110]⟩ : ByteArray).size = 1 := rfl
  have e2 : (⟨#[108, 97, 115, 116]⟩ : ByteArray).size = 4 := rfl
  have e3 : (recF v).n.size = 1 := rfl
  have e4 : (recF v).v.size = v.size := rfl
  have e : (textB (wholeL k lk [recF v])).size = (lineL ⟨⟨#[110]⟩, itB k⟩).length + ((lineL ⟨⟨#[108, 97, 115, 116]⟩, lk⟩).length + (lineL (recF v)).length) := by
    show (textL (wholeL k lk [recF v])).length = _
    simp only [textL, wholeL, List.flatMap_cons, List.flatMap_nil, List.length_append, List.append_nil]
  simp only at h1 h2
  omega
theorem fine_lsN {vs : List ByteArray} {n : Nat} (hn : n ≤ 40) (hv : ∀ i, i < n → (vAt vs i).size ≤ 300) : ∀ i, i < n → FineAt (lsN vs n) i (lkS (lsN vs n) i) := fun i hi => by
  have e := lsN_get vs n i hi
  refine ⟨[recF (vAt vs i)], by rw [e, lkS_lsN vs n i (by omega)]; rfl, by simp, by simp, ?_⟩
  rw [e]
  exact whole_ok (by omega) (lkS_size _ _) (hv i hi)
theorem recs_lsN (vs : List ByteArray) (m i : Nat) (h : i < m) : (((lsN vs m).take m).map (·.drop 2)).getD i [] = [recF (vAt vs i)] := by
  rw [List.take_of_length_le (by rw [lsN_len]; exact Nat.le_refl _)]
  have e := lsN_get vs m i h
  have hl : i < (lsN vs m).length := by rw [lsN_len]; exact h
  simp only [List.getD_eq_getElem?_getD, List.getElem?_map, List.getElem?_eq_getElem hl, Option.map_some, Option.getD_some] at e ⊢
  rw [e]; rfl

def spE (vs : List ByteArray) (k : Nat) : List Fd := wholeL k (lkS (lsN vs k) k) [recF (vAt vs k), ⟨⟨#[120]⟩, ⟨#[49]⟩⟩]
/-- The writes, one of them spoilt. -/
def spL (vs : List ByteArray) (m k : Nat) : List (List Fd) := (lsN vs m).set k (spE vs k)
theorem spL_len (vs : List ByteArray) (m k : Nat) : (spL vs m k).length = m := by simp [spL, lsN_len]
theorem spL_ne (vs : List ByteArray) (m k i : Nat) (h : i ≠ k) : (spL vs m k).getD i [] = (lsN vs m).getD i [] := by
  simp only [spL, List.getD_eq_getElem?_getD, List.getElem?_set]
  rw [if_neg (fun e => h e.symm)]
theorem spL_eq (vs : List ByteArray) (m k : Nat) (h : k < m) : (spL vs m k).getD k [] = spE vs k := by
  simp only [spL, List.getD_eq_getElem?_getD, List.getElem?_set]
  rw [if_pos trivial, if_pos (by rw [lsN_len]; exact h)]; rfl
theorem sp_text (vs : List ByteArray) (k : Nat) : textB (spE vs k) = textB (wholeL k (lkS (lsN vs k) k) [recF (vAt vs k)]) ++ ⟨#[120, 61, 49, 10]⟩ := by
  apply ba_ext
  have e : lineL ⟨⟨#[120]⟩, ⟨#[49]⟩⟩ = [120, 61, 49, 10] := by decide +kernel
  have e2 : (textB (spE vs k)).data.toList = textL (spE vs k) := rfl
  rw [e2]
  simp only [spE, textB, textL, wholeL, List.flatMap_cons, List.flatMap_nil, List.append_nil, e]
  simp
theorem sp_fine {vs : List ByteArray} {m k : Nat} (hm : m ≤ 40) (hk : k < m) (hv : ∀ i, i < m → (vAt vs i).size ≤ 300) : ∀ i, i < k + 1 → FineAt (spL vs m k) i (lkS (spL vs m k) i) := fun i hi => by
  have el : lkS (spL vs m k) i = lkS (lsN vs m) i := lkS_get (fun j hj => spL_ne vs m k j (by omega))
  rw [el]
  by_cases h : i = k
  · subst h
    refine ⟨[recF (vAt vs i), ⟨⟨#[120]⟩, ⟨#[49]⟩⟩], by rw [spL_eq vs m i hk, lkS_lsN vs m i (by omega)]; rfl, by simp, by simp, ?_⟩
    rw [spL_eq vs m i hk]
    intro f hf
    simp only [spE, wholeL, List.mem_cons, List.not_mem_nil, or_false] at hf
    rcases hf with rfl | rfl | rfl | rfl
    · exact ok_n (by omega)
    · exact ok_last (by rw [lkS_size]; omega)
    · exact ok_v (by have := hv i hk; omega)
    · exact ok_x
  · obtain ⟨r, h1, h2⟩ := fine_lsN hm hv i (by omega)
    exact ⟨r, by rw [spL_ne vs m k i h, h1], by rw [spL_ne vs m k i h]; exact h2⟩
theorem sp_wrong {vs : List ByteArray} {m k : Nat} (hm : m ≤ 40) (hk : k + 1 < m) (hv : ∀ i, i < m → (vAt vs i).size ≤ 300)
    (hne : ¬ (lkB ⟨#[97]⟩ (textL (wholeL k (lkS (lsN vs k) k) [recF (vAt vs k)]))).toList = (lkB ⟨#[97]⟩ (textL (spE vs k))).toList) :
    ∃ lk2, FineAt (spL vs m k) (k + 1) lk2 ∧ ¬ lk2.toList = (lkS (spL vs m k) (k + 1)).toList := by
  obtain ⟨r, h1, h2⟩ := fine_lsN hm hv (k + 1) hk
  refine ⟨_, ⟨r, by rw [spL_ne vs m k (k + 1) (by omega), h1], by rw [spL_ne vs m k (k + 1) (by omega)]; exact h2⟩, ?_⟩
  have e1 : lkS (lsN vs m) (k + 1) = lkB ⟨#[97]⟩ (textL (wholeL k (lkS (lsN vs k) k) [recF (vAt vs k)])) := by
    show lkB _ (textL ((lsN vs m).getD k [])) = _
    rw [lsN_get vs m k (by omega)]
  have e2 : lkS (spL vs m k) (k + 1) = lkB ⟨#[97]⟩ (textL (spE vs k)) := by
    show lkB _ (textL ((spL vs m k).getD k [])) = _
    rw [spL_eq vs m k (by omega)]
  rw [e1, e2]
  exact hne
theorem crash_nums (st : St) (keep : Int) (n : Nat) (h : st.ws.length = n) (hl : st.last ≤ n) : ∃ m, st.last ≤ m ∧ m ≤ n ∧ st.crash keep = ⟨st.ws.take m, m, false, 0, false⟩ := by
  refine ⟨st.last + (min (max keep 0) ((st.ws.length : Int) - st.last)).toNat, by omega, by omega, rfl⟩
end Go.Proofs.YtllaahdbngjigaaDoor
