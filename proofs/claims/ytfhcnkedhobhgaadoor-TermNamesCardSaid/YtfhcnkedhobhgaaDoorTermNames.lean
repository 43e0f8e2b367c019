/-
  TermNames: names of terms and stages.
-/
import Derived.Test.YtfhcnkedhobhgaaDoorTermPays
namespace Go.Proofs.YtfhcnkedhobhgaaDoor.termNames
open Go Go.RowKit
set_option linter.unusedVariables false
set_option linter.unusedSimpArgs false

/-- The first place of a text among n, from k on. -/
def fnd (nm : Nat → ByteArray) (s : ByteArray) : Nat → Nat → Int
  | 0, _ => -1
  | n + 1, k => if (nm k).toList = s.toList then k else fnd nm s n (k + 1)
theorem fnd_hit {nm : Nat → ByteArray} {s : ByteArray} {n k : Nat} (h : (nm k).toList = s.toList) : fnd nm s (n + 1) k = k := by rw [fnd, if_pos h]
theorem fnd_miss {nm : Nat → ByteArray} {s : ByteArray} {n k : Nat} (h : ¬ (nm k).toList = s.toList) : fnd nm s (n + 1) k = fnd nm s n (k + 1) := by rw [fnd, if_neg h]
theorem fnd_ge (nm : Nat → ByteArray) (s : ByteArray) : ∀ n k, -1 ≤ fnd nm s n k
  | 0, _ => by rw [fnd]; omega
  | n + 1, k => by
    rw [fnd]
    split
    · omega
    · exact fnd_ge nm s n (k + 1)

/-- What a search answers. -/
def fres (f : Int) : Value := .tuple #[.int .i64 (max 0 f), .bool (decide (0 ≤ f))]

set_option maxHeartbeats 400000 in
theorem parse_core (nm : Nat → ByteArray) (s : ByteArray) (w : World) (hc : ∀ i, i < 8 → w.cell? ⟨0, i * 4, none⟩ = some (.string (nm i))) :
    Calls Tryd.prog 20 #[.string s] w fun e w' => e = .returned (fres (fnd nm s 8 0)) ∧ w = w' := by
  have HC := Lib.hid hc
  clear hc
  go_enter Tryd.func20, Tryd.ntmps20
  go_wp2_with fail
  go_loop [4, 5] (fun _ i => ∃ k : Nat, k ≤ 8 ∧ i = .int .i64 k ∧ fnd nm s (8 - k) k = fnd nm s 8 0) (fun _ i => 8 - (intOf i).toNat)
  case atStart => exact ⟨0, by omega, rfl, rfl⟩
  case round =>
    obtain ⟨k, hk, rfl, hr⟩ := hrel
    have HR := Lib.hid hr
    clear hr
    by_cases hlt : k < 8
    · have c := HC.out k hlt
      by_cases hx : (nm k).toList = s.toList
      · have HF := Lib.hid (show fnd nm s 8 0 = k by rw [← HR.out, show 8 - k = (7 - k) + 1 by omega, fnd_hit hx])
        have hb : ((nm k).toList == s.toList) = true := by simpa using hx
        clear HC hx
        generalize nm k = x at c hb
        go_wp2
        go_ret2
        exact ⟨by rw [HF.out]; simp [fres], rfl⟩
      · have HF := Lib.hid (show fnd nm s (8 - (k + 1)) (k + 1) = fnd nm s 8 0 by rw [← HR.out, show 8 - k = (7 - k) + 1 by omega, fnd_miss hx, show 8 - (k + 1) = 7 - k by omega])
        have hb : ((nm k).toList == s.toList) = false := by simpa using hx
        clear HC hx
        generalize nm k = x at c hb
        go_wp2
        go_round
        case rel => exact ⟨k + 1, by omega, by go_num, HF.out⟩
        case measure => simp [intOf]; omega
    · obtain rfl : k = 8 := by omega
      have HF := Lib.hid (show fnd nm s 8 0 = -1 from HR.out.symm)
      clear HC HR
      go_wp2
      go_ret2
      exact ⟨by rw [HF.out]; rfl, rfl⟩

set_option maxHeartbeats 400000 in
theorem stage_core (nm : Nat → ByteArray) (s : ByteArray) (w : World) (hc : ∀ i, i < 8 → w.cell? ⟨1, i, none⟩ = some (.string (nm i))) :
    Calls Tryd.prog 21 #[.string s] w fun e w' => e = .returned (fres (fnd nm s 8 0)) ∧ w = w' := by
  have HC := Lib.hid hc
  clear hc
  go_enter Tryd.func21, Tryd.ntmps21
  go_wp2_with fail
  go_loop [4, 5] (fun _ i => ∃ k : Nat, k ≤ 8 ∧ i = .int .i64 k ∧ fnd nm s (8 - k) k = fnd nm s 8 0) (fun _ i => 8 - (intOf i).toNat)
  case atStart => exact ⟨0, by omega, rfl, rfl⟩
  case round =>
    obtain ⟨k, hk, rfl, hr⟩ := hrel
    have HR := Lib.hid hr
    clear hr
    by_cases hlt : k < 8
    · have c := HC.out k hlt
      by_cases hx : (nm k).toList = s.toList
      · have HF := Lib.hid (show fnd nm s 8 0 = k by rw [← HR.out, show 8 - k = (7 - k) + 1 by omega, fnd_hit hx])
        have hb : ((nm k).toList == s.toList) = true := by simpa using hx
        clear HC hx
        generalize nm k = x at c hb
        go_wp2
        go_ret2
        exact ⟨by rw [HF.out]; simp [fres], rfl⟩
      · have HF := Lib.hid (show fnd nm s (8 - (k + 1)) (k + 1) = fnd nm s 8 0 by rw [← HR.out, show 8 - k = (7 - k) + 1 by omega, fnd_miss hx, show 8 - (k + 1) = 7 - k by omega])
        have hb : ((nm k).toList == s.toList) = false := by simpa using hx
        clear HC hx
        generalize nm k = x at c hb
        go_wp2
        go_round
        case rel => exact ⟨k + 1, by omega, by go_num, HF.out⟩
        case measure => simp [intOf]; omega
    · obtain rfl : k = 8 := by omega
      have HF := Lib.hid (show fnd nm s 8 0 = -1 from HR.out.symm)
      clear HC HR
      go_wp2
      go_ret2
      exact ⟨by rw [HF.out]; rfl, rfl⟩

set_option maxHeartbeats 400000 in
theorem find_core (nm : Nat → ByteArray) (s : ByteArray) (w : World) (b : Nat) (hc : ∀ i, i < 8 → w.cell? ⟨b, i, none⟩ = some (.string (nm i))) :
    Calls Tryd.prog 22 #[.slice (some ⟨b, 0, none⟩) 8 8, .string s] w fun e w' => e = .returned (.int .i64 (fnd nm s 8 0)) ∧ w = w' := by
  have HC := Lib.hid hc
  clear hc
  go_enter Tryd.func22, Tryd.ntmps22
  go_wp2_with fail
  go_loop [5] (fun i => ∃ k : Nat, k ≤ 8 ∧ i = .int .i64 k ∧ fnd nm s (8 - k) k = fnd nm s 8 0) (fun i => 8 - (intOf i).toNat)
  case atStart => exact ⟨0, by omega, rfl, rfl⟩
  case round =>
    obtain ⟨k, hk, rfl, hr⟩ := hrel
    have HR := Lib.hid hr
    clear hr
    by_cases hlt : k < 8
    · have c := HC.out k hlt
      by_cases hx : (nm k).toList = s.toList
      · have HF := Lib.hid (show fnd nm s 8 0 = k by rw [← HR.out, show 8 - k = (7 - k) + 1 by omega, fnd_hit hx])
        have hb : ((nm k).toList == s.toList) = true := by simpa using hx
        clear HC hx
        generalize nm k = x at c hb
        go_wp2
        go_ret
        exact ⟨by rw [HF.out]; rfl, rfl⟩
      · have HF := Lib.hid (show fnd nm s (8 - (k + 1)) (k + 1) = fnd nm s 8 0 by rw [← HR.out, show 8 - k = (7 - k) + 1 by omega, fnd_miss hx, show 8 - (k + 1) = 7 - k by omega])
        have hb : ((nm k).toList == s.toList) = false := by simpa using hx
        clear HC hx
        generalize nm k = x at c hb
        go_wp2
        go_round
        case rel => exact ⟨k + 1, by omega, by go_num, HF.out⟩
        case measure => simp [intOf]; omega
    · obtain rfl : k = 8 := by omega
      have HF := Lib.hid (show fnd nm s 8 0 = -1 from HR.out.symm)
      clear HC HR
      go_wp2
      go_ret
      exact ⟨by rw [HF.out]; rfl, rfl⟩

def nmS (i : Nat) : ByteArray := ⟨(nmT i).toArray⟩
def sgT (i : Nat) : List UInt8 := [[102, 97, 99, 116, 111, 114, 121], [104, 97, 110, 100, 101, 100], [98, 111, 97, 114, 100, 101, 100], [115, 97, 105, 108, 105, 110, 103], [113, 117, 97, 121], [99, 117, 115, 116, 111, 109, 115], [114, 111, 97, 100], [100, 111, 111, 114]].getD i []
def sgS (i : Nat) : ByteArray := ⟨(sgT i).toArray⟩

theorem names_any (w : World) : Calls Tryd.prog 23 #[] w fun e w' => ∃ b, e = .returned (.slice (some ⟨b, 0, none⟩) 8 8) ∧ (∀ i, i < 8 → w'.cell? ⟨b, i, none⟩ = some (.string (nmS i))) ∧ Below w.heap.size w w' := by
  go_enter Tryd.func23, Tryd.ntmps23
  go_wp2
  go_ret
  refine ⟨_, rfl, ?_, (Below.refl _ _).alloc (Nat.le_refl _) _⟩
  intro i hi
  unfold World.cell?
  rw [heap_alloc_new]
  match i, hi with
  | 0, _ | 1, _ | 2, _ | 3, _ | 4, _ | 5, _ | 6, _ | 7, _ => rfl

theorem stages_any (w : World) : Calls Tryd.prog 24 #[] w fun e w' => ∃ b, e = .returned (.slice (some ⟨b, 0, none⟩) 8 8) ∧ (∀ i, i < 8 → w'.cell? ⟨b, i, none⟩ = some (.string (sgS i))) ∧ Below w.heap.size w w' := by
  go_enter Tryd.func24, Tryd.ntmps24
  go_wp2
  go_ret
  refine ⟨_, rfl, ?_, (Below.refl _ _).alloc (Nat.le_refl _) _⟩
  intro i hi
  unfold World.cell?
  rw [heap_alloc_new]
  match i, hi with
  | 0, _ | 1, _ | 2, _ | 3, _ | 4, _ | 5, _ | 6, _ | 7, _ => rfl

/-- The stages' names, in the other listed variable. -/
def Stgs (w : World) : Prop := ∀ i, i < 8 → w.cell? ⟨1, i, none⟩ = some (.string (sgS i))

theorem str_of {s : ByteArray} {l : List UInt8} (h : s.data.toList = l) : s = ⟨l.toArray⟩ := by
  cases s; subst h; simp

theorem Terms.name' {w : World} (h : Terms w) (i : Nat) (hi : i < 8) : w.cell? ⟨0, i * 4, none⟩ = some (.string (nmS i)) := by
  obtain ⟨s, h1, h2⟩ := h.name i hi
  rw [h1, str_of h2]; rfl

theorem c54 : Tryd.prog.cellsOf 52 = 8 := by kernel_rfl
theorem tNames : (Tryd.prog.globals[1]?).map (·.type) = some 52 := by kernel_rfl

theorem stgs_of_laid {W : World} {l : List (String × DataW Unit)} {n : String} (hm : (n, Rows.laid_supercargo_term_names) ∈ l) (gN : Tryd.prog.globalNamed n = some 1) (h : laidMet Tryd.prog l W) : Stgs W := by
  obtain ⟨ps, hl, _⟩ := h
  obtain ⟨g, t, cs, fuel, p, hg, ht, hv, hd⟩ := laidVars_mem hl hm
  obtain rfl := Option.some.inj (gN.symm.trans hg)
  obtain rfl := Option.some.inj (tNames.symm.trans ht)
  have hc := World.var?_cell hg hv
  obtain ⟨xs, m1, rfl, hx1, hlen, hn, hel⟩ := DataW.trod_array Tryd.underlying52 hd
  have hx : Rows.laid_supercargo_term_names = DataW.agg (xs.map (·.1)) := congrArg Prod.fst hx1
  unfold Rows.laid_supercargo_term_names at hx
  simp only [DataW.agg.injEq] at hx
  rw [c9] at hel
  intro i hi
  have he := hel i hi
  have hxi : i < xs.length := by omega
  rw [List.getElem?_eq_getElem hxi] at he
  have hd : xs[i].1 = .lit (.string (sgT i)) := by
    have h2 := congrArg (·[i]?) hx
    simp only [List.getElem?_map, List.getElem?_eq_getElem hxi, Option.map_some] at h2
    match i, hi with
    | 0, _ => exact (Option.some.inj h2).symm
    | 1, _ => exact (Option.some.inj h2).symm
    | 2, _ => exact (Option.some.inj h2).symm
    | 3, _ => exact (Option.some.inj h2).symm
    | 4, _ => exact (Option.some.inj h2).symm
    | 5, _ => exact (Option.some.inj h2).symm
    | 6, _ => exact (Option.some.inj h2).symm
    | 7, _ => exact (Option.some.inj h2).symm
  obtain ⟨s, q0, e0, _⟩ := DataW.trod_string Tryd.underlying9 he
  rw [e0] at hd
  simp only [DataW.lit.injEq, Lit.string.injEq] at hd
  have h1 := take1 q0
  rw [Nat.mul_one] at h1
  rw [hc]
  have h3 : cs[i]? = some (.string s) := by simpa using h1
  rw [h3, str_of hd]; rfl
end Go.Proofs.YtfhcnkedhobhgaaDoor.termNames
