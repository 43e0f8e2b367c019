/-
  The table of terms: what the listed variable tells of memory.
-/
import Derived.Test.YtofkeipfkglljaaDoorRows
import Derived.WalkKit
import Derived.WalkSpells
import Derived.WalkLawsBesides
import Derived.ProofKit
import Derived.OpenShut
import Derived.LaidMore
import Derived.Stop.Joined
namespace Go.Proofs.YtofkeipfkglljaaDoor
open Go.RowKit
set_option linter.unusedVariables false
set_option linter.unusedSimpArgs false

def nmT (i : Nat) : List UInt8 := [[97, 116, 45, 119, 111, 114, 107, 115], [116, 111, 45, 99, 97, 114, 114, 105, 101, 114], [111, 110, 45, 98, 111, 97, 114, 100], [102, 114, 101, 105, 103, 104, 116, 45, 112, 97, 105, 100], [105, 110, 115, 117, 114, 101, 100], [108, 97, 110, 100, 101, 100], [99, 108, 101, 97, 114, 101, 100], [97, 116, 45, 100, 111, 111, 114]].getD i []
def costT (i : Nat) : Int := [1, 2, 3, 5, 5, 5, 6, 7].getD i 0
def riskT (i : Nat) : Int := [1, 2, 3, 2, 3, 5, 6, 7].getD i 0
def pprT (i : Nat) : List Int := [[0, 1], [0, 1], [0, 1, 2], [0, 1, 2], [0, 1, 2, 3], [0, 1, 2], [0, 1, 2, 4], [0, 1, 2, 4]].getD i []

/-- What the walks ask of memory: the table's cells. -/
structure Terms (w : World) : Prop where
  name : ∀ i, i < 8 → ∃ s : ByteArray, w.cell? ⟨0, i * 4, none⟩ = some (.string s) ∧ s.data.toList = nmT i
  cost : ∀ i, i < 8 → w.cell? ⟨0, i * 4 + 1, none⟩ = some (.int .i64 (costT i))
  risk : ∀ i, i < 8 → w.cell? ⟨0, i * 4 + 2, none⟩ = some (.int .i64 (riskT i))
  ppr : ∀ i, i < 8 → ∃ (a : Addr) (cap : Nat), w.cell? ⟨0, i * 4 + 3, none⟩ = some (.slice (some a) (pprT i).length cap) ∧ (pprT i).length ≤ cap ∧ cap ≤ maxLen ∧ ∀ j, j < (pprT i).length → w.cell? (a.add j) = some (.int .i64 ((pprT i).getD j 0))

theorem Terms.below {w w' : World} (h : Terms w) (hb : Below w.heap.size w w') : Terms w' := by
  have key : ∀ (a : Addr) v, w.cell? a = some v → w'.cell? a = some v := by
    intro a v ha
    exact cell_later hb ha
  exact ⟨fun i hi => let ⟨s, h1, h2⟩ := h.name i hi; ⟨s, key _ _ h1, h2⟩, fun i hi => key _ _ (h.cost i hi), fun i hi => key _ _ (h.risk i hi),
    fun i hi => let ⟨a, c, h1, h2, hm, h3⟩ := h.ppr i hi; ⟨a, c, key _ _ h1, h2, hm, fun j hj => key _ _ (h3 j hj)⟩⟩

theorem Terms.drewN {w : World} (h : Terms w) (n : Nat) : Terms (w.drewN n) := by
  constructor
  · intro i hi; simpa using h.name i hi
  · intro i hi; simpa using h.cost i hi
  · intro i hi; simpa using h.risk i hi
  · intro i hi; simpa using h.ppr i hi

theorem tTerms : (Tryd.prog.globals[0]?).map (·.type) = some 94 := by kernel_rfl
theorem c50 : Tryd.prog.cellsOf 94 = 32 := by kernel_rfl
theorem c49 : Tryd.prog.cellsOf 93 = 4 := by kernel_rfl
theorem c9 : Tryd.prog.cellsOf 9 = 1 := by kernel_rfl
theorem c3 : Tryd.prog.cellsOf 3 = 1 := by kernel_rfl
theorem c28 : Tryd.prog.cellsOf 24 = 1 := by kernel_rfl


theorem laidVars_mem {P : Program} {w : World} {n : String} {d : DataW Unit} : ∀ {l : List (String × DataW Unit)} {ps : List MemPlace}, DataW.LaidVars P w l ps → (n, d) ∈ l →
    ∃ g t cs fuel p, P.globalNamed n = some g ∧ (P.globals[g]?).map (·.type) = some t ∧ w.var? P n = some cs ∧ DataW.trod (fun _ => ()) P w 0 (fun _ => true) false fuel t cs.toList = some (d, p)
  | [], _, _, hm => by cases hm
  | (n', d') :: r, ps, h, hm => by
    obtain ⟨g, t, cs, fuel, p, q, h1, h2, h3, h4, h5, _⟩ := h
    rcases List.mem_cons.1 hm with e | hm
    · cases e; exact ⟨g, t, cs, fuel, p, h1, h2, h3, h4⟩
    · exact laidVars_mem h5 hm

theorem cell_of_take {w : World} {g : Nat} {cs : Array Value} (hc : ∀ i, i < cs.size → w.cell? ⟨g, i, none⟩ = cs[i]?) {k : Nat} {v : Value} (h : (cs.toList.drop k).take 1 = [v]) : w.cell? ⟨g, k, none⟩ = some v := by
  have h1 : cs.toList[k]? = some v := by
    have := congrArg (·[0]?) h
    simpa [List.getElem?_take, List.getElem?_drop] using this
  have hk : k < cs.size := by
    rcases Nat.lt_or_ge k cs.size with hk | hk
    · exact hk
    · rw [List.getElem?_eq_none (by simpa using hk)] at h1; cases h1
  rw [hc k hk, ← h1]; simp


theorem take1 {cs : List Value} {k : Nat} {v : Value} (h' : (cs.drop k).take 1 = [v]) : cs[k]? = some v := by
  have := congrArg (·[0]?) h'
  simpa [List.getElem?_take, List.getElem?_drop] using this


set_option maxRecDepth 20000 in
theorem row_at {W : World} {m : Nat} {cs : List Value} {x : DataW Unit × List MemPlace} {nm : List UInt8} {c r : Int} {pp : List Int}
    (h : DataW.trod (fun _ => ()) Tryd.prog W 0 (fun _ => true) false m 93 cs = some x)
    (hx : x.1 = .agg [.lit (.string nm), .lit (.int .i64 c), .lit (.int .i64 r), .slice (pp.map fun z => .lit (.int .i64 z)) []]) :
    (∃ s : ByteArray, cs[0]? = some (.string s) ∧ s.data.toList = nm) ∧ cs[1]? = some (.int .i64 c) ∧ cs[2]? = some (.int .i64 r) ∧
      ∃ (a : Addr) (cap : Nat), cs[3]? = some (.slice (some a) pp.length cap) ∧ pp.length ≤ cap ∧ cap ≤ maxLen ∧ ∀ j, j < pp.length → W.cell? (a.add j) = some (.int .i64 (pp.getD j 0)) := by
  obtain ⟨xs, m1, rfl, rfl, hlen, hn, hel⟩ := DataW.trod_struct Tryd.underlying93 h
  simp only [DataW.agg.injEq] at hx
  have g0 := hel 0 _ rfl
  have g1 := hel 1 _ rfl
  have g2 := hel 2 _ rfl
  have g3 := hel 3 _ rfl
  match xs, hx with
  | [x0, x1, x2, x3], hx =>
    simp only [List.map_cons, List.map_nil, List.cons.injEq, and_true] at hx
    obtain ⟨e0, e1, e2, e3⟩ := hx
    simp only [List.getElem?_cons_zero, List.getElem?_cons_succ] at g0 g1 g2 g3
    obtain ⟨s, q0, rfl, _⟩ := DataW.trod_string Tryd.underlying9 g0
    obtain ⟨n1, q1, rfl, _⟩ := DataW.trod_int Tryd.underlying3 g1
    obtain ⟨n2, q2, rfl, _⟩ := DataW.trod_int Tryd.underlying3 g2
    simp only [DataW.lit.injEq, Lit.string.injEq, Lit.int.injEq, true_and] at e0 e1 e2
    subst e1 e2
    refine ⟨⟨s, take1 q0, e0⟩, take1 q1, take1 q2, ?_⟩
    rcases DataW.trod_slice Tryd.underlying24 g3 with ⟨_, hx⟩ | ⟨a, len, cap, elems, rest, n, rfl, q3, hx, _, hl, hm, hel2, hcells, _⟩
    · rw [hx] at e3; simp at e3
    · rw [hx] at e3
      simp only [DataW.slice.injEq] at e3
      have hpl : pp.length = len := by
        have := congrArg List.length e3.1
        simp at this; omega
      refine ⟨a, cap, by rw [hpl]; exact take1 q3, by omega, hm, fun j hj => ?_⟩
      have hj2 := hcells j (by omega)
      rw [c3] at hj2
      have hje : j < elems.length := by omega
      rw [List.getElem?_eq_getElem hje] at hj2
      obtain ⟨cs1, hcs, htr⟩ := Option.bind_eq_some_iff.1 hj2
      obtain ⟨z, rfl, hz, _⟩ := DataW.trod_int Tryd.underlying3 htr
      have h1 := World.cells?_some hcs
      have h2 := congrArg (·[j]?) e3.1
      simp only [List.getElem?_map, List.getElem?_eq_getElem hje, Option.map_some, hz, List.getElem?_eq_getElem hj, Option.some.injEq, DataW.lit.injEq, Lit.int.injEq, true_and] at h2
      have h3 := h1.2.2 0 (by omega)
      rw [Addr.add_zero'] at h3
      simpa [h2, hj] using h3

set_option maxRecDepth 20000 in
theorem terms_of_laid {W : World} {l : List (String × DataW Unit)} {n : String} (hm : (n, Rows.laid_supercargo_term_terms) ∈ l) (gTerms : Tryd.prog.globalNamed n = some 0) (h : laidMet Tryd.prog l W) : Terms W := by
  obtain ⟨ps, hl, _⟩ := h
  obtain ⟨g, t, cs, fuel, p, hg, ht, hv, hd⟩ := laidVars_mem hl hm
  obtain rfl := Option.some.inj (gTerms.symm.trans hg)
  obtain rfl := Option.some.inj (tTerms.symm.trans ht)
  have hc := World.var?_cell hg hv
  obtain ⟨xs, m1, rfl, hx1, hlen, hn, hel⟩ := DataW.trod_array Tryd.underlying94 hd
  have hx : Rows.laid_supercargo_term_terms = DataW.agg (xs.map (·.1)) := congrArg Prod.fst hx1
  unfold Rows.laid_supercargo_term_terms at hx
  simp only [DataW.agg.injEq] at hx
  rw [c50] at hlen
  rw [c49] at hel
  have key : ∀ i, i < 8 → (∃ s : ByteArray, W.cell? ⟨0, i * 4, none⟩ = some (.string s) ∧ s.data.toList = nmT i) ∧ W.cell? ⟨0, i * 4 + 1, none⟩ = some (.int .i64 (costT i)) ∧
      W.cell? ⟨0, i * 4 + 2, none⟩ = some (.int .i64 (riskT i)) ∧
      ∃ (a : Addr) (cap : Nat), W.cell? ⟨0, i * 4 + 3, none⟩ = some (.slice (some a) (pprT i).length cap) ∧ (pprT i).length ≤ cap ∧ cap ≤ maxLen ∧ ∀ j, j < (pprT i).length → W.cell? (a.add j) = some (.int .i64 ((pprT i).getD j 0)) := by
    intro i hi
    have he := hel i hi
    have hxi : i < xs.length := by omega
    rw [List.getElem?_eq_getElem hxi] at he
    have hd : xs[i].1 = .agg [.lit (.string (nmT i)), .lit (.int .i64 (costT i)), .lit (.int .i64 (riskT i)), .slice ((pprT i).map fun z => .lit (.int .i64 z)) []] := by
      have h2 := congrArg (·[i]?) hx
      simp only [List.getElem?_map, List.getElem?_eq_getElem hxi, Option.map_some] at h2
      match i, hi with
      | 0, _ => exact (Option.some.inj h2).symm
      | 1, _ => exact (Option.some.inj h2).symm
      | 2, _ => exact (Option.some.inj h2).symm
      | 3, _ => exact (Option.some.inj h2).symm
      | 4, _ => exact (Option.some.inj h2).symm
      | 5, _ => exact (Option.some.inj h2).symm
      | 6, _ => exact (Option.some.inj h2).symm
      | 7, _ => exact (Option.some.inj h2).symm
    obtain ⟨⟨s, r0, r0'⟩, r1, r2, a, cap, r3, r4, r5⟩ := row_at he hd
    have back : ∀ k, k < 4 → ∀ v, ((cs.toList.drop (i * 4)).take 4)[k]? = some v → W.cell? ⟨0, i * 4 + k, none⟩ = some v := by
      intro k hk v hv
      rw [hc, ← hv]
      simp [List.getElem?_drop, hk]
    exact ⟨⟨s, by simpa using back 0 (by omega) _ r0, r0'⟩, back 1 (by omega) _ r1, back 2 (by omega) _ r2, a, cap, back 3 (by omega) _ r3, r4, r5⟩
  exact ⟨fun i hi => (key i hi).1, fun i hi => (key i hi).2.1, fun i hi => (key i hi).2.2.1, fun i hi => (key i hi).2.2.2⟩

theorem terms_metH {W : World} {l : List (String × DataW Unit)} {n : String} (hm : (n, Rows.laid_supercargo_term_terms) ∈ l) (g : Tryd.prog.globalNamed n = some 0)
    (hp : (l.all fun x => x.2.handleName?.isNone) = true) (h : laidMetH Tryd.prog l W) : Terms W :=
  terms_of_laid hm g (MakeChecks.laidMetH_plain _ _ _ hp ▸ h)
end Go.Proofs.YtofkeipfkglljaaDoor
