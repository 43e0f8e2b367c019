/-
  goods.Apart: which classes lie apart, as the listed variable tells.
-/
import Derived.Test.YtllaahdbngjigaaDoorStk
import Derived.LaidMore
import Derived.Stop.Joined
namespace Go.Proofs.YtllaahdbngjigaaDoor
open Go Go.RowKit
set_option linter.unusedVariables false
set_option linter.unusedSimpArgs false

/-- The table lies in memory. -/
def Apt (w : World) : Prop := ∀ i : Nat, i < 10 → w.cell? ⟨2, i, none⟩ = some (.int .i64 (apT i))
theorem Apt.below {w w' : World} (h : Apt w) (hb : Below w.heap.size w w') : Apt w' := fun i hi => cell_later hb (h i hi)
theorem Apt.heap {w w' : World} (h : Apt w) (hb : w'.heap = w.heap) : Apt w' := fun i hi => (heap_cell (by rw [hb])).trans (h i hi)
theorem tApt : (Tryd.prog.globals[2]?).map (·.type) = some 155 := by kernel_rfl
theorem cApt : Tryd.prog.cellsOf 155 = 10 := by kernel_rfl
theorem cApi : Tryd.prog.cellsOf 3 = 1 := by kernel_rfl
theorem laidVars_mem {P : Program} {w : World} {n : String} {d : DataW Unit} : ∀ {l : List (String × DataW Unit)} {ps : List MemPlace}, DataW.LaidVars P w l ps → (n, d) ∈ l →
    ∃ g t cs fuel p, P.globalNamed n = some g ∧ (P.globals[g]?).map (·.type) = some t ∧ w.var? P n = some cs ∧ DataW.trod (fun _ => ()) P w 0 (fun _ => true) false fuel t cs.toList = some (d, p)
  | [], _, _, hm => by cases hm
  | (n', d') :: r, ps, h, hm => by
    obtain ⟨g, t, cs, fuel, p, q, h1, h2, h3, h4, h5, _⟩ := h
    rcases List.mem_cons.1 hm with e | hm
    · cases e; exact ⟨g, t, cs, fuel, p, h1, h2, h3, h4⟩
    · exact laidVars_mem h5 hm
theorem take1 {cs : List Value} {k : Nat} {v : Value} (h' : (cs.drop k).take 1 = [v]) : cs[k]? = some v := by
  have := congrArg (·[0]?) h'
  simpa [List.getElem?_take, List.getElem?_drop] using this
set_option maxRecDepth 20000 in
theorem apt_of_laid {W : World} {l : List (String × DataW Unit)} {n : String} (hm : (n, Rows.laid_supercargo_goods_apart) ∈ l) (gn : Tryd.prog.globalNamed n = some 2) (h : laidMet Tryd.prog l W) : Apt W := by
  obtain ⟨ps, hl, _⟩ := h
  obtain ⟨g, t, cs, fuel, p, hg, ht, hv, hd⟩ := laidVars_mem hl hm
  obtain rfl := Option.some.inj (gn.symm.trans hg)
  obtain rfl := Option.some.inj (tApt.symm.trans ht)
  have hc := World.var?_cell hg hv
  obtain ⟨xs, m1, rfl, hx1, hlen, hn, hel⟩ := DataW.trod_array Tryd.underlying155 hd
  have hx : Rows.laid_supercargo_goods_apart = DataW.agg (xs.map (·.1)) := congrArg Prod.fst hx1
  unfold Rows.laid_supercargo_goods_apart at hx
  simp only [DataW.agg.injEq] at hx
  rw [cApt] at hlen
  rw [cApi] at hel
  intro i hi
  have he := hel i hi
  have hxi : i < xs.length := by omega
  rw [List.getElem?_eq_getElem hxi, Nat.mul_one] at he
  obtain ⟨z, q, hz, _⟩ := DataW.trod_int Tryd.underlying3 he
  have e1 := take1 q
  have h2 := congrArg (·[i]?) hx
  simp only [List.getElem?_map, List.getElem?_eq_getElem hxi, Option.map_some, hz] at h2
  have e2 : z = apT i := by
    match i, hi with
    | 0, _ => exact ((Lit.int.inj (DataW.lit.inj (Option.some.inj h2))).2).symm
    | 1, _ => exact ((Lit.int.inj (DataW.lit.inj (Option.some.inj h2))).2).symm
    | 2, _ => exact ((Lit.int.inj (DataW.lit.inj (Option.some.inj h2))).2).symm
    | 3, _ => exact ((Lit.int.inj (DataW.lit.inj (Option.some.inj h2))).2).symm
    | 4, _ => exact ((Lit.int.inj (DataW.lit.inj (Option.some.inj h2))).2).symm
    | 5, _ => exact ((Lit.int.inj (DataW.lit.inj (Option.some.inj h2))).2).symm
    | 6, _ => exact ((Lit.int.inj (DataW.lit.inj (Option.some.inj h2))).2).symm
    | 7, _ => exact ((Lit.int.inj (DataW.lit.inj (Option.some.inj h2))).2).symm
    | 8, _ => exact ((Lit.int.inj (DataW.lit.inj (Option.some.inj h2))).2).symm
    | 9, _ => exact ((Lit.int.inj (DataW.lit.inj (Option.some.inj h2))).2).symm
  subst e2
  have hk : i < cs.size := by
    have := (List.getElem?_eq_some_iff.1 e1).1
    simpa using this
  rw [hc i, ← e1]
  simp
theorem apt_laid {W : World} {l : List (String × DataW Unit)} {n : String} (hm : (n, Rows.laid_supercargo_goods_apart) ∈ l) (g : Tryd.prog.globalNamed n = some 2)
    (hp : (l.all fun x => x.2.handleName?.isNone) = true) (h : laidMetH Tryd.prog l W) : Apt W :=
  apt_of_laid hm g (MakeChecks.laidMetH_plain _ _ _ hp ▸ h)

theorem apT_bd (i : Nat) (h : i < 10) : 0 ≤ apT i ∧ apT i ≤ 1020 := by
  have : ∀ i : Nat, i < 10 → 0 ≤ apT i ∧ apT i ≤ 1020 := by decide
  exact this i h
set_option maxRecDepth 100000 in
set_option maxHeartbeats 4000000 in
theorem apart_any (i j : Nat) (hi : i < 10) (hj : j < 10) (w : World) (h : Apt w) : Calls Tryd.prog 67 #[.int .i64 (i : Int), .int .i64 (j : Int)] w fun e w' => e = .returned (.bool (apB i j)) ∧ w = w' := by
  have ci := h i hi
  have cj := h j hj
  have bi := apT_bd i hi
  have bj := apT_bd j hj
  obtain ⟨p, hp⟩ : ∃ p, p = apT i := ⟨_, rfl⟩
  obtain ⟨q, hq⟩ : ∃ q, q = apT j := ⟨_, rfl⟩
  rw [← hp] at ci bi
  rw [← hq] at cj bj
  have HR := Lib.hid (show apB (i : Int) (j : Int) = ((bits BinOp.and IntKind.i64 (p / 2 ^ j) 1 == 1) || (bits BinOp.and IntKind.i64 (q / 2 ^ i) 1 == 1)) from by
    rw [hp, hq]
    rfl)
  clear hp hq h
  cases r1 : (bits BinOp.and IntKind.i64 (p / 2 ^ j) 1 == 1) with
  | true =>
    go_enter Tryd.func67, Tryd.ntmps67
    go_wp2
    go_ret
    exact ⟨by rw [HR.out, r1]; rfl, rfl⟩
  | false =>
    cases r2 : (bits BinOp.and IntKind.i64 (q / 2 ^ i) 1 == 1) with
    | true =>
      go_enter Tryd.func67, Tryd.ntmps67
      go_wp2
      go_ret
      exact ⟨by rw [HR.out, r1, r2]; rfl, rfl⟩
    | false =>
      go_enter Tryd.func67, Tryd.ntmps67
      go_wp2
      go_ret
      exact ⟨by rw [HR.out, r1, r2]; rfl, rfl⟩
end Go.Proofs.YtllaahdbngjigaaDoor
