/-
  average.may, average.sacrificedMay, average.sum.
-/
import Derived.Test.YtfkkkebegkhdfaaDoorMark
import Derived.Test.YtfkkkebegkhdfaaDoorMap
namespace Go.Proofs.YtfkkkebegkhdfaaDoor
open Go Go.RowKit
set_option linter.unusedVariables false
set_option linter.unusedSimpArgs false

def seen (l : List In1) (k : Nat) (s : ByteArray) : Bool := (l.take k).any fun o => decide (o.t = s)
theorem seen_zero (l : List In1) : (fun _ => false) = seen l 0 := by funext s; simp [seen]
theorem seen_step {l : List In1} {k : Nat} (hk : k < l.length) : (fun u => if u = (l.getD k default).t then true else seen l k u) = seen l (k + 1) := by
  funext u
  have e : l.getD k default = l[k] := by rw [List.getD_eq_getElem?_getD, List.getElem?_eq_getElem hk]; rfl
  rw [e]
  unfold seen
  rw [List.take_succ_eq_append_getElem hk, List.any_append]
  by_cases h : u = l[k].t
  · subst h; simp
  · rw [if_neg h]
    have h' : ¬ l[k].t = u := fun e => h e.symm
    simp [h']
theorem okAt_eq (l : List In1) (k : Nat) : okAt l k = (nameB (l.getD k default).t && decide (0 ≤ (l.getD k default).z) && decide ((l.getD k default).z ≤ 1099511627776) && ! seen l k (l.getD k default).t) := rfl
theorem name_small {s : ByteArray} (h : nameB s = true) : s.size ≤ maxLen := by
  have := (name_iff s).1 h
  unfold maxLen; omega
theorem bmap_run {P : Program} {k e t : TypeId} {w : World} {b n : Nat} {f : ByteArray → Bool} (h : BMap P k e w b n f) (hk : P.underlying k = some .string) (ht : P.underlying t = some (.map k e)) (he : P.underlying e = some .bool) (hz : (zeroValue e).run P w = .ok (.bool false) w)
    (s : ByteArray) (hs : s.size ≤ maxLen) : (Instr.lookup t (.map (some b)) (.string s) false).run P w = .ok (.bool (f s)) w := by
  obtain ⟨D, ho, hf⟩ := h
  obtain ⟨v, ps, hrun, hv⟩ := ho.lookup (Maps.string_keyed hk) ht hz (plainElem_bool he false) (WideMaps.keyOf_string_mk hk hs)
  obtain ⟨c, rfl, hc⟩ := plain_bool_inv he hv
  simp only [Prod.mk.injEq] at hc
  have h1 := (hf s).symm.trans hc.1
  have e : f s = c := by injection h1 with h1; injection h1
  rw [e]; exact hrun
theorem zeroBool (w : World) : (zeroValue 4).run Tryd.prog w = .ok (.bool false) w := by kernel_rfl

theorem run_make_hint {P : Program} {t k e : TypeId} (hu : P.underlying t = some (.map k e)) (q : IntKind) (n : Int) (w : World) : (Instr.makeMap t (some (.int q n))).run P w = .ok (.map (some w.heap.size)) (w.alloc (.map #[] 0)) := by
  simp [Instr.makeMap, run_underlying hu, asInt, asIntOf, Result.andThen]

end Go.Proofs.YtfkkkebegkhdfaaDoor
