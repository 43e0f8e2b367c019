/-
  TermWay: the plain law, and the walk.
-/
import Derived.Test.YtfhcnkedhobhgaaDoorTermBearer
import Derived.Deep.RegionLaw
namespace Go.Proofs.YtfhcnkedhobhgaaDoor
open Go Go.RowKit
set_option linter.unusedVariables false
set_option linter.unusedSimpArgs false

theorem map_flat {α : Type} (f : α → Value) (l : List α) : l.map f = l.flatMap fun a => [f a] := by
  induction l with
  | nil => rfl
  | cons a l ih => rw [List.map_cons, List.flatMap_cons, ih]; rfl

/-- A slice of strings. -/
def Strs (w : World) (v : Value) (ss : List ByteArray) : Prop := Row w v 1 ss.length (ss.map Value.string)
theorem Strs.below {w w' : World} {v : Value} {ss : List ByteArray} (h : Strs w v ss) (hb : Below w.heap.size w w') : Strs w' v ss := Row.below h hb
theorem Strs.at {w : World} {v : Value} {zs : List ByteArray} (h : Strs w v zs) (hp : 0 < zs.length) :
    ∃ b off cap, v = .slice (some ⟨b, off, none⟩) zs.length cap ∧ zs.length ≤ cap ∧ cap ≤ maxLen ∧ b < w.heap.size ∧ ∀ k (hk : k < zs.length), w.cell? ⟨b, off + k, none⟩ = some (.string zs[k]) := by
  obtain ⟨b, off, cap, h1, h2, h3, h4, h5⟩ := Row.at h (by simpa using hp)
  exact ⟨b, off, cap, h1, h2, h3, h4, fun k hk => by have := h5 k (by simpa using hk); rw [this]; simp⟩
theorem Strs.shape {w : World} {v : Value} {zs : List ByteArray} (h : Strs w v zs) : ∃ ao cap, v = .slice ao zs.length cap ∧ zs.length ≤ cap ∧ cap ≤ maxLen ∧ (ao = none → cap = 0) := by
  obtain ⟨_, ao, cap, h1, h2, h3, h4, _⟩ := h
  exact ⟨ao, cap, h1, h2, h3, h4⟩

def Is36 (w : World) (v : Value) : Prop := ∃ ss, Strs w v ss
def Is28 (w : World) (v : Value) : Prop := ∃ zs, Ints w v zs ∧ ∀ z ∈ zs, (Lit.int .i64 z).wf = true
theorem open36 {H : Type} {enc : TypeId × Value → H} {W : World} {base : Nat} {v : Value} {d : DataW H} {p : List MemPlace} (hval : Value.okWide Tryd.prog W .any base 36 v)
    (h : DataW.Trod enc Tryd.prog W 0 (fun _ => true) true 36 v d p) : Is36 W v := by
  obtain ⟨a0, len, cap, rfl⟩ := WideShapes.okWide_slice Tryd.underlying36 hval
  obtain ⟨fuel, hf⟩ := h
  rcases DataW.trod_slice Tryd.underlying36 hf with ⟨hcs, _⟩ | ⟨a, len', cap', elems, rest, n, rfl, hcs, hx, _, hl, hm, hel2, hcells, _⟩
  · simp [Value.cells] at hcs
    obtain ⟨rfl, rfl, rfl⟩ := hcs
    exact ⟨[], Row.nil _ _⟩
  · simp [Value.cells] at hcs
    obtain ⟨rfl, rfl, rfl⟩ := hcs
    rw [c9] at hcells
    obtain ⟨xs, h1, _, h3⟩ := row_of_each (f := fun s : ByteArray => [Value.string s]) (p := fun _ => True) (sz := 1) (fun _ => rfl) hl hm (W := W) (a := a) (fun i hi => by
      have := hcells i hi
      rw [List.getElem?_eq_getElem (by omega)] at this
      obtain ⟨cs1, hc1, ht⟩ := Option.bind_eq_some_iff.1 this
      obtain ⟨y, rfl, _⟩ := DataW.trod_string Tryd.underlying9 ht
      exact ⟨y, hc1, trivial⟩)
    subst h1
    exact ⟨xs, by unfold Strs; rw [map_flat]; exact h3⟩
theorem open28 {H : Type} {enc : TypeId × Value → H} {W : World} {base : Nat} {v : Value} {d : DataW H} {p : List MemPlace} (hval : Value.okWide Tryd.prog W .any base 28 v)
    (h : DataW.Trod enc Tryd.prog W 0 (fun _ => true) true 28 v d p) : Is28 W v := by
  obtain ⟨a0, len, cap, rfl⟩ := WideShapes.okWide_slice Tryd.underlying28 hval
  obtain ⟨fuel, hf⟩ := h
  rcases DataW.trod_slice Tryd.underlying28 hf with ⟨hcs, _⟩ | ⟨a, len', cap', elems, rest, n, rfl, hcs, hx, _, hl, hm, hel2, hcells, _⟩
  · simp [Value.cells] at hcs
    obtain ⟨rfl, rfl, rfl⟩ := hcs
    exact ⟨[], Row.nil _ _, by simp⟩
  · simp [Value.cells] at hcs
    obtain ⟨rfl, rfl, rfl⟩ := hcs
    rw [c3] at hcells
    obtain ⟨xs, h1, h2, h3⟩ := row_of_each (f := fun z : Int => [Value.int .i64 z]) (p := fun z => (Lit.int .i64 z).wf = true) (sz := 1) (fun _ => rfl) hl hm (W := W) (a := a) (fun i hi => by
      have := hcells i hi
      rw [List.getElem?_eq_getElem (by omega)] at this
      obtain ⟨cs1, hc1, ht⟩ := Option.bind_eq_some_iff.1 this
      obtain ⟨y, rfl, _, hw⟩ := DataW.trod_int Tryd.underlying3 ht
      exact ⟨y, hc1, hw⟩)
    subst h1
    exact ⟨xs, by unfold Ints; rw [map_flat]; exact h3, h2⟩

namespace termWay
def mkH (s : ByteArray) (d : Int) : Hand := ⟨⟨#[]⟩, ⟨#[]⟩, s, ⟨#[]⟩, d⟩
/-- The hands but the last one: the seller's, then k of the others'. -/
def pre (os : List ByteArray) (ds : List Int) (s : ByteArray) (d0 : Int) (k : Nat) : List Hand := mkH s d0 :: ((os.zip ds.tail).take k).map fun p => mkH p.1 p.2
def chain (os : List ByteArray) (ds : List Int) (s b : ByteArray) (d0 dl : Int) : List Hand := pre os ds s d0 os.length ++ [mkH b dl]

theorem last_mem {hs : List Hand} {d : Int} {h : Hand} (e : lastH hs d = some h) : h ∈ hs ∧ h.day ≤ d := by
  have := List.mem_of_getLast? e
  simpa using this

theorem last_mono (r : Hand → Int) {hs : List Hand} (hp : hs.Pairwise fun a b => r a ≤ r b) {d d' : Int} (hd : d ≤ d') {h : Hand} (e : lastH hs d = some h) : ∃ h', lastH hs d' = some h' ∧ r h ≤ r h' := by
  obtain ⟨h1, h2⟩ := last_mem e
  have hm : h ∈ hs.filter fun x => decide (x.day ≤ d') := by simp; exact ⟨h1, by omega⟩
  have hp' := hp.filter fun x => decide (x.day ≤ d')
  unfold lastH
  generalize (hs.filter fun x => decide (x.day ≤ d')) = L at *
  have hne : L ≠ [] := List.ne_nil_of_mem hm
  refine ⟨L.getLast hne, List.getLast?_eq_some_getLast hne, ?_⟩
  rw [← List.dropLast_concat_getLast hne] at hm hp'
  rcases List.mem_append.1 hm with hm | hm
  · exact (List.pairwise_append.1 hp').2.2 h hm _ (by simp)
  · simp at hm; rw [← hm]; omega

theorem stP_seller (s b : ByteArray) (d : Int) : stP (some (mkH s d)) s b = 0 := by simp [stP, mkH]
theorem stP_buyer (s b : ByteArray) (d : Int) (h : ¬ s.toList = b.toList) : stP (some (mkH b d)) s b = 7 := by
  have h' : ¬ b.toList = s.toList := fun e => h e.symm
  unfold stP mkH; simp [h']
theorem stP_other (o s b : ByteArray) (d : Int) (h1 : ¬ o.toList = s.toList) (h2 : ¬ o.toList = b.toList) : stP (some (mkH o d)) s b = 3 := by
  unfold stP mkH; simp only []; rw [if_neg h1, if_neg h2]

/-- THE LAW: on a day the seller or the buyer bears from the first hand on, and once the buyer, always the buyer. -/
theorem law {t : Int} {os : List ByteArray} {ds : List Int} {s b : ByteArray} {d0 dl day later : Int} (ht : isB t = true) (hsb : ¬ s.toList = b.toList) (hos : ∀ o ∈ os, ¬ o.toList = s.toList ∧ ¬ o.toList = b.toList)
    (hds : ∀ x ∈ ds, d0 ≤ x) (hdl : d0 ≤ dl) (hl : day ≤ later) :
    (day < d0 → whoR t (lastH (chain os ds s b d0 dl) day) s b = (⟨#[]⟩, false)) ∧
    (d0 ≤ day → (whoR t (lastH (chain os ds s b d0 dl) day) s b = (s, true) ∨ whoR t (lastH (chain os ds s b d0 dl) day) s b = (b, true))) ∧
    (d0 ≤ day → whoR t (lastH (chain os ds s b d0 dl) day) s b = (b, true) → whoR t (lastH (chain os ds s b d0 dl) later) s b = (b, true)) := by
  have hday : ∀ h ∈ chain os ds s b d0 dl, d0 ≤ h.day := by
    intro h hh
    simp only [chain, pre, List.cons_append, List.mem_cons, List.mem_append, List.mem_map, List.not_mem_nil, or_false] at hh
    rcases hh with rfl | ⟨p, hp, rfl⟩ | rfl
    · exact Int.le_refl _
    · have := List.mem_of_mem_take hp
      exact hds _ (List.mem_of_mem_tail (List.of_mem_zip (a := p.1) (b := p.2) this).2)
    · exact hdl
  have hpw : (chain os ds s b d0 dl).Pairwise fun x y => stP (some x) s b ≤ stP (some y) s b := by
    have hm : ∀ h ∈ ((os.zip ds.tail).take os.length).map (fun p => mkH p.1 p.2), stP (some h) s b = 3 := by
      intro h hh
      obtain ⟨p, hp, rfl⟩ := List.mem_map.1 hh
      have := (List.of_mem_zip (a := p.1) (b := p.2) (List.mem_of_mem_take hp)).1
      exact stP_other _ _ _ _ (hos _ this).1 (hos _ this).2
    unfold chain pre
    rw [List.cons_append, List.pairwise_cons, List.pairwise_append]
    refine ⟨?_, ?_, by simp, ?_⟩
    · intro h hh
      rw [stP_seller]
      have := stP_in (some h) s b
      simp [isB] at this; omega
    · refine List.Pairwise.imp_of_mem (R := fun _ _ => True) (fun hx hy _ => ?_) (List.pairwise_of_forall (fun _ _ => trivial))
      rw [hm _ hx, hm _ hy]; exact Int.le_refl _
    · intro x hx y hy
      simp at hy
      subst hy
      rw [hm _ hx, stP_buyer _ _ _ hsb]; decide
  have hhd : mkH s d0 ∈ chain os ds s b d0 dl := by simp [chain, pre]
  generalize chain os ds s b d0 dl = hs at *
  have some_of : ∀ d, d0 ≤ d → ∃ h, lastH hs d = some h := by
    intro d hd
    have hm : mkH s d0 ∈ hs.filter fun x => decide (x.day ≤ d) := by simp; exact ⟨hhd, hd⟩
    unfold lastH
    exact ⟨_, List.getLast?_eq_some_getLast (List.ne_nil_of_mem hm)⟩
  have who_some : ∀ h, whoR t (some h) s b = if risT t ≤ stP (some h) s b then (b, true) else (s, true) := by
    intro h; unfold whoR; rw [if_pos ⟨rfl, ht, hsb⟩]
  refine ⟨fun hd => ?_, fun hd => ?_, fun hd hb => ?_⟩
  · have : lastH hs day = none := by
      cases e : lastH hs day with
      | none => rfl
      | some h =>
        obtain ⟨h1, h2⟩ := last_mem e
        have := hday h h1; omega
    rw [this]; unfold whoR; rw [if_neg (by simp)]
  · obtain ⟨h, e⟩ := some_of day hd
    rw [e, who_some]
    split
    · exact .inr rfl
    · exact .inl rfl
  · obtain ⟨h, e⟩ := some_of day hd
    obtain ⟨h', e', hr⟩ := last_mono (fun x => stP (some x) s b) hpw hl e
    rw [e, who_some] at hb
    rw [e', who_some, if_pos]
    split at hb
    · omega
    · rename_i hn
      have : s = b := congrArg Prod.fst hb
      exact absurd (congrArg ByteArray.toList this) hsb
end termWay
end Go.Proofs.YtfhcnkedhobhgaaDoor
