/-
  The example by which each statement of the layer begins; few.
-/
import Derived.Test.YtofkeipfkglljaaPays
import Derived.BigQuiet
namespace Go.Proofs.Ytofkeipfkglljaa
open Go Go.RowKit
set_option linter.unusedVariables false
set_option linter.unusedSimpArgs false

/-- Few, and of short names. -/
def fewB (l : List In1) : Bool := decide (l.length ≤ 31) && (List.range l.length).all fun k => decide ((l.getD k default).t.size ≤ 60)
theorem few_iff (l : List In1) : fewB l = true ↔ l.length ≤ 31 ∧ ∀ k, k < l.length → (l.getD k default).t.size ≤ 60 := by
  simp [fewB]

theorem Des.get {w : World} {ao : Option Addr} {n cap : Nat} {D : List De} (h : Des w (.slice ao n cap) D) (hn : n = D.length) (hp : 0 < n) : ∃ b off, ao = some ⟨b, off, none⟩ ∧ b < w.heap.size ∧ ∀ k (hk : k < D.length),
    w.cell? ⟨b, off + k * 4, none⟩ = some (.string D[k].f) ∧ w.cell? ⟨b, off + k * 4 + 1, none⟩ = some (.string D[k].t) ∧ w.cell? ⟨b, off + k * 4 + 2, none⟩ = some (.string D[k].c) ∧ w.cell? ⟨b, off + k * 4 + 3, none⟩ = some (.int .i64 D[k].z) := by
  have hl : (D.flatMap De.cells).length = D.length * 4 := flat_len (f := De.cells) (sz := 4) (fun _ => rfl) D
  obtain ⟨b, off, cap, h1, h2, h3, h4, h5⟩ := Row.at h (by omega)
  cases h1
  refine ⟨b, off, rfl, h4, fun k hk => ?_⟩
  have g : ∀ j, j < 4 → w.cell? ⟨b, off + (k * 4 + j), none⟩ = (De.cells D[k])[j]? := fun j hj => by
    have e := flat_get (f := De.cells) (sz := 4) (fun _ => rfl) D k j hk hj
    rw [← e, h5 (k * 4 + j) (by rw [hl]; omega), List.getElem?_eq_getElem]
  refine ⟨by have := g 0 (by omega); simpa [De.cells] using this, ?_, ?_, ?_⟩
  · rw [Nat.add_assoc]; have := g 1 (by omega); simpa [De.cells] using this
  · rw [Nat.add_assoc]; have := g 2 (by omega); simpa [De.cells] using this
  · rw [Nat.add_assoc]; have := g 3 (by omega); simpa [De.cells] using this
theorem Des.shape {w : World} {v : Value} {D : List De} (h : Des w v D) : ∃ ao cap, v = .slice ao D.length cap ∧ D.length ≤ cap ∧ cap ≤ maxLen ∧ (ao = none → cap = 0) := by
  obtain ⟨_, ao, cap, h1, h2, h3, h4, _⟩ := h
  exact ⟨ao, cap, h1, h2, h3, h4⟩
theorem Des.below {w w' : World} {v : Value} {D : List De} (h : Des w v D) (hb : Below w.heap.size w w') : Des w' v D := Row.below h hb

def exL : List In1 := [⟨⟨#[115, 104, 105, 112]⟩, 60⟩, ⟨⟨#[97]⟩, 30⟩, ⟨⟨#[98]⟩, 10⟩]
def exD : List De := [⟨⟨#[115, 104, 105, 112]⟩, ⟨#[97]⟩, ⟨#[]⟩, 12⟩, ⟨⟨#[98]⟩, ⟨#[97]⟩, ⟨#[]⟩, 2⟩]
theorem ex_whole : wholeN exL [0, 20, 0] 0 = 0 := by kernel_rfl
theorem ex_ok : WholeOk exL [0, 20, 0] 0 20 [60, 30, 10] := by
  obtain ⟨T, W, h⟩ := whole_is ex_whole
  have h1 := h.sum
  have e1 : ([0, 20, 0] : List Int).sum + 0 = 20 := by decide
  rw [e1] at h1
  obtain rfl : T = 20 := by omega
  have h2 := h.vals
  have e2 : valsL exL = natI [60, 30, 10] := rfl
  rw [e2] at h2
  have h3 : W = [60, 30, 10] := by
    have := congrArg (List.map Int.toNat) h2
    simpa [natI, List.map_map, Function.comp_def] using this.symm
  subst h3
  exact h
theorem ex_split : ∀ out, IsSplit 20 [60, 30, 10] out → out = [12, 6, 2] := fun out h => h.unique ⟨[0, 1, 2], by decide, by unfold Srtd Lx; decide, by decide⟩
theorem ex_pays : (payAll exL (getsL [0, 20, 0] [12, 6, 2]) 0 3).D = exD := by kernel_rfl
theorem ex_gets : getsL [0, 20, 0] [12, 6, 2] = [-12, 14, -2] := by decide
theorem row_lit (w : World) (e sz n : Nat) (cs : Array Value) (h : cs.size = n * sz) (hn : n ≤ maxLen) : Row (w.alloc (.cells cs e)) (.slice (some ⟨w.heap.size, 0, none⟩) n n) sz n cs.toList := by
  refine ⟨by simpa using h, some ⟨w.heap.size, 0, none⟩, n, rfl, Nat.le_refl _, hn, (fun h => by cases h), fun a ha j u hu => ?_⟩
  cases ha
  exact new_cells w cs e j u hu

def exC : Array Value := #[.string ⟨#[115, 104, 105, 112]⟩, .int .i64 60, .string ⟨#[97]⟩, .int .i64 30, .string ⟨#[98]⟩, .int .i64 10]
theorem lit_iA (W : World) (xs : List Int) (cs : Array Value) (n : Nat) (hc : cs = iA xs) (hn : n = xs.length) (hl : n ≤ 4096) : Ints (W.alloc (.cells cs 2)) (.slice (some ⟨W.heap.size, 0, none⟩) n n) xs := by
  subst hc
  exact (blk_new W xs).ints hn hl
theorem aw_whole (b0 : Nat) (W : World) (h : Ins W (.slice (some ⟨b0, 0, none⟩) 3 3) exL) :
    Calls Try.prog 10 #[.slice (some ⟨b0, 0, none⟩) 3 3, .slice (some ⟨W.heap.size, 0, none⟩) 3 3, .int .i64 0] (W.alloc (.cells #[.int .i64 0, .int .i64 20, .int .i64 0] 2)) fun e w' => ∃ b1 b2, e = .returned (.tuple #[.slice (some ⟨b1, 0, none⟩) 3 3, .slice (some ⟨b2, 0, none⟩) 3 3, .int .i64 0]) ∧ Blk w' b1 [12, 6, 2] ∧ Blk w' b2 [-12, 14, -2] ∧ Below W.heap.size W w' := by
  have hb0 := (Below.refl W.heap.size W).alloc (Nat.le_refl _) (.cells #[.int .i64 0, .int .i64 20, .int .i64 0] 2)
  have hi := h.below hb0
  refine (whole_any 20 [60, 30, 10] _ _ 3 3 3 exL [0, 20, 0] 0 _ hi rfl (lit_iA W [0, 20, 0] _ 3 rfl rfl (by decide)) ex_whole (by decide) rfl).mono ?_
  rintro e w' ⟨b1, b2, out, rfl, hs, h1, h2, _, _, hb⟩
  obtain rfl := ex_split out hs
  exact ⟨b1, b2, rfl, h1, by rw [ex_gets] at h2; exact h2, bt hb0 hb⟩
theorem aw_pays (b0 : Nat) (W : World) (h : Ins W (.slice (some ⟨b0, 0, none⟩) 3 3) exL) :
    Calls Try.prog 11 #[.slice (some ⟨b0, 0, none⟩) 3 3, .slice (some ⟨W.heap.size, 0, none⟩) 3 3, .int .i64 0] (W.alloc (.cells #[.int .i64 0, .int .i64 20, .int .i64 0] 2)) fun e w' => ∃ a c, e = .returned (.tuple #[.slice a 2 c, .int .i64 0]) ∧ Des w' (.slice a 2 c) exD ∧ Below W.heap.size W w' := by
  have hb0 := (Below.refl W.heap.size W).alloc (Nat.le_refl _) (.cells #[.int .i64 0, .int .i64 20, .int .i64 0] 2)
  have hi := h.below hb0
  refine (pays_any 20 [60, 30, 10] _ _ 3 3 3 exL [0, 20, 0] 0 _ hi rfl (lit_iA W [0, 20, 0] _ 3 rfl rfl (by decide)) ex_ok).mono ?_
  rintro e w' ⟨v, out, rfl, hs, hd, hb⟩
  obtain rfl := ex_split out hs
  have e1 : exL.length = 3 := rfl
  rw [e1, ex_pays] at hd
  obtain ⟨a, c, rfl, _⟩ := hd.shape
  exact ⟨a, c, rfl, hd, bt hb0 hb⟩
end Go.Proofs.Ytofkeipfkglljaa
