/-
  File.Claim.
-/
import Derived.Test.YtofkeipfkglljaaFile
import Derived.Laws.EntriesVeiled
import Derived.Lib.SlicesS
namespace Go.Proofs.Ytofkeipfkglljaa
open Go Go.RowKit
set_option linter.unusedVariables false
set_option linter.unusedSimpArgs false

/-- Has an insurer paid? -/
def hasF (L : List Pm) (u : ByteArray) : Bool := L.any fun o => decide (o.t = u)
/-- What Claim does: the file behind it, what is paid, the code. -/
def Fi.claim (f : Fi) (u : ByteArray) (o : Po) : Fi × Int × Int :=
  if o.may = false then (f, 0, 1) else if u ≠ o.i then (f, 0, 8) else if hasF f.L u = true then (f, 0, 5)
  else (addF f u (o.paysN f.loss.toNat f.value.toNat : Int), min (o.paysN f.loss.toNat f.value.toNat : Int) (leftF f), 0)

theorem pm1_any (w : World) (c : Nat) (u : ByteArray) (p : Pm) (hc : w.cell? ⟨c, 0, none⟩ = some (.string u)) :
    Calls Try.prog 15 #[.agg #[.string p.t, .int .i64 p.p, .int .i64 p.b], .pointer (some ⟨c, 0, none⟩)] w fun e w' => e = .returned (.bool (decide (p.t = u))) ∧ Below w.heap.size w w' := by
  have HB0 := Lib.hid ((Below.refl w.heap.size w).alloc (Nat.le_refl _) (.cells #[.string p.t, .int .i64 p.p, .int .i64 p.b] 64))
  have k1 := cell_later HB0.out hc
  have HE := Lib.hid (Lib.bytes_beq_false_iff p.t u)
  obtain ⟨t, pp, pb⟩ := p
  dsimp only at HB0 HE k1 ⊢
  by_cases g : t = u
  · subst g
    have HR := Lib.hid (show decide (t = t) = true by simp)
    rw [HR.out]
    go_enter Try.func15, Try.ntmps15
    go_wp2
    go_ret
    exact ⟨rfl, HB0.out⟩
  · have b1 : (t.toList == u.toList) = false := HE.out.2 g
    have HR := Lib.hid (show decide (t = u) = false by simpa using g)
    rw [HR.out]
    go_enter Try.func15, Try.ntmps15
    go_wp2
    go_ret
    exact ⟨rfl, HB0.out⟩

set_option maxHeartbeats 2000000 in
theorem idx_pm (ao : Option Addr) (n cap c : Nat) (u : ByteArray) (L : List Pm) (w : World) (h : Pms w (.slice ao n cap) L) (hn : n = L.length) (hcap : n ≤ 100) (hc : w.cell? ⟨c, 0, none⟩ = some (.string u)) :
    Calls Try.prog 31 #[.slice ao n cap, .func (.func 15) #[] #[.pointer (some ⟨c, 0, none⟩)]] w fun e w' => (∃ r : Int, e = .returned (.int .i64 r) ∧ decide (0 ≤ r) = hasF L u) ∧ Below w.heap.size w w' := by
  have H := Lib.hid h
  have HN := Lib.hid hn
  have HC := Lib.hid hc
  have HB0 := Lib.hid (Below.refl w.heap.size w)
  have HP := Lib.hid (fun w c u p hc => pm1_any w c u p hc)
  clear h hn hc
  go_enter Try.func31, Try.ntmps31
  go_wp2
  go_loopw [8] (fun i wr => ∃ k : Nat, k ≤ n ∧ i = .int .i64 (k : Int) ∧ Hid (∀ j, j < k → decide ((L.getD j default).t = u) = false) ∧ Hid (Below w.heap.size w wr)) (fun i _ => n - (intOf i).toNat)
  case atStart => exact ⟨0, Nat.zero_le _, rfl, Lib.hid (fun j hj => by omega), HB0⟩
  case round =>
    obtain ⟨k, hk, rfl, ha, hb⟩ := hrel
    by_cases hlt : k < n
    · have l1 : (k : Int) < (n : Int) := by omega
      have l0 : (0 : Int) ≤ (k : Int) := by omega
      have hp2 : Pms wr (.slice ao n cap) L := Row.below H.out hb.out
      obtain ⟨bl, off, rfl, hbl, hc⟩ := hp2.get HN.out (by omega)
      obtain ⟨c0, c1, c2⟩ := hc k hlt
      have hkl : k < L.length := by rw [← HN.out]; exact hlt
      have HT := Lib.hid (show decide ((L.getD k default).t = u) = false → ∀ j, j < k + 1 → decide ((L.getD j default).t = u) = false from fun h j hj => by
        by_cases e' : j = k
        · subst e'; exact h
        · exact ha.out j (by omega))
      have HF := Lib.hid (show decide ((L.getD k default).t = u) = true → hasF L u = true from fun h => by
        unfold hasF
        rw [List.any_eq_true]
        rw [List.getD_eq_getElem?_getD, List.getElem?_eq_getElem hkl] at h
        exact ⟨L[k], List.getElem_mem hkl, h⟩)
      have HX := Lib.hid (HP.out wr c u (L.getD k default) (cell_later hb.out HC.out))
      generalize L.getD k default = p at *
      obtain ⟨pt, pp, pb⟩ := p
      dsimp only at c0 c1 c2 HX HT HF
      clear hc hp2
      cases g : decide (pt = u) with
      | false =>
        have HR := Lib.hid (HT.out g)
        rw [g] at HX
        clear g HT HF
        go_wp2_with (go_at_call 15; refine HX.out.mono ?_; rintro e w' ⟨rfl, hb2⟩; have HB2 := Lib.hid (bt hb.out hb2); clear hb2)
        go_roundw
        case rel => exact ⟨k + 1, by omega, by go_num, HR, HB2⟩
        case measure => simp [intOf]; omega
      | true =>
        have HR := Lib.hid (HF.out g)
        rw [g] at HX
        clear g HT HF
        go_wp2_with (go_at_call 15; refine HX.out.mono ?_; rintro e w' ⟨rfl, hb2⟩; have HB2 := Lib.hid (bt hb.out hb2); clear hb2)
        go_ret
        exact ⟨⟨_, rfl, by rw [HR.out]; simp⟩, HB2.out⟩
    · have HR := Lib.hid (show hasF L u = false by
        rw [Bool.eq_false_iff]
        intro h
        unfold hasF at h
        rw [List.any_eq_true] at h
        obtain ⟨x, hx, he⟩ := h
        obtain ⟨j, hj, rfl⟩ := List.mem_iff_getElem.1 hx
        have := ha.out j (by have := HN.out; omega)
        rw [List.getD_eq_getElem?_getD, List.getElem?_eq_getElem hj] at this
        dsimp only [Option.getD] at this
        rw [he] at this; cases this)
      go_wp2
      go_ret
      exact ⟨⟨_, rfl, by rw [HR.out]; rfl⟩, hb.out⟩

theorem has_pm (ao : Option Addr) (n cap c : Nat) (u : ByteArray) (L : List Pm) (w : World) (h : Pms w (.slice ao n cap) L) (hn : n = L.length) (hcap : n ≤ 100) (hc : w.cell? ⟨c, 0, none⟩ = some (.string u)) :
    Calls Try.prog 14 #[.slice ao n cap, .func (.func 15) #[] #[.pointer (some ⟨c, 0, none⟩)]] w fun e w' => e = .returned (.bool (hasF L u)) ∧ Below w.heap.size w w' := by
  have HC := Lib.hid (idx_pm ao n cap c u L w h hn hcap hc)
  generalize hasF L u = x at *
  clear h hn hc
  go_enter Try.func14, Try.ntmps14
  go_wp2_with fail
  refine HC.out.mono ?_
  rintro e w1 ⟨⟨r, rfl, hr⟩, hb⟩
  have HB := Lib.hid hb
  clear hb
  go_wp2
  go_ret
  exact ⟨rfl, HB.out⟩

theorem IsFi.put {w1 : World} {b : Nat} {v v' u : Value} {f f' : Fi} {i : Nat} (hb : w1.heap[b]? = some (.cells (f.cells v) 60 (0, 0))) (hr : w1.ownsRow 0 64 3 v' f'.L.length (f'.L.flatMap Pm.cells)) (hne : v'.ownBlock ≠ some b)
    (hc : (f.cells v).setIfInBounds i u = f'.cells v') (ok : FileOk f') (len : f'.L.length ≤ 100) (v0 : 1 ≤ f'.value) : IsFi (w1.setCell ⟨b, i, none⟩ u) b v' f' :=
  ⟨by rw [heap_set hb, hc], ownsRow_setCell_other hr hne u, hne, ok, len, v0⟩
theorem grown_heap {w w' : World} {row : Option Nat} (h : w.grownBy w' row) {k : Nat} (hk : k < w.heap.size) (hn : row ≠ some k) : w'.heap[k]? = w.heap[k]? := h.block k hk (fun e => hn e.symm)
theorem Try.infoPm : (Try.prog.info? 64).map (fun i => (i.zero, i.size, i.bytes)) = some (some (.agg #[.string ⟨#[]⟩, .int .i64 0, .int .i64 0]), 3, 32) := by kernel_rfl
theorem one_pm (p : Pm) : ∀ u ∈ p.cells, u.oneCell' = true := by
  intro u hu
  simp only [Pm.cells, List.mem_cons, List.not_mem_nil, or_false] at hu
  rcases hu with rfl | rfl | rfl <;> rfl

/-- The box of a name and that of a policy, behind new blocks. -/
theorem two_box {w w3 : World} {u : ByteArray} {cs : Array Value} {t1 t2 : TypeId} (hb : Below ((w.alloc (.cells #[.string u] t1)).alloc (.cells cs t2)).heap.size ((w.alloc (.cells #[.string u] t1)).alloc (.cells cs t2)) w3) :
    w3.cell? ⟨w.heap.size, 0, none⟩ = some (.string u) ∧ (∀ j x, cs[j]? = some x → w3.cell? ⟨w.heap.size + 1, j, none⟩ = some x) ∧ Below w.heap.size w w3 := by
  have b1 := (Below.refl w.heap.size w).alloc (Nat.le_refl _) (.cells #[.string u] t1)
  have hs : (w.alloc (.cells #[.string u] t1)).heap.size = w.heap.size + 1 := by simp
  have b2 := b1.alloc b1.size (.cells cs t2)
  refine ⟨?_, fun j x hx => ?_, bt b2 hb⟩
  · rw [hb.cell (by simp; omega)]
    exact (heap_cell (Below.heap_alloc _ _ _ (by simp))).trans (by unfold World.cell?; rw [heap_alloc_new]; rfl)
  · have := box_at hb hx
    rwa [hs] at this
end Go.Proofs.Ytofkeipfkglljaa
