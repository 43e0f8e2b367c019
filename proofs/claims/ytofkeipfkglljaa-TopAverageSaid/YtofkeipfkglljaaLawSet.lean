/-
  AverageSettles.
-/
import Derived.Test.YtofkeipfkglljaaSetQ
import Derived.BigRegion
import Derived.Deep.RegionLaw
namespace Go.Proofs.Ytofkeipfkglljaa
open Go Go.RowKit
set_option linter.unusedVariables false
set_option linter.unusedSimpArgs false

theorem imap_run {P : Program} {k e t : TypeId} {w : World} {b n : Nat} {f : ByteArray → Int} (h : IMap P k e w b n f) (hk : P.underlying k = some .string) (ht : P.underlying t = some (.map k e)) (he : P.underlying e = some (.int .i64)) (hz : (zeroValue e).run P w = .ok (.int .i64 0) w)
    (s : ByteArray) (hs : s.size ≤ maxLen) : (Instr.lookup t (.map (some b)) (.string s) false).run P w = .ok (.int .i64 (f s)) w := by
  obtain ⟨D, ho, hf⟩ := h
  obtain ⟨c, hrun, hat, _⟩ := ho.lookup_int (Maps.string_keyed hk) ht he hz (WideMaps.keyOf_string_mk hk hs)
  have h1 := (hf s).symm.trans hat
  have e : f s = c := by injection h1 with h1; injection h1
  rw [e]; exact hrun
theorem zeroI64 (w : World) : (zeroValue 2).run Try.prog w = .ok (.int .i64 0) w := by kernel_rfl
theorem imap_set {P : Program} {k e t : TypeId} {w : World} {b n : Nat} {f : ByteArray → Int} (h : IMap P k e w b n f) (hk : P.underlying k = some .string) (ht : P.underlying t = some (.map k e)) (he : P.underlying e = some (.int .i64))
    (hn : n < maxLen) (s : ByteArray) (hs : s.size ≤ maxLen) (y : Int) (hy : (Lit.int .i64 y).wf = true) :
    ∃ w', (Instr.mapUpdate t (.map (some b)) (.string s) (.int .i64 y)).run P w = .ok () w' ∧ IMap P k e w' b (n + 1) (fun u => if u = s then y else f u) ∧ Touch (fun k => k = b) w w' := by
  obtain ⟨D, ho, hf⟩ := h
  obtain ⟨w', hrun, r1, r2⟩ := ho.update (Maps.string_keyed hk) ht hn (WideMaps.keyOf_string_mk hk hs) (plainElem_int he hy)
  refine ⟨w', hrun, ⟨_, r1, fun u => ?_⟩, touch_grown r2⟩
  by_cases hu : u = s
  · subst hu
    have := Maps.atKey_put_same ho.isMap (nkey_is u) (.lit (.int .i64 y)) (.lit (.int .i64 0))
    unfold nkey at this ⊢
    rw [this]
    simp
  · have := Maps.atKey_put_other (D := D) (nkey_ne hu) (.lit (.int .i64 y)) (.lit (.int .i64 0))
    unfold nkey at this hf ⊢
    rw [this, hf]
    simp [hu]

theorem net_take {D : List De} {k : Nat} (hk : k < D.length) (u : ByteArray) : netD (D.take (k + 1)) u = netD (D.take k) u + ((if D[k].t = u then D[k].z else 0) - (if D[k].f = u then D[k].z else 0)) := by
  rw [List.take_succ_eq_append_getElem hk, net_app, net_one]
theorem net_upd (f : ByteArray → Int) (df dt : ByteArray) (dz : Int) (h : df ≠ dt) (u : ByteArray) : (if u = dt then f dt + dz else if u = df then f df - dz else f u) = f u + ((if dt = u then dz else 0) - (if df = u then dz else 0)) := by
  by_cases h1 : u = dt
  · subst h1
    rw [if_pos (show u = u from rfl), if_pos (show u = u from rfl), if_neg h]; omega
  · rw [if_neg h1, if_neg (show ¬ dt = u from fun e => h1 e.symm)]
    by_cases h2 : u = df
    · subst h2
      rw [if_pos (show u = u from rfl), if_pos (show u = u from rfl)]; omega
    · rw [if_neg h2, if_neg (show ¬ df = u from fun e => h2 e.symm)]; omega
theorem net_bd : ∀ (D : List De) (u : ByteArray), (∀ x ∈ D, 0 ≤ x.z ∧ x.z ≤ 4398046511104) → -(D.length * 4398046511104 : Int) ≤ netD D u ∧ netD D u ≤ (D.length * 4398046511104 : Int)
  | [], u, _ => by simp [netD]
  | d :: D, u, h => by
    have h1 := h d (by simp)
    have h2 := net_bd D u (fun x hx => h x (by simp [hx]))
    rw [netD]
    simp only [List.length_cons, Int.natCast_add, Int.natCast_one]
    split <;> split <;> omega

theorem gets_bal {l : List In1} {g : List Int} {S : Int} {T : Nat} {W out : List Nat} (hw : WholeOk l g S T W) (hs : IsSplit T W out) : Bal l (getsL g out) S := by
  refine ⟨may_named hw.may, by rw [gets_len, hw.gl], ?_, hw.s0, hw.s1, fun j => (gets_bd hw.may hw.gone hw.t1 hs hw.ss j).2⟩
  have hl : out.length = g.length := by rw [hs.len, hw.wl, hw.gl]
  have e : ∀ k, k ≤ g.length → ((getsL g out).take k).sum = (g.take k).sum - ((out.take k).sum : Nat) := by
    intro k
    induction k with
    | zero => intro _; simp
    | succ k ih =>
      intro hk
      rw [← itake_step (by rw [gets_len]; omega), ih (by omega), ← itake_step (by omega), ← take_sum_step (by omega), gets_get (by omega)]
      simp only [Int.natCast_add]
      omega
  have h1 := e g.length (Nat.le_refl _)
  rw [List.take_of_length_le (by rw [gets_len]; exact Nat.le_refl _), List.take_of_length_le (Nat.le_refl _), List.take_of_length_le (by omega), split_sum hs hw.ss] at h1
  rw [h1, ← hw.sum]
  omega
theorem name_le {l : List In1} (h : mayB l = true) {j : Nat} (hj : j < l.length) : (l.getD j default).t.size ≤ maxLen := by
  have := ((may_iff l).1 h).2.2 j hj
  rw [okAt_eq] at this
  simp only [Bool.and_eq_true] at this
  exact name_small this.1.1.1

namespace averageSettles
end averageSettles
end Go.Proofs.Ytofkeipfkglljaa
