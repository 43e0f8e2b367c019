/-
  TopClaims: plain; a file and a map, apart.
-/
import Derived.Test.YtofkeipfkglljaaNevP
import Derived.Test.YtofkeipfkglljaaMap
import Derived.Test.YtofkeipfkglljaaFRec2
import Derived.Test.YtofkeipfkglljaaArgU16
namespace Go.Proofs.Ytofkeipfkglljaa
open Go Go.RowKit Go.Deep
set_option linter.unusedVariables false
set_option linter.unusedSimpArgs false

theorem recover_any (w : World) (b : Nat) (v : Value) (f : Fi) (s : Int) (h : IsFi w b v f) :
    Calls Try.prog 9 #[.pointer (some ⟨b, 0, none⟩), .int .i64 s] w fun e w' => ∃ vg, e = .returned (.tuple #[vg, .int .i64 (f.recover s).2.2]) ∧ IsFi w' b v (f.recover s).1 ∧ Ens w' vg (f.recover s).2.1 ∧ Keep b v w v w' := by
  by_cases h1 : s < 1 ∨ 1099511627776 < s
  · have e1 : f.recover s = (f, [], 3) := by unfold Fi.recover; rw [if_pos h1]
    rw [e1]
    refine (recover_bad w b v f s h h1).mono ?_
    rintro e w' ⟨rfl, hb⟩
    exact ⟨_, rfl, h.below hb, Row.nil _ _, Keep.of_below hb⟩
  · by_cases h2 : outF f < s
    · have e1 : f.recover s = (f, [], 10) := by unfold Fi.recover; rw [if_neg h1, if_pos h2]
      rw [e1]
      refine (recover_fund w b v f s h (by omega) (by omega) h2).mono ?_
      rintro e w' ⟨rfl, hb⟩
      exact ⟨_, rfl, h.below hb, Row.nil _ _, Keep.of_below hb⟩
    · have e1 : f.recover s = ((recF f s).1, (recF f s).2, 0) := by unfold Fi.recover; rw [if_neg h1, if_neg h2]
      rw [e1]
      exact recover_ok w b v f s h (by omega) (by omega) (by omega)

theorem claim_two (F : Fi) (u : ByteArray) (o : Po) : ((F.claim u o).2.2 ≠ 0 ∧ (F.claim u o).1 = F ∧ (F.claim u o).2.1 = 0) ∨
    (o.may = true ∧ u = o.i ∧ hasF F.L u = false ∧ F.claim u o = (addF F u (o.paysN F.loss.toNat F.value.toNat : Int), min (o.paysN F.loss.toNat F.value.toNat : Int) (leftF F), 0)) := by
  unfold Fi.claim
  split
  · exact .inl ⟨by simp, rfl, rfl⟩
  · rename_i h1
    split
    · exact .inl ⟨by simp, rfl, rfl⟩
    · rename_i h2
      split
      · exact .inl ⟨by simp, rfl, rfl⟩
      · rename_i h3
        refine .inr ⟨by revert h1; cases o.may <;> simp, by simpa using h2, by revert h3; cases hasF F.L u <;> simp, rfl⟩
theorem may_insurer {o : Po} (h : o.may = true) : nameB o.i = true := by
  simp only [Po.may, Bool.and_eq_true] at h
  exact h.1
theorem out_add (F : Fi) (u : ByteArray) (n : Int) : outF (addF F u n) = outF F := by
  have e1 : openF (addF F u n).L = openF F.L + min n (leftF F) := by simp [openF, addF]
  have e2 : leftF (addF F u n) = leftF F - min n (leftF F) := by
    have : paidF (addF F u n) = paidF F + min n (leftF F) := by simp [paidF, addF]
    unfold leftF at *
    rw [this]
    show F.loss - _ - F.own = _
    omega
  unfold outF
  rw [e1, e2]; omega
theorem out_rec {F : Fi} (h : FileOk F) {s : Int} (h0 : 0 ≤ s) (h1 : s ≤ outF F) : outF (recF F s).1 = outF F - s := by
  obtain ⟨r1, r2, r3, r4, r5, r6⟩ := recK_sum (r := ⟨s, []⟩) h.each h0
  have hO := openF_nonneg h.each
  have hO2 := openF_nonneg r1
  have hl : 0 ≤ leftF F := by have := h.all; unfold leftF; omega
  have hs2 : (recK F.L ⟨s, []⟩).2.s ≤ leftF F := by
    rcases Int.le_total s (openF F.L) with g | g
    · have := r6 g; omega
    · have := r5 g
      unfold outF at h1
      dsimp only at r3
      omega
  have hp : paidF (recF F s).1 = paidF F := (recF_ok h h0 h1).2.2
  have e1 : leftF (recF F s).1 = F.loss - paidF F - (F.own + giveN (leftF F) (recK F.L ⟨s, []⟩).2) := by
    unfold leftF at hp ⊢
    rw [hp]; rfl
  have e2 : giveN (leftF F) (recK F.L ⟨s, []⟩).2 = (recK F.L ⟨s, []⟩).2.s := by unfold giveN; omega
  have e3 : openF (recF F s).1.L = openF (recK F.L ⟨s, []⟩).1 := rfl
  unfold outF
  rw [e1, e2, e3]
  dsimp only at r3
  unfold leftF
  omega
/-- The file and the map tell the same. -/
structure ClI (lost : Int) (F : Fi) (fp fb : ByteArray → Int) : Prop where
  nev : Nev F fp fb (paidF F)
  loss : F.loss = lost
  ok : FileOk F
theorem ClI.new {lost value : Int} (h0 : 0 ≤ lost) (h1 : lost ≤ value) (h2 : value ≤ 1099511627776) : ClI lost (Fi.new lost value) (fun _ => 0) (fun _ => 0) :=
  ⟨Nev.new lost value, rfl, ⟨by simp [Fi.new], Int.le_refl _, by simp [Fi.new, paidF]; omega, h0, h1, h2⟩⟩
theorem ClI.add {lost : Int} {F : Fi} {fp fb : ByteArray → Int} (h : ClI lost F fp fb) {u : ByteArray} {n : Int} (h0 : 0 ≤ n) (hu : nameB u = true) (hn : hasF F.L u = false) :
    fp u = 0 ∧ ClI lost (addF F u n) (fun x => if x = u then min n (leftF F) else fp x) fb := by
  obtain ⟨a, b⟩ := h.nev.add n hu hn
  refine ⟨a, ⟨?_, h.loss, addF_ok h.ok u h0⟩⟩
  have e : paidF (addF F u n) = paidF F + min n (leftF F) := (paid_add F u n).1
  rw [e]; exact b
theorem ClI.back {lost : Int} {F : Fi} {fp fb : ByteArray → Int} (h : ClI lost F fp fb) {s : Int} (h0 : 0 ≤ s) (h1 : s ≤ outF F) :
    ClI lost (recF F s).1 fp (fun u => fb u + backE (recF F s).2 u) := by
  have hr := recF_ok h.ok h0 h1
  refine ⟨?_, h.loss, hr.1⟩
  rw [hr.2.2]; exact h.nev.back h.ok h0 h1
theorem ClI.outb {lost : Int} {F : Fi} {fp fb : ByteArray → Int} (h : ClI lost F fp fb) : 0 ≤ outF F ∧ outF F ≤ lost ∧ 0 ≤ paidF F ∧ 0 ≤ F.own ∧ paidF F + F.own ≤ lost ∧ lost ≤ 1099511627776 := by
  have h1 := ok_bd h.ok
  have h2 := open_le h.ok.each
  have h3 : paidF F = (pL F.L).sum := rfl
  have h4 := h.ok.all
  have h5 := h.loss
  unfold outF leftF at *
  omega
/-- What a claim does: all that the law asks. -/
structure Cl (lost : Int) (F F' : Fi) (fp fb : ByteArray → Int) (u : ByteArray) (amt c : Int) : Prop where
  inv : ClI lost F' (fun x => if x = u then fp u + amt else fp x) fb
  abd : 0 ≤ amt ∧ amt ≤ 1099511627776
  ref : c ≠ 0 → amt = 0
  len : F'.L.length ≤ F.L.length + 1
  own : F'.own = F.own
  out : outF F' = outF F
  bd : 0 ≤ fp u ∧ fp u ≤ 1099511627776
theorem cl_step {lost : Int} {F : Fi} {fp fb : ByteArray → Int} (h : ClI lost F fp fb) (o : Po) : Cl lost F (F.claim o.i o).1 fp fb o.i (F.claim o.i o).2.1 (F.claim o.i o).2.2 := by
  have hb := h.nev.bd h.ok o.i
  rcases claim_two F o.i o with ⟨h1, h2, h3⟩ | ⟨h1, h2, h3, h4⟩
  · rw [h2, h3]
    have e : (fun x => if x = o.i then fp o.i + 0 else fp x) = fp := by
      funext x
      by_cases e : x = o.i
      · rw [if_pos e, e]; omega
      · rw [if_neg e]
    exact ⟨by rw [e]; exact h, by omega, fun _ => rfl, by omega, rfl, rfl, ⟨hb.2.2.1, hb.2.2.2⟩⟩
  · rw [h4]
    have hP : (0 : Int) ≤ (o.paysN F.loss.toNat F.value.toNat : Int) := by omega
    obtain ⟨e0, e1⟩ := h.add hP (may_insurer h1) h3
    have hl := ok_bd h.ok
    refine ⟨?_, by dsimp only; omega, fun hc => absurd rfl hc, by simp [addF], rfl, out_add F _ _, ⟨hb.2.2.1, hb.2.2.2⟩⟩
    dsimp only
    rw [e0, Int.zero_add]
    exact e1
/-- What comes back: all that the law asks. -/
structure Bk (lost : Int) (F F' : Fi) (fp fb : ByteArray → Int) (s : Int) (D : List En) (c : Int) : Prop where
  inv : ClI lost F' fp (fun u => fb u + backE D u)
  len : D.length ≤ F.L.length + 1
  flen : F'.L.length = F.L.length
  nn : ∀ x ∈ D, 0 ≤ x.z
  nm : ∀ x ∈ D, x.t = ⟨#[]⟩ ∨ nameB x.t = true
  code : (c = 0 ↔ 0 < s ∧ lost - outF F + s ≤ lost)
  out : lost - outF F' = lost - outF F + sumE D
  own : F'.own = F.own + backE D ⟨#[]⟩
theorem bk_of {lost : Int} {F : Fi} {fp fb : ByteArray → Int} (h : ClI lost F fp fb) {s : Int} (h0 : 0 ≤ s) (h1 : s ≤ 65535) : Bk lost F (F.recover s).1 fp fb s (F.recover s).2.1 (F.recover s).2.2 := by
  have hb : (fun u => fb u + backE ([] : List En) u) = fb := by funext u; simp [backE]
  have hs0 : sumE ([] : List En) = 0 := rfl
  unfold Fi.recover
  by_cases c1 : s < 1 ∨ 1099511627776 < s
  · rw [if_pos c1]
    exact ⟨by rw [hb]; exact h, by simp, rfl, by simp, by simp, by dsimp only; omega, by rw [hs0]; show lost - outF F = lost - outF F + 0; omega, by simp [backE]⟩
  · rw [if_neg c1]
    by_cases c2 : outF F < s
    · rw [if_pos c2]
      exact ⟨by rw [hb]; exact h, by simp, rfl, by simp, by simp, by dsimp only; omega, by rw [hs0]; show lost - outF F = lost - outF F + 0; omega, by simp [backE]⟩
    · rw [if_neg c2]
      have hI := h.back h0 (show s ≤ outF F by omega)
      have hr := recF_ok h.ok h0 (show s ≤ outF F by omega)
      have he := h.nev.ents s
      refine ⟨hI, he.2, by show (recK F.L _).1.length = _; exact recK_len _ _, fun x hx => (he.1 x hx).2, fun x hx => (he.1 x hx).1, by dsimp only; omega, ?_, ?_⟩
      · dsimp only
        rw [out_rec h.ok h0 (by omega), hr.2.1]; omega
      · dsimp only
        rw [← hI.nev.efb0, ← h.nev.efb0]

theorem backE_take {D : List En} {k : Nat} (hk : k < D.length) (u : ByteArray) : backE (D.take (k + 1)) u = backE (D.take k) u + (if (D.getD k default).t = u then (D.getD k default).z else 0) := by
  rw [List.take_succ_eq_append_getElem hk, backE_app, List.getD_eq_getElem?_getD, List.getElem?_eq_getElem hk]
  simp [backE]
theorem sumE_tk {D : List En} {k : Nat} (hk : k < D.length) : sumE (D.take (k + 1)) = sumE (D.take k) + (D.getD k default).z := by
  rw [List.take_succ_eq_append_getElem hk, sumE_app, List.getD_eq_getElem?_getD, List.getElem?_eq_getElem hk]
  simp [sumE]
theorem backE_le {D : List En} (h : ∀ x ∈ D, 0 ≤ x.z) (k : Nat) (u : ByteArray) : 0 ≤ backE (D.take k) u ∧ backE (D.take k) u ≤ backE D u := by
  have e : backE (D.take k) u + backE (D.drop k) u = backE D u := by rw [← backE_app, List.take_append_drop]
  have h1 := backE_bd (D := D.take k) u (fun x hx => h x (List.mem_of_mem_take hx))
  have h2 := backE_bd (D := D.drop k) u (fun x hx => h x (List.mem_of_mem_drop hx))
  omega

theorem imap_run {P : Program} {k e t : TypeId} {w : World} {b n : Nat} {f : ByteArray → Int} (h : IMap P k e w b n f) (hk : P.underlying k = some .string) (ht : P.underlying t = some (.map k e)) (he : P.underlying e = some (.int .i64)) (hz : (zeroValue e).run P w = .ok (.int .i64 0) w)
    (s : ByteArray) (hs : s.size ≤ maxLen) : (Instr.lookup t (.map (some b)) (.string s) false).run P w = .ok (.int .i64 (f s)) w := by
  obtain ⟨D, ho, hf⟩ := h
  obtain ⟨c, hrun, hat, _⟩ := ho.lookup_int (Maps.string_keyed hk) ht he hz (WideMaps.keyOf_string_mk hk hs)
  have h1 := (hf s).symm.trans hat
  have e : f s = c := by injection h1 with h1; injection h1
  rw [e]; exact hrun
theorem zeroI64 (w : World) : (zeroValue 2).run Try.prog w = .ok (.int .i64 0) w := by kernel_rfl

/-- A file and a map, apart. -/
structure Cv (w0 w : World) (bf : Nat) (v : Value) (bp cp : Nat) (F : Fi) (f : ByteArray → Int) : Prop where
  fi : IsFi w bf v F
  mp : IMap Try.prog 9 2 w bp cp f
  lf : w0.heap.size ≤ bf
  lp : w0.heap.size ≤ bp
  lv : ∀ k, v.ownBlock = some k → w0.heap.size ≤ k
  n1 : bf ≠ bp
  n4 : v.ownBlock ≠ some bp
  bel : Below w0.heap.size w0 w
section
variable {w0 w w' : World} {bf bp cp cp' : Nat} {v v' : Value} {F F' : Fi} {f f' : ByteArray → Int}
theorem Cv.later (h : Cv w0 w bf v bp cp F f) (hb : Below w.heap.size w w') : Cv w0 w' bf v bp cp F f := by
  obtain ⟨fi, mp, lf, lp, lv, n1, n4, bel⟩ := h
  exact ⟨fi.below hb, mp.touch (Touch.of_below (S := fun _ => False) hb) (fun h => h), lf, lp, lv, n1, n4, bt bel hb⟩
theorem Cv.stepF (h : Cv w0 w bf v bp cp F f) (hf : IsFi w' bf v' F') (hk : Keep bf v w v' w') : Cv w0 w' bf v' bp cp F' f := by
  obtain ⟨fi, mp, lf, lp, lv, n1, n4, bel⟩ := h
  have hs := bel.size
  refine ⟨hf, mp.touch hk.touch ?_, lf, lp, fun k e => ?_, n1, fun e => ?_, bel.trans (hk.touch.below hs ?_)⟩
  · rintro (e | e)
    · exact n1 e.symm
    · exact n4 e
  · rcases hk.row k e with e | e
    · exact lv k e
    · omega
  · rcases hk.row _ e with e | e
    · exact n4 e
    · have := mp.lt; omega
  · rintro x (e | e)
    · subst e; exact lf
    · exact lv x e
theorem Cv.stepP (h : Cv w0 w bf v bp cp F f) (hm : IMap Try.prog 9 2 w' bp cp' f') (ht : Touch (fun k => k = bp) w w') : Cv w0 w' bf v bp cp' F f' := by
  obtain ⟨fi, mp, lf, lp, lv, n1, n4, bel⟩ := h
  exact ⟨fi.kept ht n1 (fun k hk e => by subst e; exact n4 hk), hm, lf, lp, lv, n1, n4, bel.trans (ht.below bel.size (fun x hx => by omega))⟩
theorem Cv.box (h : Cv w0 w bf v bp cp F f) {cs : Array Value} {t : TypeId} (hk : Keep bf v (w.alloc (.cells cs t)) v' w') : w'.heap[w.heap.size]? = some (.cells cs t) := by
  refine (hk.touch.block w.heap.size (by simp) ?_).trans (heap_alloc_new _ _)
  rintro (e | e)
  · have := h.fi.lt; omega
  · have := own_lt h.fi.row e; omega
end
/-- Entries lie in no map. -/
theorem Ens.off_map {w w' : World} {ao : Option Addr} {n cap bb cb : Nat} {D : List En} {f : ByteArray → Int} (h : Ens w (.slice ao n cap) D) (hn : n = D.length) (hm : IMap Try.prog 9 2 w bb cb f) (ht : Touch (fun k => k = bb) w w') : Ens w' (.slice ao n cap) D := by
  refine row_touch h ht (fun a c e hne g => ?_)
  cases e
  have hp : 0 < D.length := by
    cases D with
    | nil => exact absurd rfl hne
    | cons d D => simp
  obtain ⟨bl, off, e2, _, hc⟩ := h.get rfl hp
  cases e2
  obtain ⟨Dm, ho, _⟩ := hm
  obtain ⟨es, clock, hb, _⟩ := ho
  have h1 := (hc 0 hp).1
  rw [show bl = bb from g] at h1
  simp [World.cell?, hb] at h1
end Go.Proofs.Ytofkeipfkglljaa
