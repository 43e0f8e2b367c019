/-
  ClaimPlays: the program's file and the document's go side by side.
-/
import Derived.Test.YtamfdkigokicoaaMRec
namespace Go.Proofs.Ytamfdkigokicoaa
open Go Go.RowKit
set_option linter.unusedVariables false
set_option linter.unusedSimpArgs false

theorem claim_keeps (f : Fi) (u : ByteArray) (o : Po) : (f.claim u o).1.loss = f.loss ∧ (f.claim u o).1.value = f.value ∧ (f.claim u o).1.own = f.own ∧ (f.claim u o).1.L.length ≤ f.L.length + 1 := by
  unfold Fi.claim
  repeat' split
  all_goals exact ⟨rfl, rfl, rfl, by simp [addF]⟩
theorem recover_len (f : Fi) (s : Int) : (f.recover s).1.L.length = f.L.length := by
  unfold Fi.recover
  repeat' split
  all_goals first | rfl | exact recK_len _ _

/-- The two files, side by side. -/
structure Both (w0 w : World) (bf : Nat) (v : Value) (b9 : Nat) (ao : Option Addr) (n cap : Nat) (f : Fi) : Prop where
  fi : IsFi w bf v f
  rf : RF w ao n cap f
  box : w.heap[b9]? = some (.cells #[.int .i64 f.loss, .int .i64 f.value, .slice ao n cap, .int .i64 f.own] 41 (0, 0))
  lf : w0.heap.size ≤ bf
  l9 : w0.heap.size ≤ b9
  lv : ∀ k, v.ownBlock = some k → w0.heap.size ≤ k
  n1 : bf ≠ b9
  n2 : v.ownBlock ≠ some b9
  n3 : ∀ a, ao = some a → a.block ≠ bf ∧ a.block ≠ b9 ∧ v.ownBlock ≠ some a.block
  bel : Below w0.heap.size w0 w
theorem Both.later {w0 w w' : World} {bf b9 n cap : Nat} {v : Value} {ao : Option Addr} {f : Fi} (h : Both w0 w bf v b9 ao n cap f) (hb : Below w.heap.size w w') : Both w0 w' bf v b9 ao n cap f := by
  obtain ⟨fi, rf, box, lf, l9, lv, n1, n2, n3, bel⟩ := h
  exact ⟨fi.below hb, rf.below hb, (hb.block b9 (lt_of_block box)).trans box, lf, l9, lv, n1, n2, n3, bt bel hb⟩
theorem Both.drew {w0 w : World} {bf b9 n cap : Nat} {v : Value} {ao : Option Addr} {f : Fi} (h : Both w0 w bf v b9 ao n cap f) : Both w0 w.drew bf v b9 ao n cap f := h.later ((Below.refl w.heap.size w).drew)
theorem Both.cells {w0 w : World} {bf b9 n cap : Nat} {v : Value} {ao : Option Addr} {f : Fi} (h : Both w0 w bf v b9 ao n cap f) :
    w.cell? ⟨b9, 0, none⟩ = some (.int .i64 f.loss) ∧ w.cell? ⟨b9, 1, none⟩ = some (.int .i64 f.value) ∧ w.cell? ⟨b9, 2, none⟩ = some (.slice ao n cap) ∧ w.cell? ⟨b9, 3, none⟩ = some (.int .i64 f.own) ∧ ∀ j, w.frozen? ⟨b9, j, none⟩ = false := by
  have a := h.box
  exact ⟨by simp [World.cell?, a], by simp [World.cell?, a], by simp [World.cell?, a], by simp [World.cell?, a], fun j => by simp [World.frozen?, a]⟩
/-- Behind both calls: the document's box as it was, and the box of its answer. -/
theorem Both.mid {w0 w W1 W3 : World} {bf b9 n cap : Nat} {v v' : Value} {ao : Option Addr} {f : Fi} {cs : Array Value} {t : TypeId} (h : Both w0 w bf v b9 ao n cap f) (hb : Below w.heap.size w W1) (hk : Keep bf v (W1.alloc (.cells cs t)) v' W3) :
    W3.heap[b9]? = some (.cells #[.int .i64 f.loss, .int .i64 f.value, .slice ao n cap, .int .i64 f.own] 41 (0, 0)) ∧ W3.heap[W1.heap.size]? = some (.cells cs t) := by
  have l9 := lt_of_block h.box
  have lf := h.fi.lt
  have hs := hb.size
  have e1 : (W1.alloc (.cells cs t)).heap[b9]? = w.heap[b9]? := (Below.heap_alloc _ _ _ (by omega)).trans (hb.block b9 l9)
  refine ⟨(hk.touch.block b9 (by simp; omega) ?_).trans (e1.trans h.box), (hk.touch.block W1.heap.size (by simp) ?_).trans (heap_alloc_new _ _)⟩
  · rintro (e | e)
    · exact h.n1 e.symm
    · exact h.n2 e
  · rintro (e | e)
    · omega
    · have := own_lt h.fi.row e; omega

/-- A step of both, and the document's box is written anew. -/
theorem Both.step {w0 w W2 W3 : World} {bf b9 n cap n' cap' : Nat} {v v' : Value} {ao ao' : Option Addr} {f f' : Fi} (h : Both w0 w bf v b9 ao n cap f) (hb : Below w.heap.size w W2) (hr : RF W2 ao' n' cap' f') (hfr : ∀ a, ao' = some a → ao = some a ∨ w.heap.size ≤ a.block)
    (hf : IsFi W3 bf v' f') (hk : Keep bf v W2 v' W3) :
    Both w0 ((((W3.setCell ⟨b9, 0, none⟩ (.int .i64 f'.loss)).setCell ⟨b9, 1, none⟩ (.int .i64 f'.value)).setCell ⟨b9, 2, none⟩ (.slice ao' n' cap')).setCell ⟨b9, 3, none⟩ (.int .i64 f'.own)) bf v' b9 ao' n' cap' f' := by
  obtain ⟨fi, rf, box, lf, l9, lv, n1, n2, n3, bel⟩ := h
  have l9b := lt_of_block box
  have lfb := fi.lt
  have hs := hb.size
  have hvb : ∀ k, v.ownBlock = some k → k < w.heap.size := fun k hk => own_lt fi.row hk
  have e9 : W3.heap[b9]? = some (.cells #[.int .i64 f.loss, .int .i64 f.value, .slice ao n cap, .int .i64 f.own] 41 (0, 0)) := by
    refine (hk.touch.block b9 (by omega) ?_).trans ((hb.block b9 l9b).trans box)
    rintro (e | e)
    · exact n1 e.symm
    · exact n2 e
  have ha : ∀ a, ao' = some a → a.block ≠ bf ∧ a.block ≠ b9 ∧ v.ownBlock ≠ some a.block := fun a e => by
    rcases hfr a e with g | g
    · exact n3 a g
    · exact ⟨by omega, by omega, fun e2 => by have := hvb _ e2; omega⟩
  have t9 : Touch (fun k => k = b9) W3 ((((W3.setCell ⟨b9, 0, none⟩ (.int .i64 f'.loss)).setCell ⟨b9, 1, none⟩ (.int .i64 f'.value)).setCell ⟨b9, 2, none⟩ (.slice ao' n' cap')).setCell ⟨b9, 3, none⟩ (.int .i64 f'.own)) :=
    ((((Touch.refl (fun k => k = b9) W3).setCell (p := ⟨b9, 0, none⟩) (.inl rfl) _).setCell (p := ⟨b9, 1, none⟩) (.inl rfl) _).setCell (p := ⟨b9, 2, none⟩) (.inl rfl) _).setCell (p := ⟨b9, 3, none⟩) (.inl rfl) _
  have nv9 : v'.ownBlock ≠ some b9 := fun e => by
    rcases hk.row b9 e with g | g
    · exact n2 g
    · omega
  refine ⟨hf.kept t9 n1 (fun k hk2 e => by subst e; exact nv9 hk2), ⟨?_, hr.hn, hr.ok, hr.len, hr.v0, fun a e => ?_⟩, ?_, lf, l9, fun k e => ?_, n1, nv9, fun a e => ⟨(ha a e).1, (ha a e).2.1, fun e2 => ?_⟩, ?_⟩
  · have h1 := row_touch hr.row hk.touch (fun a c e _ => by
      have e2 : ao' = some a := by cases e; rfl
      rintro (g | g)
      · exact (ha a e2).1 g
      · exact (ha a e2).2.2 g)
    exact row_touch h1 t9 (fun a c e _ g => by
      have e2 : ao' = some a := by cases e; rfl
      exact (ha a e2).2.1 g)
  · have h1 := hr.lt a e
    have h2 := hk.touch.size
    have h3 := t9.size
    omega
  · rw [heap_set (heap_set (heap_set (heap_set e9)))]; rfl
  · rcases hk.row k e with g | g
    · exact lv k g
    · have := bel.size; omega
  · rcases hk.row _ e2 with g | g
    · exact (ha a e).2.2 g
    · have := hr.lt a e; omega
  · refine (bel.trans (hb.mono (by have := bel.size; omega))).trans ((hk.touch.below (by have := bel.size; omega) ?_).trans (t9.below (by have := bel.size; have := hk.touch.size; omega) ?_))
    · rintro k (g | g)
      · omega
      · exact lv k g
    · intro k g; omega

/-- Entries persist. -/
theorem Ens.kept {w w' : World} {v : Value} {D : List En} {S : Nat → Prop} (h : Ens w v D) (ht : Touch S w w') (hv : ∀ k, v.ownBlock = some k → ¬ S k) : Ens w' v D := by
  refine row_touch h ht (fun a c e _ g => ?_)
  subst e
  exact hv a.block rfl g

namespace claimPlays
set_option maxHeartbeats 1000000 in
theorem skip (a0 a1 : Int) (ao : Option Addr) (n cap : Nat) (l : List Ac) (w : World) (h : Acs w (.slice ao n cap) l) (hn : n = l.length) (hcap : n ≤ maxLen) (hf : actsB l = false) :
    Calls Try.prog 4 #[.int .i64 a0, .int .i64 a1, .slice ao n cap] w fun e w' => e = .returned (.bool true) ∧ Below w.heap.size w w' := by
  have HF := Lib.hid (fun w h => acts_any ao n cap l w h hn hcap)
  rw [hf] at HF
  have H := Lib.hid h
  clear h hn hcap hf
  go_enter Try.func4, Try.ntmps4
  go_wp2_with fail
  refine (awake44_any _).mono ?_
  rintro e w1 ⟨rfl, hb1⟩
  have HB1 := Lib.hid hb1
  clear hb1
  go_wp2_with fail
  refine (HF.out _ (H.out.below HB1.out)).mono ?_
  rintro e w2 ⟨rfl, rfl⟩
  go_wp2_with fail
  refine (awake44_any _).mono ?_
  rintro e w3 ⟨rfl, hb3⟩
  have HB3 := Lib.hid (bt HB1.out hb3)
  clear hb3
  go_wp2
  go_ret
  exact ⟨rfl, HB3.out⟩

set_option maxRecDepth 100000 in
set_option maxHeartbeats 4000000 in
theorem bad (a0 a1 : Int) (ao : Option Addr) (n cap : Nat) (l : List Ac) (w : World) (h : Acs w (.slice ao n cap) l) (hn : n = l.length) (hcap : n ≤ maxLen) (hf : actsB l = true) (hs : newB a0 a1 = false) :
    Calls Try.prog 4 #[.int .i64 a0, .int .i64 a1, .slice ao n cap] w fun e w' => e = .returned (.bool true) ∧ Below w.heap.size w w' := by
  have HF := Lib.hid (fun w h => acts_any ao n cap l w h hn hcap)
  rw [hf] at HF
  have HS := Lib.hid (fun w => new_bad a0 a1 w hs)
  have H := Lib.hid h
  clear h hn hcap hf
  by_cases h1 : a1 < 1
  · have d1 : decide (a1 < 1) = true := by rw [decide_eq_true_iff]; omega
    clear hs h1
    go_enter Try.func4, Try.ntmps4
    go_wp2_with fail
    refine (awake44_any _).mono ?_
    rintro e w1 ⟨rfl, hb1⟩
    have HB1 := Lib.hid hb1
    clear hb1
    go_wp2_with fail
    refine (HF.out _ (H.out.below HB1.out)).mono ?_
    rintro e w2 ⟨rfl, rfl⟩
    go_wp2_with fail
    refine (HS.out _).mono ?_
    rintro e w3 ⟨rfl, rfl⟩
    go_wp2
    go_ret
    exact ⟨rfl, HB1.out⟩
  · have d1 : decide (a1 < 1) = false := by rw [decide_eq_false_iff_not]; omega
    by_cases h2 : 1099511627776 < a1
    · have d2 : decide (1099511627776 < a1) = true := by rw [decide_eq_true_iff]; omega
      clear hs h1 h2
      go_enter Try.func4, Try.ntmps4
      go_wp2_with fail
      refine (awake44_any _).mono ?_
      rintro e w1 ⟨rfl, hb1⟩
      have HB1 := Lib.hid hb1
      clear hb1
      go_wp2_with fail
      refine (HF.out _ (H.out.below HB1.out)).mono ?_
      rintro e w2 ⟨rfl, rfl⟩
      go_wp2_with fail
      refine (HS.out _).mono ?_
      rintro e w3 ⟨rfl, rfl⟩
      go_wp2
      go_ret
      exact ⟨rfl, HB1.out⟩
    · have d2 : decide (1099511627776 < a1) = false := by rw [decide_eq_false_iff_not]; omega
      by_cases h3 : a0 < 0
      · have d3 : decide (a0 < 0) = true := by rw [decide_eq_true_iff]; omega
        clear hs h1 h2 h3
        go_enter Try.func4, Try.ntmps4
        go_wp2_with fail
        refine (awake44_any _).mono ?_
        rintro e w1 ⟨rfl, hb1⟩
        have HB1 := Lib.hid hb1
        clear hb1
        go_wp2_with fail
        refine (HF.out _ (H.out.below HB1.out)).mono ?_
        rintro e w2 ⟨rfl, rfl⟩
        go_wp2_with fail
        refine (HS.out _).mono ?_
        rintro e w3 ⟨rfl, rfl⟩
        go_wp2
        go_ret
        exact ⟨rfl, HB1.out⟩
      · have d3 : decide (a0 < 0) = false := by rw [decide_eq_false_iff_not]; omega
        have d4 : decide (a1 < a0) = true := by
          rw [decide_eq_true_iff]
          rcases Int.lt_or_le a1 a0 with g | g
          · exact g
          · rw [newB, decide_eq_true (show 1 ≤ a1 by omega), decide_eq_true (show a1 ≤ 1099511627776 by omega), decide_eq_true (show 0 ≤ a0 by omega), decide_eq_true g] at hs
            cases hs
        clear hs h1 h2 h3
        go_enter Try.func4, Try.ntmps4
        go_wp2_with fail
        refine (awake44_any _).mono ?_
        rintro e w1 ⟨rfl, hb1⟩
        have HB1 := Lib.hid hb1
        clear hb1
        go_wp2_with fail
        refine (HF.out _ (H.out.below HB1.out)).mono ?_
        rintro e w2 ⟨rfl, rfl⟩
        go_wp2_with fail
        refine (HS.out _).mono ?_
        rintro e w3 ⟨rfl, rfl⟩
        go_wp2
        go_ret
        exact ⟨rfl, HB1.out⟩
theorem rclaim_plays (w : World) (ao : Option Addr) (n cap : Nat) (f : Fi) (u : ByteArray) (o : Po) (h : RF w ao n cap f) (hl : f.L.length < 100) (hp : PoOk w o) :
    Calls Try.prog 18 #[.agg #[.int .i64 f.loss, .int .i64 f.value, .slice ao n cap, .int .i64 f.own], .string u, o.val] w fun e w' => ∃ ao' n' cap', e = .returned (.tuple #[.agg #[.int .i64 (f.claim u o).1.loss, .int .i64 (f.claim u o).1.value, .slice ao' n' cap', .int .i64 (f.claim u o).1.own], .int .i64 (f.claim u o).2.1, .int .i64 (f.claim u o).2.2]) ∧ RF w' ao' n' cap' (f.claim u o).1 ∧ Below w.heap.size w w' ∧ ∀ a, ao' = some a → ao = some a ∨ w.heap.size ≤ a.block := by
  have h0 := rclaim_any w ao n cap f u o h hl hp
  unfold RClaimed at h0
  obtain ⟨h1, h2, h3, -⟩ := claim_keeps f u o
  rw [h1, h2, h3]
  exact h0
theorem cells_of {w : World} {b : Nat} {t : TypeId} {x0 x1 x2 x3 : Value} (h : w.heap[b]? = some (.cells #[x0, x1, x2, x3] t (0, 0))) : w.cell? ⟨b, 0, none⟩ = some x0 ∧ w.cell? ⟨b, 1, none⟩ = some x1 ∧ w.cell? ⟨b, 2, none⟩ = some x2 ∧ w.cell? ⟨b, 3, none⟩ = some x3 ∧ ∀ j, w.frozen? ⟨b, j, none⟩ = false :=
  ⟨by simp [World.cell?, h], by simp [World.cell?, h], by simp [World.cell?, h], by simp [World.cell?, h], fun j => by simp [World.frozen?, h]⟩

set_option maxRecDepth 100000 in
set_option maxHeartbeats 16000000 in
theorem good (a0 a1 : Int) (ao : Option Addr) (n cap : Nat) (l : List Ac) (w : World) (h : Acs w (.slice ao n cap) l) (hn : n = l.length) (hcap : n ≤ maxLen) (hf : actsB l = true) (hs : newB a0 a1 = true) :
    Calls Try.prog 4 #[.int .i64 a0, .int .i64 a1, .slice ao n cap] w fun e w' => e = .returned (.bool true) ∧ Below w.heap.size w w' := by
  have HF := Lib.hid (fun w h => acts_any ao n cap l w h hn hcap)
  rw [hf] at HF
  have h20 : n ≤ 20 := by rw [hn]; exact ((acts_iff l).1 hf).1
  have HZs := Lib.hid (show ∀ k, k < n → (l.getD k default).o.zs.length ≤ 70 from fun k hk => ((acts_iff l).1 hf).2 k (by omega))
  have HS := Lib.hid (fun w => new_ok a0 a1 w hs)
  have H := Lib.hid h
  have HN := Lib.hid hn
  simp only [newB, Bool.and_eq_true, decide_eq_true_eq] at hs
  have d1 : decide (a1 < 1) = false := by rw [decide_eq_false_iff_not]; omega
  have d2 : decide (1099511627776 < a1) = false := by rw [decide_eq_false_iff_not]; omega
  have d3 : decide (a0 < 0) = false := by rw [decide_eq_false_iff_not]; omega
  have d4 : decide (a1 < a0) = false := by rw [decide_eq_false_iff_not]; omega
  have HPf := Lib.hid (fun w b v f h => paid_any w b v f h)
  have HPr := Lib.hid (fun w ao n cap f h => rpaid_any w ao n cap f h)
  clear h hn hcap hf hs
  go_enter Try.func4, Try.ntmps4
  go_wp2_with fail
  refine (awake44_any _).mono ?_
  rintro e w1 ⟨rfl, hb1⟩
  have HB1 := Lib.hid hb1
  clear hb1
  go_wp2_with fail
  refine (HF.out _ (H.out.below HB1.out)).mono ?_
  rintro e w2 ⟨rfl, rfl⟩
  go_wp2_with fail
  refine (HS.out _).mono ?_
  rintro e w3 ⟨rfl, hf3, hb3⟩
  have hba := (Below.refl w3.heap.size w3).alloc (Nat.le_refl _) (.cells #[.int .i64 a0, .int .i64 a1, .slice none 0 0, .int .i64 0] 41)
  have HB0 := Lib.hid (show Both w (w3.alloc (.cells #[.int .i64 a0, .int .i64 a1, .slice none 0 0, .int .i64 0] 41)) w2.heap.size (.slice none 0 0) w3.heap.size none 0 0 (Fi.new a0 a1) from
    ⟨hf3.below hba, ⟨Row.nil _ _, rfl, hf3.ok, by simp [Fi.new], hf3.v0, fun a e => by cases e⟩, heap_alloc_new _ _, HB1.out.size, Nat.le_trans HB1.out.size hb3.size, by simp [Value.ownBlock], by have := hf3.lt; omega, by simp [Value.ownBlock], fun a e => (by cases e), bt (bt HB1.out hb3) hba⟩)
  have HL0 := Lib.hid (show (Fi.new a0 a1).L.length ≤ 0 from Nat.le_refl _)
  obtain ⟨bf, hbf⟩ : ∃ b, b = w2.heap.size := ⟨_, rfl⟩
  obtain ⟨b9, hb9⟩ : ∃ b, b = w3.heap.size := ⟨_, rfl⟩
  clear hf3 hb3 hba HF HS
  go_wp2_with fail
  generalize w3.alloc (.cells #[.int .i64 a0, .int .i64 a1, .slice none 0 0, .int .i64 0] 41) = w4 at *
  rw [← hbf, ← hb9] at HB0
  rw [← hbf, ← hb9]
  clear hbf hb9
  generalize Fi.new a0 a1 = F0 at *
  go_loopw [64] (fun i wr => ∃ (k : Nat) (F : Fi) (v : Value) (ao2 : Option Addr) (n2 cap2 : Nat), k ≤ n ∧ i = .int .i64 (k : Int) ∧ Hid (F.L.length ≤ k) ∧ Hid (Both w wr bf v b9 ao2 n2 cap2 F)) (fun i _ => n - (intOf i).toNat)
  case atStart => exact ⟨0, F0, _, _, _, _, Nat.zero_le _, rfl, HL0, HB0⟩
  case round =>
    clear HB0 HL0
    obtain ⟨k, F, v, ao2, n2, cap2, hk, rfl, hL, hB⟩ := hrel
    by_cases hlt : k < n
    · have l1 : (k : Int) < (n : Int) := by omega
      have l0 : (0 : Int) ≤ (k : Int) := by omega
      obtain ⟨bl, off, rfl, hbl, hc⟩ := H.out.get HN.out (by omega)
      obtain ⟨u, i, f, t, sum, own, a, m, cap', zs, first, last, share, s, e, hmm, hc1, hc2, hok, k0, k1, k2, k3, k4, k5, k6, k7, k8, k9, k10⟩ := Acs.one hlt hc hbl hB.out.bel (H.out.mem (by rw [← HN.out]; exact hlt))
      have hz := HZs.out k hlt
      rw [e] at hz
      have hl100 : F.L.length < 100 := by have := hL.out; omega
      have hba := (Below.refl wr.heap.size wr).alloc (Nat.le_refl _) (.cells #[.string u, .string i, .string f, .string t, .int .i64 sum, .int .i64 own, .slice a m cap', .int .i64 first, .int .i64 last, .int .i64 share, .int .i64 s] 43)
      have HBa := Lib.hid (hB.out.later hba)
      have HPo := Lib.hid (show PoOk (wr.alloc (.cells #[.string u, .string i, .string f, .string t, .int .i64 sum, .int .i64 own, .slice a m cap', .int .i64 first, .int .i64 last, .int .i64 share, .int .i64 s] 43)) ⟨i, f, t, sum, own, .slice a m cap', zs, first, last, share⟩ from ⟨Ints.below hok.zs hba, hok.s1, hok.s2, hok.s3, by dsimp only at hz ⊢; omega⟩)
      have HZi := Lib.hid (show Ints wr (Value.slice a m cap') zs from hok.zs)
      obtain ⟨b0, b1, b2, b3, -⟩ := HBa.out.cells
      clear hc e hmm hc1 hc2 hok hz hba
      by_cases g : s = 0
      · have e0 : (s == 0) = true := by simp [g]
        have e1 : (s != 0) = false := by simp [g]
        have HRC := Lib.hid (rclaim_plays _ ao2 n2 cap2 F u _ HBa.out.rf hl100 HPo.out)
        have HPC := Lib.hid (fun W h hi => claim_any W bf v F u ⟨i, f, t, sum, own, .slice a m cap', zs, first, last, share⟩ h hl100 hi)
        have HLen := Lib.hid (Nat.le_trans (claim_keeps F u ⟨i, f, t, sum, own, .slice a m cap', zs, first, last, share⟩).2.2.2 (Nat.succ_le_succ hL.out))
        unfold Po.val Po.cells at HRC HPC
        dsimp only at HRC HPC
        generalize F.claim u ⟨i, f, t, sum, own, .slice a m cap', zs, first, last, share⟩ = R at *
        obtain ⟨F', nn, cc⟩ := R
        dsimp only at HRC HPC HLen
        clear g
        go_wp2_with fail
        refine HRC.out.mono ?_
        rintro e4 w4' ⟨ao4, n4, cap4, rfl, hrf, hb4, hfr⟩
        have hA := (Below.refl w4'.heap.size w4').alloc (Nat.le_refl _) (.cells #[.int .i64 F'.loss, .int .i64 F'.value, .slice ao4 n4 cap4, .int .i64 F'.own] 41)
        have hbA := bt hb4 hA
        have y0 := box_at (j := 0) (v := .string u) hbA rfl
        have y1 := box_at (j := 1) (v := .string i) hbA rfl
        have y2 := box_at (j := 2) (v := .string f) hbA rfl
        have y3 := box_at (j := 3) (v := .string t) hbA rfl
        have y4 := box_at (j := 4) (v := .int .i64 sum) hbA rfl
        have y5 := box_at (j := 5) (v := .int .i64 own) hbA rfl
        have y6 := box_at (j := 6) (v := .slice a m cap') hbA rfl
        have y7 := box_at (j := 7) (v := .int .i64 first) hbA rfl
        have y8 := box_at (j := 8) (v := .int .i64 last) hbA rfl
        have y9 := box_at (j := 9) (v := .int .i64 share) hbA rfl
        have x0 := box_at (j := 0) (v := .string u) hb4 rfl
        have x1 := box_at (j := 1) (v := .string i) hb4 rfl
        have x2 := box_at (j := 2) (v := .string f) hb4 rfl
        have x3 := box_at (j := 3) (v := .string t) hb4 rfl
        have x4 := box_at (j := 4) (v := .int .i64 sum) hb4 rfl
        have x5 := box_at (j := 5) (v := .int .i64 own) hb4 rfl
        have x6 := box_at (j := 6) (v := .slice a m cap') hb4 rfl
        have x7 := box_at (j := 7) (v := .int .i64 first) hb4 rfl
        have x8 := box_at (j := 8) (v := .int .i64 last) hb4 rfl
        have x9 := box_at (j := 9) (v := .int .i64 share) hb4 rfl
        have HPC2 := Lib.hid (HPC.out _ (HBa.out.fi.below hbA) (Ints.below HPo.out.zs hbA))
        have HX := Lib.hid (And.intro hb4 (And.intro (hrf.below hA) (And.intro hbA hfr)))
        clear hrf hb4 hfr hA hbA HRC HPC k0 k1 k2 k3 k4 k5 k6 k7 k8 k9 k10 b0 b1 b2 b3
        go_wp2_with fail
        refine HPC2.out.mono ?_
        rintro e5 w5 ⟨v5, rfl, hf5, hk5⟩
        obtain ⟨hb4, hrA, hbA, hfr⟩ := HX.out
        obtain ⟨m9, m12⟩ := HBa.out.mid hb4 hk5
        obtain ⟨c0, c1, c2, c3, cz⟩ := cells_of m9
        obtain ⟨q0, q1, q2, q3, -⟩ := cells_of m12
        have z0 := cz 0
        have z1 := cz 1
        have z2 := cz 2
        have z3 := cz 3
        have HSt := Lib.hid (HBa.out.step hbA hrA hfr hf5 hk5)
        have d5 : (cc != cc) = false := by simp
        have d6 : (nn != nn) = false := by simp
        clear y0 y1 y2 y3 y4 y5 y6 y7 y8 y9 x0 x1 x2 x3 x4 x5 x6 x7 x8 x9 hb4 hrA hbA hfr m9 m12 cz hf5 hk5 HPC2 HX
        go_wp2_with fail
        generalize (((w5.setCell ⟨b9, 0, none⟩ (.int .i64 F'.loss)).setCell ⟨b9, 1, none⟩ (.int .i64 F'.value)).setCell ⟨b9, 2, none⟩ (.slice ao4 n4 cap4)).setCell ⟨b9, 3, none⟩ (.int .i64 F'.own) = w6 at *
        clear c0 c1 c2 c3 q0 q1 q2 q3 z0 z1 z2 z3
        obtain ⟨o0, o1, o2, o3, -⟩ := HSt.out.cells
        have HP4 := Lib.hid (HPf.out _ bf _ F' HSt.out.drew.fi)
        have HR4 := Lib.hid (HPr.out _ ao4 n4 cap4 F' HSt.out.drew.rf)
        have HSd := Lib.hid HSt.out.drew
        go_region_with (first
          | (go_at_call 20; (with_reducible refine HP4.out.mono ?_); rintro e7 w7 ⟨rfl, hb7⟩; have HS7 := Lib.hid (HSd.out.later hb7); obtain ⟨o0, o1, o2, o3, -⟩ := HS7.out.cells; have HR7 := Lib.hid (HPr.out _ ao4 n4 cap4 F' HS7.out.rf); clear hb7)
          | (go_at_call 21; (with_reducible refine HR4.out.mono ?_); rintro e7 w7 ⟨rfl, hb7⟩; have HS7 := Lib.hid (HSd.out.later hb7); obtain ⟨o0, o1, o2, o3, -⟩ := HS7.out.cells; have HP7 := Lib.hid (HPf.out _ bf _ F' HS7.out.fi); clear hb7)
          | (go_at_call 20; (with_reducible refine HP7.out.mono ?_); rintro e8 w8 ⟨rfl, hb8⟩; have HS8 := Lib.hid (HS7.out.later hb8); clear hb8)
          | (go_at_call 21; (with_reducible refine HR7.out.mono ?_); rintro e8 w8 ⟨rfl, hb8⟩; have HS8 := Lib.hid (HS7.out.later hb8); clear hb8))
        all_goals
          go_wp2
          go_roundw
          case rel => exact ⟨k + 1, F', _, ao4, n4, cap4, by omega, by go_num, HLen, HS8⟩
          case measure => simp [intOf]; omega
      · have e0 : (s == 0) = false := by rw [beq_eq_false_iff_ne]; exact g
        have e1 : (s != 0) = true := by simp [bne, e0]
        have HRR := Lib.hid (rrec_any _ ao2 n2 cap2 F s HBa.out.rf)
        have HPR := Lib.hid (fun W h => recover_any W bf v F s h)
        have HLen := Lib.hid (show (F.recover s).1.L.length ≤ k + 1 by rw [recover_len]; have := hL.out; omega)
        unfold RRecd at HRR
        generalize F.recover s = R at *
        obtain ⟨F', D, cc⟩ := R
        dsimp only at HRR HPR HLen
        clear g
        go_wp2_with fail
        refine HRR.out.mono ?_
        rintro e4 w4' ⟨ao4, n4, cap4, vg, rfl, hrf, hen, hb4, hfr, hvg⟩
        have hA := (Below.refl w4'.heap.size w4').alloc (Nat.le_refl _) (.cells #[.int .i64 F'.loss, .int .i64 F'.value, .slice ao4 n4 cap4, .int .i64 F'.own] 41)
        have hbA := bt hb4 hA
        have y10 := box_at (j := 10) (v := .int .i64 s) hbA rfl
        have x10 := box_at (j := 10) (v := .int .i64 s) hb4 rfl
        obtain ⟨vga, vgc, evg, -⟩ := hen.shape
        have HPR2 := Lib.hid (HPR.out _ (HBa.out.fi.below hbA))
        have HX := Lib.hid (And.intro hb4 (And.intro (hrf.below hA) (And.intro hbA (And.intro hfr (And.intro hvg (Row.below hen hA))))))
        subst evg
        obtain ⟨dl, hdl⟩ : ∃ x, x = D.length := ⟨_, rfl⟩
        rw [← hdl] at HX ⊢
        have HDl := Lib.hid hdl
        clear hrf hb4 hfr hA hbA HRR HPR hen hvg hdl k0 k1 k2 k3 k4 k5 k6 k7 k8 k9 k10 b0 b1 b2 b3
        go_wp2_with fail
        refine HPR2.out.mono ?_
        rintro e5 w5 ⟨vg2, rfl, hf5, hen5, hk5⟩
        obtain ⟨hb4, hrA, hbA, hfr, hvg, henA⟩ := HX.out
        obtain ⟨m9, m12⟩ := HBa.out.mid hb4 hk5
        have hw5 : Ens w5 (.slice vga dl vgc) D := by
          have h8 : Ens (w4'.alloc (.cells #[.int .i64 F'.loss, .int .i64 F'.value, .slice ao4 n4 cap4, .int .i64 F'.own] 41)) (.slice vga dl vgc) D := by unfold Ens; rw [← HDl.out]; exact henA
          refine Ens.kept h8 hk5.touch (fun x hx => ?_)
          have h9 := hvg x hx
          have h10 := HBa.out.fi.lt
          rintro (e | e)
          · omega
          · have := own_lt HBa.out.fi.row e; omega
        obtain ⟨va2, vc2, ev2, -⟩ := hen5.shape
        subst ev2
        rw [← HDl.out] at hen5 ⊢
        have HSm := Lib.hid (rsame44_any _ _ D w5 hen5 hw5)
        have HM := Lib.hid (And.intro m9 m12)
        have HSt0 := Lib.hid (fun W3 (hb6 : Below w5.heap.size w5 W3) => HBa.out.step hbA hrA hfr (hf5.below hb6) (hk5.below hb6))
        have d5 : (cc != cc) = false := by simp
        clear y10 x10 hb4 hrA hbA hfr hvg henA m9 m12 hf5 hk5 hen5 hw5 HPR2 HX
        go_wp2_with fail
        refine HSm.out.mono ?_
        rintro e6 w6' ⟨rfl, hb6⟩
        obtain ⟨m9, m12⟩ := HM.out
        obtain ⟨c0, c1, c2, c3, cz⟩ := cells_of ((hb6.block b9 (lt_of_block m9)).trans m9)
        obtain ⟨q0, q1, q2, q3, -⟩ := cells_of ((hb6.block _ (lt_of_block m12)).trans m12)
        have z0 := cz 0
        have z1 := cz 1
        have z2 := cz 2
        have z3 := cz 3
        have HSt := Lib.hid (HSt0.out w6' hb6)
        clear m9 m12 cz hb6 HSm HSt0 HM
        go_wp2_with fail
        generalize (((w6'.setCell ⟨b9, 0, none⟩ (.int .i64 F'.loss)).setCell ⟨b9, 1, none⟩ (.int .i64 F'.value)).setCell ⟨b9, 2, none⟩ (.slice ao4 n4 cap4)).setCell ⟨b9, 3, none⟩ (.int .i64 F'.own) = w6 at *
        clear c0 c1 c2 c3 q0 q1 q2 q3 z0 z1 z2 z3
        obtain ⟨o0, o1, o2, o3, -⟩ := HSt.out.cells
        have HP4 := Lib.hid (HPf.out _ bf _ F' HSt.out.drew.fi)
        have HR4 := Lib.hid (HPr.out _ ao4 n4 cap4 F' HSt.out.drew.rf)
        have HSd := Lib.hid HSt.out.drew
        go_region_with (first
          | (go_at_call 20; (with_reducible refine HP4.out.mono ?_); rintro e7 w7 ⟨rfl, hb7⟩; have HS7 := Lib.hid (HSd.out.later hb7); obtain ⟨o0, o1, o2, o3, -⟩ := HS7.out.cells; have HR7 := Lib.hid (HPr.out _ ao4 n4 cap4 F' HS7.out.rf); clear hb7)
          | (go_at_call 21; (with_reducible refine HR4.out.mono ?_); rintro e7 w7 ⟨rfl, hb7⟩; have HS7 := Lib.hid (HSd.out.later hb7); obtain ⟨o0, o1, o2, o3, -⟩ := HS7.out.cells; have HP7 := Lib.hid (HPf.out _ bf _ F' HS7.out.fi); clear hb7)
          | (go_at_call 20; (with_reducible refine HP7.out.mono ?_); rintro e8 w8 ⟨rfl, hb8⟩; have HS8 := Lib.hid (HS7.out.later hb8); clear hb8)
          | (go_at_call 21; (with_reducible refine HR7.out.mono ?_); rintro e8 w8 ⟨rfl, hb8⟩; have HS8 := Lib.hid (HS7.out.later hb8); clear hb8))
        all_goals
          go_wp2
          go_roundw
          case rel => exact ⟨k + 1, F', _, ao4, n4, cap4, by omega, by go_num, HLen, HS8⟩
          case measure => simp [intOf]; omega
    · obtain rfl : k = n := by omega
      go_wp2
      go_ret
      exact ⟨rfl, hB.out.bel⟩

theorem walk (a0 a1 : Int) (v2 : Value) (w : World) (w0 : (Lit.int .i64 a0).wf = true) (w1 : (Lit.int .i64 a1).wf = true) (w2 : Is34 w v2) :
    Calls Try.prog 4 #[.int .i64 a0, .int .i64 a1, v2] w fun e w' => e = .returned (.bool true) ∧ Below w.heap.size w w' := by
  obtain ⟨l, h⟩ := w2
  obtain ⟨ao, cap, rfl, h1, h2, _⟩ := h.shape
  cases hf : actsB l with
  | false => exact skip a0 a1 ao l.length cap l w h rfl (by omega) hf
  | true =>
    cases hs : newB a0 a1 with
    | false => exact bad a0 a1 ao l.length cap l w h rfl (by omega) hf hs
    | true => exact good a0 a1 ao l.length cap l w h rfl (by omega) hf hs
end claimPlays
end Go.Proofs.Ytamfdkigokicoaa
