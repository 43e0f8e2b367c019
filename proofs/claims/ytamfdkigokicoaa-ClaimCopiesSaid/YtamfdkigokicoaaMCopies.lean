/-
  ClaimCopies: a copy goes on alone.
-/
import Derived.Test.YtamfdkigokicoaaCPlays
import Derived.Test.YtamfdkigokicoaaCWhole
namespace Go.Proofs.Ytamfdkigokicoaa
open Go Go.RowKit Go.Deep
set_option linter.unusedVariables false
set_option linter.unusedSimpArgs false

theorem clone_pm (n : Nat) (cs : List Value) (v : Value) (w : World) (hv : Row w v 3 n cs) (h1 : ∀ u ∈ cs, u.oneCell' = true) (hn : n ≤ 100) :
    Calls Try.prog 44 #[v] w fun e w' => ∃ u, e = .returned u ∧ w'.ownsRow w.heap.size 85 3 u n cs ∧ Below w.heap.size w w' := by
  obtain ⟨hl, ao, cap, rfl, q1, q2, q3, hc⟩ := hv
  cases ao with
  | none =>
    obtain rfl := q3 rfl
    obtain rfl : n = 0 := by omega
    obtain rfl : cs = [] := List.eq_nil_of_length_eq_zero (by omega)
    have hnl := @Lib.run_eql_slice_nil Try.prog
    go_enter Try.func44, Try.ntmps44
    go_wp2
    go_ret
    exact ⟨_, rfl, World.ownsRow_nil _ _ _ _, Below.refl _ _⟩
  | some a =>
    obtain ⟨i0, hi, hz0, hz1, hz2⟩ := info_parts Try.infoPm
    have hnl := @Lib.run_eql_slice_nil Try.prog
    have hb1 : Below w.heap.size w (w.alloc (.cells #[] 85)) := (Below.refl _ _).alloc (Nat.le_refl _) _
    have HC := Lib.hid (show ∀ j u, cs[j]? = some u → (w.alloc (.cells #[] 85)).cell? (a.add j) = some u from fun j u hu => cell_later hb1 (hc a rfl j u hu))
    have H1 := Lib.hid h1
    have HB := Lib.hid hb1
    have HLn := Lib.hid hl
    clear hb1 h1
    have HO := Lib.hid (show (w.alloc (.cells #[] 85)).ownsRow w.heap.size 85 3 (.slice (some ⟨w.heap.size, 0, none⟩) 0 0) 0 [] from
      ⟨by simp, .inr ⟨w.heap.size, 0, #[], rfl, Nat.le_refl _, heap_alloc_new _ _, Nat.le_refl _, by unfold maxLen; omega, by simp, by simp⟩⟩)
    clear hc hl
    go_enter Try.func44, Try.ntmps44
    go_wp2_with (at_builtin; refine wpList_append_own _ rfl _ _ 77 rfl w.heap.size 85 i0 _ 3 32 Try.underlying77 hi hz0 hz1 hz2 rfl (by decide) _ _ _ rfl HO.out a n cap cs rfl HLn.out HC.out H1.out (by simp only [maxLen]; omega) (by omega) (by simp) ?_; intro v' w1 hown hgrow hnil)
    go_ret
    exact ⟨_, rfl, by simpa using hown, HB.out.grown hgrow (by simp) (fun k hk => by cases hk; exact Nat.le_refl _)⟩

set_option maxHeartbeats 2000000 in
theorem copy_any (w : World) (b : Nat) (v : Value) (f : Fi) (h : IsFi w b v f) :
    Calls Try.prog 22 #[.pointer (some ⟨b, 0, none⟩)] w fun e w' => ∃ b2 v2, e = .returned (.pointer (some ⟨b2, 0, none⟩)) ∧ IsFi w' b2 v2 f ∧ w.heap.size ≤ b2 ∧ (∀ k, v2.ownBlock = some k → w.heap.size ≤ k) ∧ Below w.heap.size w w' := by
  have hba := (Below.refl w.heap.size w).alloc (Nat.le_refl _) (.cells (f.cells v) 79)
  have hs1 : (w.alloc (.cells (f.cells v) 79)).heap.size = w.heap.size + 1 := by simp
  obtain ⟨ao, cap, e, q1, q2⟩ := h.shape
  have k0 : w.cell? ⟨b, 0, none⟩ = some (.int .i64 f.loss) := h.cell 0
  have k1 : w.cell? ⟨b, 1, none⟩ = some (.int .i64 f.value) := h.cell 1
  have k2 : w.cell? ⟨b, 2, none⟩ = some v := h.cell 2
  have k3 : w.cell? ⟨b, 3, none⟩ = some (.int .i64 f.own) := h.cell 3
  have m2 := cell_later hba k2
  have HC := Lib.hid (clone_pm f.L.length (f.L.flatMap Pm.cells) v _ (Row.below h.pms hba) (fun u hu => by obtain ⟨o, _, ho⟩ := List.mem_flatMap.1 hu; exact one_pm o u ho) h.len)
  have HN := Lib.hid (heap_alloc_new w (.cells (f.cells v) 79))
  have HB := Lib.hid hba
  have H := Lib.hid h
  have HS := Lib.hid hs1
  obtain ⟨n, hn⟩ : ∃ n, n = f.L.length := ⟨_, rfl⟩
  rw [← hn] at e
  subst e
  have HNn := Lib.hid hn
  unfold Fi.cells at HC HN HB HS m2
  clear h hba hs1 q1 q2 hn
  go_enter Try.func22, Try.ntmps22
  go_wp2_with fail
  refine HC.out.mono ?_
  rintro e w2 ⟨u, rfl, hown, hb2⟩
  obtain ⟨a2, c2', e2⟩ := own_shape hown
  have hx : w2.heap[w.heap.size]? = some (.cells (f.cells (.slice ao n cap)) 79 (0, 0)) := (hb2.block w.heap.size (by rw [HS.out]; omega)).trans HN.out
  have z2 : w2.cell? ⟨w.heap.size, 2, none⟩ = some (.slice ao n cap) := by simp [World.cell?, hx, Fi.cells]
  have zf : w2.frozen? ⟨w.heap.size, 2, none⟩ = false := by simp [World.frozen?, hx]
  have HX := Lib.hid (And.intro hx (And.intro hown hb2))
  subst e2
  clear hx hown hb2 m2
  go_wp2
  go_ret
  obtain ⟨hx, hown, hb2⟩ := HX.out
  have hlo : ∀ k, (Value.slice a2 f.L.length c2').ownBlock = some k → w.heap.size + 1 ≤ k := fun k hk => by
    have h8 := own_block hown hk
    rw [HS.out] at h8
    exact h8
  refine ⟨_, _, rfl, IsFi.put (f := f) hx ⟨hown.1, hown.2.imp id (fun ⟨g, c, cur, a1, _, a3⟩ => ⟨g, c, cur, a1, Nat.zero_le _, a3⟩)⟩ (fun e => by have := hlo _ e; omega) rfl H.out.ok H.out.len H.out.v0, Nat.le_refl _, fun k hk => by have := hlo k hk; omega, (bt HB.out hb2).setCell (p := ⟨w.heap.size, 2, none⟩) (Nat.le_refl _) _⟩

def Is32 (w : World) (v : Value) : Prop := ∃ o : Po, v = o.val ∧ AcOk w ⟨⟨#[]⟩, o, 0⟩
set_option maxRecDepth 20000 in
theorem open32 {H : Type} {enc : TypeId × Value → H} {W : World} {base : Nat} {v : Value} {d : DataW H} {p : List MemPlace} (hval : Value.okWide Try.prog W .any base 32 v)
    (h : DataW.Trod enc Try.prog W 0 (fun _ => true) true 32 v d p) : Is32 W v := by
  obtain ⟨⟨cs⟩, rfl, hsz⟩ := WideShapes.okWide_struct Try.underlying32 hval
  rw [cellsPol] at hsz
  obtain ⟨fuel, hf⟩ := h
  have hsz : cs.length = 9 := hsz
  match cs, hsz with
  | [c0, c1, c2, c3, c4, c5, c6, c7, c8], _ =>
    have ht : DataW.trod enc Try.prog W 0 (fun _ => true) true fuel 32 [c0, c1, c2, c3, c4, c5, c6, c7, c8] = some (d, p) := by simpa [Value.cells] using hf
    obtain ⟨_, m, hps⟩ := fields_at Try.underlying32 (by kernel_rfl) (by kernel_rfl) ht
    obtain ⟨v0, y0, e0, p0⟩ := hps 0 _ rfl
    obtain ⟨v1, y1, e1, p1⟩ := hps 1 _ rfl
    obtain ⟨v2, y2, e2, p2⟩ := hps 2 _ rfl
    obtain ⟨v3, y3, e3, p3⟩ := hps 3 _ rfl
    obtain ⟨v4, y4, e4, p4⟩ := hps 4 _ rfl
    obtain ⟨v5, y5, e5, p5⟩ := hps 5 _ rfl
    obtain ⟨v6, y6, e6, p6⟩ := hps 6 _ rfl
    obtain ⟨v7, y7, e7, p7⟩ := hps 7 _ rfl
    obtain ⟨v8, y8, e8, p8⟩ := hps 8 _ rfl
    simp at e0 e1 e2 e3 e4 e5 e6 e7 e8
    subst e0 e1 e2 e3 e4 e5 e6 e7 e8
    obtain ⟨z0, r0, _, hw0⟩ := DataW.trod_string Try.underlying9 p0
    obtain ⟨z1, r1, _, hw1⟩ := DataW.trod_string Try.underlying9 p1
    obtain ⟨z2, r2, _, hw2⟩ := DataW.trod_string Try.underlying9 p2
    obtain ⟨z3, r3, _, hw3⟩ := DataW.trod_int Try.underlying2 p3
    obtain ⟨z4, r4, _, hw4⟩ := DataW.trod_int Try.underlying2 p4
    obtain ⟨zs, hzs⟩ := ints_trod p5
    obtain ⟨z6, r6, _, hw6⟩ := DataW.trod_int Try.underlying3 p6
    obtain ⟨z7, r7, _, hw7⟩ := DataW.trod_int Try.underlying3 p7
    obtain ⟨z8, r8, _, hw8⟩ := DataW.trod_int Try.underlying3 p8
    cases r0; cases r1; cases r2; cases r3; cases r4; cases r6; cases r7; cases r8
    exact ⟨⟨z0, z1, z2, z3, z4, _, zs, z6, z7, z8⟩, rfl, ⟨hzs.1, hw0, hw1, hw2⟩⟩

/-- The two files, each as far as it is. -/
structure Half (w0 w : World) (bf : Nat) (v : Value) (b9 : Nat) (ao : Option Addr) (n cap : Nat) (fp fr : Fi) : Prop where
  fi : IsFi w bf v fp
  rf : RF w ao n cap fr
  box : w.heap[b9]? = some (.cells #[.int .i64 fr.loss, .int .i64 fr.value, .slice ao n cap, .int .i64 fr.own] 41 (0, 0))
  lf : w0.heap.size ≤ bf
  l9 : w0.heap.size ≤ b9
  lv : ∀ k, v.ownBlock = some k → w0.heap.size ≤ k
  n1 : bf ≠ b9
  n2 : v.ownBlock ≠ some b9
  n3 : ∀ a, ao = some a → a.block ≠ bf ∧ a.block ≠ b9 ∧ v.ownBlock ≠ some a.block
  bel : Below w0.heap.size w0 w
theorem Half.later {w0 w w' : World} {bf b9 n cap : Nat} {v : Value} {ao : Option Addr} {fp fr : Fi} (h : Half w0 w bf v b9 ao n cap fp fr) (hb : Below w.heap.size w w') : Half w0 w' bf v b9 ao n cap fp fr := by
  obtain ⟨fi, rf, box, lf, l9, lv, n1, n2, n3, bel⟩ := h
  exact ⟨fi.below hb, rf.below hb, (hb.block b9 (lt_of_block box)).trans box, lf, l9, lv, n1, n2, n3, bt bel hb⟩
theorem Half.drew {w0 w : World} {bf b9 n cap : Nat} {v : Value} {ao : Option Addr} {fp fr : Fi} (h : Half w0 w bf v b9 ao n cap fp fr) : Half w0 w.drew bf v b9 ao n cap fp fr := h.later ((Below.refl w.heap.size w).drew)
/-- The program's step. -/
theorem Half.prog {w0 w w' : World} {bf b9 n cap : Nat} {v v' : Value} {ao : Option Addr} {fp fr fp' : Fi} (h : Half w0 w bf v b9 ao n cap fp fr) (hf : IsFi w' bf v' fp') (hk : Keep bf v w v' w') : Half w0 w' bf v' b9 ao n cap fp' fr := by
  obtain ⟨fi, rf, box, lf, l9, lv, n1, n2, n3, bel⟩ := h
  have hs := hk.touch.size
  refine ⟨hf, ⟨?_, rf.hn, rf.ok, rf.len, rf.v0, fun a e => by have := rf.lt a e; omega⟩, (hk.touch.block b9 (lt_of_block box) ?_).trans box, lf, l9, fun k e => ?_, n1, fun e => ?_, fun a e => ⟨(n3 a e).1, (n3 a e).2.1, fun e2 => ?_⟩, bel.trans (hk.touch.below bel.size ?_)⟩
  · exact row_touch rf.row hk.touch (fun a c e _ => by
      have e2 : ao = some a := by cases e; rfl
      rintro (g | g)
      · exact (n3 a e2).1 g
      · exact (n3 a e2).2.2 g)
  · rintro (e | e)
    · exact n1 e.symm
    · exact n2 e
  · rcases hk.row k e with g | g
    · exact lv k g
    · have := bel.size; omega
  · rcases hk.row b9 e with g | g
    · exact n2 g
    · have := lt_of_block box; omega
  · rcases hk.row _ e2 with g | g
    · exact (n3 a e).2.2 g
    · have := rf.lt a e; omega
  · rintro k (g | g)
    · omega
    · exact lv k g
/-- The document's step. -/
theorem Half.ref {w0 w W2 : World} {bf b9 n cap n' cap' : Nat} {v : Value} {ao ao' : Option Addr} {fp fr fr' : Fi} (h : Half w0 w bf v b9 ao n cap fp fr) (hb : Below w.heap.size w W2) (hr : RF W2 ao' n' cap' fr') (hfr : ∀ a, ao' = some a → ao = some a ∨ w.heap.size ≤ a.block) :
    Half w0 ((((W2.setCell ⟨b9, 0, none⟩ (.int .i64 fr'.loss)).setCell ⟨b9, 1, none⟩ (.int .i64 fr'.value)).setCell ⟨b9, 2, none⟩ (.slice ao' n' cap')).setCell ⟨b9, 3, none⟩ (.int .i64 fr'.own)) bf v b9 ao' n' cap' fp fr' := by
  obtain ⟨fi, rf, box, lf, l9, lv, n1, n2, n3, bel⟩ := h
  have l9b := lt_of_block box
  have lfb := fi.lt
  have hs := hb.size
  have hvb : ∀ k, v.ownBlock = some k → k < w.heap.size := fun k hk => own_lt fi.row hk
  have e9 := (hb.block b9 l9b).trans box
  have ha : ∀ a, ao' = some a → a.block ≠ bf ∧ a.block ≠ b9 ∧ v.ownBlock ≠ some a.block := fun a e => by
    rcases hfr a e with g | g
    · exact n3 a g
    · exact ⟨by omega, by omega, fun e2 => by have := hvb _ e2; omega⟩
  have t9 : Touch (fun k => k = b9) W2 ((((W2.setCell ⟨b9, 0, none⟩ (.int .i64 fr'.loss)).setCell ⟨b9, 1, none⟩ (.int .i64 fr'.value)).setCell ⟨b9, 2, none⟩ (.slice ao' n' cap')).setCell ⟨b9, 3, none⟩ (.int .i64 fr'.own)) :=
    ((((Touch.refl (fun k => k = b9) W2).setCell (p := ⟨b9, 0, none⟩) (.inl rfl) _).setCell (p := ⟨b9, 1, none⟩) (.inl rfl) _).setCell (p := ⟨b9, 2, none⟩) (.inl rfl) _).setCell (p := ⟨b9, 3, none⟩) (.inl rfl) _
  refine ⟨(fi.below hb).kept t9 n1 (fun k hk2 e => by subst e; exact n2 hk2), ⟨?_, hr.hn, hr.ok, hr.len, hr.v0, fun a e => ?_⟩, ?_, lf, l9, lv, n1, n2, ha, ?_⟩
  · exact row_touch hr.row t9 (fun a c e _ g => by
      have e2 : ao' = some a := by cases e; rfl
      exact (ha a e2).2.1 g)
  · have h1 := hr.lt a e
    have h3 := t9.size
    omega
  · rw [heap_set (heap_set (heap_set (heap_set e9)))]; rfl
  · refine (bel.trans (hb.mono (by have := bel.size; omega))).trans (t9.below (by have := bel.size; omega) ?_)
    intro k g; omega

/-- A copy's own calls leave what was there before it. -/
theorem Keep.fresh {B : Nat} {w0 w w' : World} {b : Nat} {v v' : Value} (hB : Below B w0 w) (hk : Keep b v w v' w') (hb : B ≤ b) (hv : ∀ k, v.ownBlock = some k → B ≤ k) (hs : B ≤ w.heap.size) : Below B w0 w' ∧ ∀ k, v'.ownBlock = some k → B ≤ k := by
  refine ⟨hB.trans (hk.touch.below hs ?_), fun k e => ?_⟩
  · rintro k (g | g)
    · omega
    · exact hv k g
  · rcases hk.row k e with g | g
    · exact hv k g
    · omega

namespace claimCopies
set_option maxRecDepth 100000 in
set_option maxHeartbeats 16000000 in
/-- The acts, and what stands behind them. -/
theorem good (a0 a1 sm : Int) (ao : Option Addr) (n cap : Nat) (l : List Ac) (po : Po) (w : World) (h : Acs w (.slice ao n cap) l) (hn : n = l.length) (hcap : n ≤ maxLen) (hpo : AcOk w ⟨⟨#[]⟩, po, 0⟩) (hf : actsB l = true) (hz70 : po.zs.length ≤ 70) (hs : newB a0 a1 = true) :
    Calls Try.prog 7 #[.int .i64 a0, .int .i64 a1, .slice ao n cap, .int .i64 sm, po.val] w fun e w' => e = .returned (.bool true) ∧ Below w.heap.size w w' := by
  obtain ⟨pi, pf, pt, psum, pown, pa, pm, pcap, pfirst, plast, pshare, ep, hpn, hpc1, hpc2⟩ := Po.apart hpo.zs
  dsimp only at ep hpn
  have hwp := (Below.refl w.heap.size w).alloc (Nat.le_refl _) (.cells (Po.cells po).toArray 32)
  have HPk := Lib.hid (show PoOk (w.alloc (.cells (Po.cells po).toArray 32)) po from ⟨hpo.zs.below hwp, hpo.s1, hpo.s2, hpo.s3, by omega⟩)
  have HA1 := Lib.hid (h.below hwp)
  have HBp := Lib.hid hwp
  have HPv := Lib.hid (show po.val = .agg #[.string pi, .string pf, .string pt, .int .i64 psum, .int .i64 pown, .slice pa pm pcap, .int .i64 pfirst, .int .i64 plast, .int .i64 pshare] by rw [ep]; rfl)
  have HPc := Lib.hid (show (Po.cells po).toArray = #[.string pi, .string pf, .string pt, .int .i64 psum, .int .i64 pown, .slice pa pm pcap, .int .i64 pfirst, .int .i64 plast, .int .i64 pshare] by rw [ep]; rfl)
  have HPi := Lib.hid (show po.i = pi by rw [ep])
  rw [HPv.out]
  rw [HPc.out] at HPk HA1 HBp
  have HXp := Lib.hid (heap_alloc_new w (.cells #[.string pi, .string pf, .string pt, .int .i64 psum, .int .i64 pown, .slice pa pm pcap, .int .i64 pfirst, .int .i64 plast, .int .i64 pshare] 32))
  have HFw := Lib.hid (show ∀ W, Below (w.alloc (.cells #[.string pi, .string pf, .string pt, .int .i64 psum, .int .i64 pown, .slice pa pm pcap, .int .i64 pfirst, .int .i64 plast, .int .i64 pshare] 32)).heap.size (w.alloc (.cells #[.string pi, .string pf, .string pt, .int .i64 psum, .int .i64 pown, .slice pa pm pcap, .int .i64 pfirst, .int .i64 plast, .int .i64 pshare] 32)) W → Pos (W.alloc (.cells #[.string pi, .string pf, .string pt, .int .i64 psum, .int .i64 pown, .slice pa pm pcap, .int .i64 pfirst, .int .i64 plast, .int .i64 pshare] 32)) (.slice (some ⟨W.heap.size, 0, none⟩) 1 1) [po] from fun W hW => by
    refine ⟨?_, fun o ho => ?_⟩
    · have := row_lit W 32 9 1 #[.string pi, .string pf, .string pt, .int .i64 psum, .int .i64 pown, .slice pa pm pcap, .int .i64 pfirst, .int .i64 plast, .int .i64 pshare] rfl (by unfold maxLen; omega)
      have e : [po].flatMap Po.cells = (#[.string pi, .string pf, .string pt, .int .i64 psum, .int .i64 pown, .slice pa pm pcap, .int .i64 pfirst, .int .i64 plast, .int .i64 pshare] : Array Value).toList := by rw [ep]; rfl
      rw [e]; exact this
    · simp at ho; subst ho
      exact (HPk.out.zs.below hW).below ((Below.refl W.heap.size W).alloc (Nat.le_refl _) _))
  have hfw : fewP [po] = true := by
    rw [fewP_iff]
    refine ⟨by simp, fun k hk => ?_⟩
    have hk0 : k = 0 := by simpa using hk
    subst hk0
    exact hz70
  have HFew := Lib.hid (fun (w : World) hp => few44_any (some ⟨w.heap.size, 0, none⟩) 1 1 [po] (w.alloc (.cells #[.string pi, .string pf, .string pt, .int .i64 psum, .int .i64 pown, .slice pa pm pcap, .int .i64 pfirst, .int .i64 plast, .int .i64 pshare] 32)) hp rfl (by unfold maxLen; omega))
  rw [hfw] at HFew
  have HF := Lib.hid (fun w h => acts_any ao n cap l w h hn hcap)
  rw [hf] at HF
  have h20 : n ≤ 20 := by rw [hn]; exact ((acts_iff l).1 hf).1
  have HZs := Lib.hid (show ∀ k, k < n → (l.getD k default).o.zs.length ≤ 70 from fun k hk => ((acts_iff l).1 hf).2 k (by omega))
  have HS := Lib.hid (fun w => new_ok a0 a1 w hs)
  have HN := Lib.hid hn
  clear h hn hcap hf hs hfw hwp hpo ep hpn hpc1 hpc2 hz70 HPc
  go_enter Try.func7, Try.ntmps7
  go_wp2_with fail
  generalize w.alloc (.cells #[.string pi, .string pf, .string pt, .int .i64 psum, .int .i64 pown, .slice pa pm pcap, .int .i64 pfirst, .int .i64 plast, .int .i64 pshare] 32) = wp at *
  refine (awake44_any _).mono ?_
  rintro e w1 ⟨rfl, hb1⟩
  have HB1 := Lib.hid hb1
  have hp1 := (hb1.block w.heap.size (lt_of_block HXp.out)).trans HXp.out
  clear hb1
  go_wp2_with fail
  refine (HF.out _ (HA1.out.below HB1.out)).mono ?_
  rintro e w2 ⟨rfl, rfl⟩
  have HPp := Lib.hid (show ∀ W, Below w2.heap.size w2 W → ∀ j x, (#[.string pi, .string pf, .string pt, .int .i64 psum, .int .i64 pown, .slice pa pm pcap, .int .i64 pfirst, .int .i64 plast, .int .i64 pshare] : Array Value)[j]? = some x → W.cell? ⟨w.heap.size, j, none⟩ = some x from fun W hW j x hx => by
    have h9 := (hW.block w.heap.size (lt_of_block hp1)).trans hp1
    simp [World.cell?, h9, hx])
  have p0 := HPp.out w2 (Below.refl _ _) 0 _ rfl
  have p1 := HPp.out w2 (Below.refl _ _) 1 _ rfl
  have p2 := HPp.out w2 (Below.refl _ _) 2 _ rfl
  have p3 := HPp.out w2 (Below.refl _ _) 3 _ rfl
  have p4 := HPp.out w2 (Below.refl _ _) 4 _ rfl
  have p5 := HPp.out w2 (Below.refl _ _) 5 _ rfl
  have p6 := HPp.out w2 (Below.refl _ _) 6 _ rfl
  have p7 := HPp.out w2 (Below.refl _ _) 7 _ rfl
  have p8 := HPp.out w2 (Below.refl _ _) 8 _ rfl
  have HFx := Lib.hid (HFew.out w2 (HFw.out w2 HB1.out))
  have HBx := Lib.hid ((Below.refl w2.heap.size w2).alloc (Nat.le_refl _) (.cells #[.string pi, .string pf, .string pt, .int .i64 psum, .int .i64 pown, .slice pa pm pcap, .int .i64 pfirst, .int .i64 plast, .int .i64 pshare] 32))
  have HA2 := Lib.hid (HA1.out.below HB1.out)
  have HPk2 := Lib.hid (HPk.out.below HB1.out)
  have HBw := Lib.hid (show Below w.heap.size w w2 from HBp.out.trans (HB1.out.mono HBp.out.size))
  clear hp1 HF HFew HFw HA1 HPk HXp
  go_wp2_with fail
  refine HFx.out.mono ?_
  rintro e w2' ⟨rfl, hw2⟩
  clear HFx p0 p1 p2 p3 p4 p5 p6 p7 p8
  have HBx2 := Lib.hid (show Below w2.heap.size w2 w2' by rw [hw2]; exact HBx.out)
  clear hw2 HBx
  go_wp2_with fail
  refine (HS.out _).mono ?_
  rintro e w3 ⟨rfl, hf3, hb3⟩
  have hba := (Below.refl w3.heap.size w3).alloc (Nat.le_refl _) (.cells #[.int .i64 a0, .int .i64 a1, .slice none 0 0, .int .i64 0] 41)
  have HB0 := Lib.hid (show Half w2 (w3.alloc (.cells #[.int .i64 a0, .int .i64 a1, .slice none 0 0, .int .i64 0] 41)) w2'.heap.size (.slice none 0 0) w3.heap.size none 0 0 (Fi.new a0 a1) (Fi.new a0 a1) from
    ⟨hf3.below hba, ⟨Row.nil _ _, rfl, hf3.ok, by simp [Fi.new], hf3.v0, fun a e => by cases e⟩, heap_alloc_new _ _, HBx2.out.size, Nat.le_trans HBx2.out.size hb3.size, by simp [Value.ownBlock], by have := hf3.lt; omega, by simp [Value.ownBlock], fun a e => (by cases e), bt (bt HBx2.out hb3) hba⟩)
  have HL0 := Lib.hid (show (Fi.new a0 a1).L.length ≤ 0 from Nat.le_refl _)
  obtain ⟨bf, hbf⟩ : ∃ b, b = w2'.heap.size := ⟨_, rfl⟩
  obtain ⟨b9, hb9⟩ : ∃ b, b = w3.heap.size := ⟨_, rfl⟩
  clear hf3 hb3 hba HS
  go_wp2_with fail
  generalize w3.alloc (.cells #[.int .i64 a0, .int .i64 a1, .slice none 0 0, .int .i64 0] 41) = w4 at *
  rw [← hbf, ← hb9] at HB0
  rw [← hbf, ← hb9]
  clear hbf hb9 HBx2
  generalize Fi.new a0 a1 = F0 at *
  go_loopw [56] (fun ix wr => ∃ (k : Nat) (F : Fi) (v : Value) (ao2 : Option Addr) (n2 cap2 : Nat), k ≤ n ∧ ix = .int .i64 (k : Int) ∧ Hid (F.L.length ≤ k) ∧ Hid (Half w2 wr bf v b9 ao2 n2 cap2 F F)) (fun ix _ => n - (intOf ix).toNat)
  case atStart => exact ⟨0, F0, _, _, _, _, Nat.zero_le _, rfl, HL0, HB0⟩
  case round =>
    clear HB0 HL0
    obtain ⟨k, F, v, ao2, n2, cap2, hk, rfl, hL, hB⟩ := hrel
    by_cases hlt : k < n
    · have l1 : (k : Int) < (n : Int) := by omega
      have l0 : (0 : Int) ≤ (k : Int) := by omega
      obtain ⟨bl, off, rfl, hbl, hc⟩ := HA2.out.get HN.out (by omega)
      obtain ⟨u, i, f, t, sum, own, a, m, cap', zs, first, last, share, s, e, hmm, hc1, hc2, hok, k0, k1, k2, k3, k4, k5, k6, k7, k8, k9, k10⟩ := Acs.one hlt hc hbl hB.out.bel (HA2.out.mem (by rw [← HN.out]; exact hlt))
      have hz := HZs.out k hlt
      rw [e] at hz
      have hl100 : F.L.length < 100 := by have := hL.out; omega
      have hba := (Below.refl wr.heap.size wr).alloc (Nat.le_refl _) (.cells #[.string u, .string i, .string f, .string t, .int .i64 sum, .int .i64 own, .slice a m cap', .int .i64 first, .int .i64 last, .int .i64 share, .int .i64 s] 43)
      have HBa := Lib.hid (hB.out.later hba)
      have HXa := Lib.hid (heap_alloc_new wr (.cells #[.string u, .string i, .string f, .string t, .int .i64 sum, .int .i64 own, .slice a m cap', .int .i64 first, .int .i64 last, .int .i64 share, .int .i64 s] 43))
      have HPo := Lib.hid (show PoOk (wr.alloc (.cells #[.string u, .string i, .string f, .string t, .int .i64 sum, .int .i64 own, .slice a m cap', .int .i64 first, .int .i64 last, .int .i64 share, .int .i64 s] 43)) ⟨i, f, t, sum, own, .slice a m cap', zs, first, last, share⟩ from ⟨Ints.below hok.zs hba, hok.s1, hok.s2, hok.s3, by dsimp only at hz ⊢; omega⟩)
      have hok2 : AcOk w2 ⟨u, ⟨i, f, t, sum, own, .slice a m cap', zs, first, last, share⟩, s⟩ := by have h9 := HA2.out.mem (k := k) (by rw [← HN.out]; exact hlt); rwa [e] at h9
      have HPo2 := Lib.hid (show ∀ W, Below w2.heap.size w2 W → PoOk W ⟨i, f, t, sum, own, .slice a m cap', zs, first, last, share⟩ from fun W hW => ⟨Ints.below hok2.zs hW, hok2.s1, hok2.s2, hok2.s3, by dsimp only at hz ⊢; omega⟩)
      have HNo := Lib.hid (show ¬ Fp bf v wr.heap.size from by
        have h1 := hB.out.fi.lt
        rintro (g | g)
        · omega
        · have := own_lt hB.out.fi.row g; omega)
      have HCa := Lib.hid (show ∀ W v', Keep bf v (wr.alloc (.cells #[.string u, .string i, .string f, .string t, .int .i64 sum, .int .i64 own, .slice a m cap', .int .i64 first, .int .i64 last, .int .i64 share, .int .i64 s] 43)) v' W → ∀ j x, (#[.string u, .string i, .string f, .string t, .int .i64 sum, .int .i64 own, .slice a m cap', .int .i64 first, .int .i64 last, .int .i64 share, .int .i64 s] : Array Value)[j]? = some x → W.cell? ⟨wr.heap.size, j, none⟩ = some x from fun W v' hK j x hx => by
        have h9 := (hK.touch.block wr.heap.size (by simp) HNo.out).trans HXa.out
        simp [World.cell?, h9, hx])
      clear hc e hmm hc1 hc2 hok hok2 hz hba
      by_cases g : s = 0
      · have e0 : (s == 0) = true := by simp [g]
        have e1 : (s != 0) = false := by simp [g]
        have HRC := Lib.hid (fun W (hr : RF W ao2 n2 cap2 F) hp => claimPlays.rclaim_plays W ao2 n2 cap2 F u ⟨i, f, t, sum, own, .slice a m cap', zs, first, last, share⟩ hr hl100 hp)
        have HPC := Lib.hid (claim_any _ bf v F u ⟨i, f, t, sum, own, .slice a m cap', zs, first, last, share⟩ HBa.out.fi hl100 HPo.out.zs)
        have HLen := Lib.hid (Nat.le_trans (claim_keeps F u ⟨i, f, t, sum, own, .slice a m cap', zs, first, last, share⟩).2.2.2 (Nat.succ_le_succ hL.out))
        unfold Po.val Po.cells at HRC HPC
        dsimp only at HRC HPC
        generalize F.claim u ⟨i, f, t, sum, own, .slice a m cap', zs, first, last, share⟩ = R at *
        obtain ⟨F', nn, cc⟩ := R
        dsimp only at HRC HPC HLen
        clear g
        go_wp2_with fail
        refine HPC.out.mono ?_
        rintro e4 w4' ⟨v4, rfl, hf4, hk4⟩
        have HH := Lib.hid (HBa.out.prog hf4 hk4)
        obtain ⟨b0, b1, b2, b3, -⟩ := claimPlays.cells_of HH.out.box
        have y0 := HCa.out w4' _ hk4 0 (.string u) rfl
        have y1 := HCa.out w4' _ hk4 1 (.string i) rfl
        have y2 := HCa.out w4' _ hk4 2 (.string f) rfl
        have y3 := HCa.out w4' _ hk4 3 (.string t) rfl
        have y4 := HCa.out w4' _ hk4 4 (.int .i64 sum) rfl
        have y5 := HCa.out w4' _ hk4 5 (.int .i64 own) rfl
        have y6 := HCa.out w4' _ hk4 6 (.slice a m cap') rfl
        have y7 := HCa.out w4' _ hk4 7 (.int .i64 first) rfl
        have y8 := HCa.out w4' _ hk4 8 (.int .i64 last) rfl
        have y9 := HCa.out w4' _ hk4 9 (.int .i64 share) rfl
        have HR4 := Lib.hid (HRC.out w4' HH.out.rf (HPo2.out w4' HH.out.bel))
        clear k0 k1 k2 k3 k4 k5 k6 k7 k8 k9 k10 hf4 hk4 HPC HRC HCa
        go_wp2_with fail
        refine HR4.out.mono ?_
        rintro e5 w5 ⟨ao4, n4, cap4, rfl, hrf, hb5, hfr⟩
        have HS5 := Lib.hid (HH.out.ref hb5 hrf hfr)
        obtain ⟨c0, c1, c2, c3, cz⟩ := claimPlays.cells_of (HH.out.later hb5).box
        have z0 := cz 0
        have z1 := cz 1
        have z2 := cz 2
        have z3 := cz 3
        clear b0 b1 b2 b3 y0 y1 y2 y3 y4 y5 y6 y7 y8 y9 cz hrf hb5 hfr HR4
        go_wp2
        go_roundw
        case rel => exact ⟨k + 1, F', _, ao4, n4, cap4, by omega, by go_num, HLen, HS5⟩
        case measure => simp [intOf]; omega
      · have e0 : (s == 0) = false := by rw [beq_eq_false_iff_ne]; exact g
        have e1 : (s != 0) = true := by simp [bne, e0]
        have HRR := Lib.hid (fun W (hr : RF W ao2 n2 cap2 F) => rrec_any W ao2 n2 cap2 F s hr)
        have HPR := Lib.hid (recover_any _ bf v F s HBa.out.fi)
        have HLen := Lib.hid (show (F.recover s).1.L.length ≤ k + 1 by rw [recover_len]; have := hL.out; omega)
        unfold RRecd at HRR
        generalize F.recover s = R at *
        obtain ⟨F', D, cc⟩ := R
        dsimp only at HRR HPR HLen
        clear g
        go_wp2_with fail
        refine HPR.out.mono ?_
        rintro e4 w4' ⟨vg4, rfl, hf4, -, hk4⟩
        have HH := Lib.hid (HBa.out.prog hf4 hk4)
        obtain ⟨b0, b1, b2, b3, -⟩ := claimPlays.cells_of HH.out.box
        have y10 := HCa.out w4' _ hk4 10 (.int .i64 s) rfl
        have HR4 := Lib.hid (HRR.out w4' HH.out.rf)
        clear k0 k1 k2 k3 k4 k5 k6 k7 k8 k9 k10 hf4 hk4 HPR HRR HCa
        go_wp2_with fail
        refine HR4.out.mono ?_
        rintro e5 w5 ⟨ao4, n4, cap4, vg, rfl, hrf, -, hb5, hfr, -⟩
        have HS5 := Lib.hid (HH.out.ref hb5 hrf hfr)
        obtain ⟨c0, c1, c2, c3, cz⟩ := claimPlays.cells_of (HH.out.later hb5).box
        have z0 := cz 0
        have z1 := cz 1
        have z2 := cz 2
        have z3 := cz 3
        clear b0 b1 b2 b3 y10 cz hrf hb5 hfr HR4
        go_wp2
        go_roundw
        case rel => exact ⟨k + 1, F', _, ao4, n4, cap4, by omega, by go_num, HLen, HS5⟩
        case measure => simp [intOf]; omega
    · obtain rfl : k = n := by omega
      have hl100 : F.L.length < 100 := by have := hL.out; omega
      have HCC := Lib.hid (show ∀ W b v, IsFi W b v F → Below w2.heap.size w2 W → Calls Try.prog 19 #[.pointer (some ⟨b, 0, none⟩), .string pi, .agg #[.string pi, .string pf, .string pt, .int .i64 psum, .int .i64 pown, .slice pa pm pcap, .int .i64 pfirst, .int .i64 plast, .int .i64 pshare]] W fun e w' => ∃ v', e = .returned (.tuple #[.int .i64 (F.claim pi po).2.1, .int .i64 (F.claim pi po).2.2]) ∧ IsFi w' b v' (F.claim pi po).1 ∧ Keep b v W v' w' from fun W b v h hW => by
        have h9 := claim_any W b v F pi po h hl100 (HPk2.out.zs.below hW)
        rw [HPv.out] at h9; exact h9)
      have HRC := Lib.hid (show ∀ W, RF W ao2 n2 cap2 F → Below w2.heap.size w2 W → Calls Try.prog 18 #[.agg #[.int .i64 F.loss, .int .i64 F.value, .slice ao2 n2 cap2, .int .i64 F.own], .string pi, .agg #[.string pi, .string pf, .string pt, .int .i64 psum, .int .i64 pown, .slice pa pm pcap, .int .i64 pfirst, .int .i64 plast, .int .i64 pshare]] W fun e w' => ∃ l0 l1 l3 ao' n' cap', e = .returned (.tuple #[.agg #[.int .i64 l0, .int .i64 l1, .slice ao' n' cap', .int .i64 l3], .int .i64 (F.claim pi po).2.1, .int .i64 (F.claim pi po).2.2]) ∧ Below W.heap.size W w' from fun W hr hW => by
        have h9 := claimPlays.rclaim_plays W ao2 n2 cap2 F pi po hr hl100 (HPk2.out.below hW)
        rw [HPv.out] at h9
        refine h9.mono ?_
        rintro e w' ⟨ao', n', cap', rfl, -, hb, -⟩
        exact ⟨_, _, _, ao', n', cap', rfl, hb⟩)
      have HMy := Lib.hid (show ∀ W, Below w2.heap.size w2 W → Calls Try.prog 23 #[.agg #[.string pi, .string pf, .string pt, .int .i64 psum, .int .i64 pown, .slice pa pm pcap, .int .i64 pfirst, .int .i64 plast, .int .i64 pshare]] W fun e w' => e = .returned (.bool po.may) ∧ Below W.heap.size W w' from fun W hW => by
        have hk := HPk2.out.below hW
        have h9 := rmay_o po W hk.zs hk.s1 hk.s2 hk.s3 hk.s4
        rw [HPv.out] at h9; exact h9)
      have HNM := Lib.hid (show po.may = false → (F.claim pi po).2.2 = 1 from fun g => by unfold Fi.claim; rw [if_pos g])
      generalize F.claim pi po = R1 at *
      obtain ⟨F1, nn, cc⟩ := R1
      dsimp only at HCC HRC HNM
      have HRv := Lib.hid (fun W b v h => recover_any W b v F sm h)
      have HRv1 := Lib.hid (fun W b v h => recover_any W b v F1 sm h)
      have HRR := Lib.hid (fun W (hr : RF W ao2 n2 cap2 F) => rrec_any W ao2 n2 cap2 F sm hr)
      unfold RRecd at HRR
      generalize F.recover sm = R2 at *
      obtain ⟨F2, D, c2⟩ := R2
      dsimp only at HRv HRR
      have HCp := Lib.hid (fun W h => copy_any W bf v F h)
      have HC5 := Lib.hid (HCp.out _ hB.out.fi)
      clear HPv HPk2 HZs HN hL
      go_wp2_with fail
      refine HC5.out.mono ?_
      rintro e w5 ⟨bc, vc, rfl, hfc, lbc, lvc, hb5⟩
      have p0 := HPp.out w5 (bt hB.out.bel hb5) 0 (.string pi) rfl
      have p1 := HPp.out w5 (bt hB.out.bel hb5) 1 (.string pf) rfl
      have p2 := HPp.out w5 (bt hB.out.bel hb5) 2 (.string pt) rfl
      have p3 := HPp.out w5 (bt hB.out.bel hb5) 3 (.int .i64 psum) rfl
      have p4 := HPp.out w5 (bt hB.out.bel hb5) 4 (.int .i64 pown) rfl
      have p5 := HPp.out w5 (bt hB.out.bel hb5) 5 (.slice pa pm pcap) rfl
      have p6 := HPp.out w5 (bt hB.out.bel hb5) 6 (.int .i64 pfirst) rfl
      have p7 := HPp.out w5 (bt hB.out.bel hb5) 7 (.int .i64 plast) rfl
      have p8 := HPp.out w5 (bt hB.out.bel hb5) 8 (.int .i64 pshare) rfl
      have HB5 := Lib.hid hb5
      have HK5 := Lib.hid (And.intro lbc lvc)
      have HC6 := Lib.hid (HCC.out w5 bc vc hfc (bt hB.out.bel hb5))
      clear hfc lbc lvc hb5 HC5
      go_wp2_with fail
      refine HC6.out.mono ?_
      rintro e w6 ⟨vc6, rfl, hf6, hk6⟩
      obtain ⟨hb6, lv6⟩ := Keep.fresh HB5.out hk6 HK5.out.1 HK5.out.2 HB5.out.size
      have HB6 := Lib.hid hb6
      have HK6 := Lib.hid lv6
      have HC7 := Lib.hid (HRv1.out w6 bc vc6 hf6)
      clear hf6 hk6 hb6 lv6 HC6 HRv1 p0 p1 p2 p3 p4 p5 p6 p7 p8
      go_wp2_with fail
      refine HC7.out.mono ?_
      rintro e w7 ⟨vg7, rfl, -, -, hk7⟩
      obtain ⟨hb7, -⟩ := Keep.fresh HB6.out hk7 HK5.out.1 HK6.out HB6.out.size
      have HH7 := Lib.hid (hB.out.later hb7)
      obtain ⟨b0, b1, b2, b3, -⟩ := claimPlays.cells_of HH7.out.box
      have p0 := HPp.out w7 (HH7.out.bel) 0 (.string pi) rfl
      have p1 := HPp.out w7 (HH7.out.bel) 1 (.string pf) rfl
      have p2 := HPp.out w7 (HH7.out.bel) 2 (.string pt) rfl
      have p3 := HPp.out w7 (HH7.out.bel) 3 (.int .i64 psum) rfl
      have p4 := HPp.out w7 (HH7.out.bel) 4 (.int .i64 pown) rfl
      have p5 := HPp.out w7 (HH7.out.bel) 5 (.slice pa pm pcap) rfl
      have p6 := HPp.out w7 (HH7.out.bel) 6 (.int .i64 pfirst) rfl
      have p7 := HPp.out w7 (HH7.out.bel) 7 (.int .i64 plast) rfl
      have p8 := HPp.out w7 (HH7.out.bel) 8 (.int .i64 pshare) rfl
      have HC8 := Lib.hid (HRC.out w7 HH7.out.rf HH7.out.bel)
      clear hk7 hb7 HC7 HRC HB5 HB6 HK5 HK6
      go_wp2_with fail
      refine HC8.out.mono ?_
      rintro e w8 ⟨l0', l1', l3', ao8, n8, cap8, rfl, hb8⟩
      have hA8 := bt hb8 ((Below.refl w8.heap.size w8).alloc (Nat.le_refl _) (.cells #[.int .i64 l0', .int .i64 l1', .slice ao8 n8 cap8, .int .i64 l3'] 41))
      have HH8 := Lib.hid (HH7.out.later hA8)
      clear p0 p1 p2 p3 p4 p5 p6 p7 p8 b0 b1 b2 b3
      have p0 := HPp.out (w8.alloc (.cells #[.int .i64 l0', .int .i64 l1', .slice ao8 n8 cap8, .int .i64 l3'] 41)) (HH8.out.bel) 0 (.string pi) rfl
      have p1 := HPp.out (w8.alloc (.cells #[.int .i64 l0', .int .i64 l1', .slice ao8 n8 cap8, .int .i64 l3'] 41)) (HH8.out.bel) 1 (.string pf) rfl
      have p2 := HPp.out (w8.alloc (.cells #[.int .i64 l0', .int .i64 l1', .slice ao8 n8 cap8, .int .i64 l3'] 41)) (HH8.out.bel) 2 (.string pt) rfl
      have p3 := HPp.out (w8.alloc (.cells #[.int .i64 l0', .int .i64 l1', .slice ao8 n8 cap8, .int .i64 l3'] 41)) (HH8.out.bel) 3 (.int .i64 psum) rfl
      have p4 := HPp.out (w8.alloc (.cells #[.int .i64 l0', .int .i64 l1', .slice ao8 n8 cap8, .int .i64 l3'] 41)) (HH8.out.bel) 4 (.int .i64 pown) rfl
      have p5 := HPp.out (w8.alloc (.cells #[.int .i64 l0', .int .i64 l1', .slice ao8 n8 cap8, .int .i64 l3'] 41)) (HH8.out.bel) 5 (.slice pa pm pcap) rfl
      have p6 := HPp.out (w8.alloc (.cells #[.int .i64 l0', .int .i64 l1', .slice ao8 n8 cap8, .int .i64 l3'] 41)) (HH8.out.bel) 6 (.int .i64 pfirst) rfl
      have p7 := HPp.out (w8.alloc (.cells #[.int .i64 l0', .int .i64 l1', .slice ao8 n8 cap8, .int .i64 l3'] 41)) (HH8.out.bel) 7 (.int .i64 plast) rfl
      have p8 := HPp.out (w8.alloc (.cells #[.int .i64 l0', .int .i64 l1', .slice ao8 n8 cap8, .int .i64 l3'] 41)) (HH8.out.bel) 8 (.int .i64 pshare) rfl
      clear hb8 hA8 HC8
      have HC9 := Lib.hid (HCp.out _ HH8.out.drew.fi)
      have HD8 := Lib.hid HH8.out.drew
      go_upto_region 20 with fail
      go_cut [20, 21] from 111 to 119 (fun x y wx => x = .int .i64 nn ∧ y = .int .i64 cc ∧ Hid (∃ wy, wy = wx ∧ Half w2 wy bf v b9 ao2 n2 cap2 F F))
      case first =>
        go_region_with (first
          | (go_at_call 22; (with_reducible refine HC9.out.mono ?_); rintro e w9 ⟨b10, v10, rfl, h10, l10, lv10, hb10⟩; have HH9 := Lib.hid (HD8.out.later hb10); clear p0 p1 p2 p3 p4 p5 p6 p7 p8; have p0 := HPp.out w9 (HH9.out.bel) 0 (.string pi) rfl; have p1 := HPp.out w9 (HH9.out.bel) 1 (.string pf) rfl; have p2 := HPp.out w9 (HH9.out.bel) 2 (.string pt) rfl; have p3 := HPp.out w9 (HH9.out.bel) 3 (.int .i64 psum) rfl; have p4 := HPp.out w9 (HH9.out.bel) 4 (.int .i64 pown) rfl; have p5 := HPp.out w9 (HH9.out.bel) 5 (.slice pa pm pcap) rfl; have p6 := HPp.out w9 (HH9.out.bel) 6 (.int .i64 pfirst) rfl; have p7 := HPp.out w9 (HH9.out.bel) 7 (.int .i64 plast) rfl; have p8 := HPp.out w9 (HH9.out.bel) 8 (.int .i64 pshare) rfl; have HC10 := Lib.hid (HCC.out w9 b10 v10 h10 HH9.out.bel); have HK9 := Lib.hid (And.intro hb10 (And.intro l10 lv10)); clear h10 l10 lv10 hb10)
          | (go_at_call 19; (with_reducible refine HC10.out.mono ?_); rintro e w11 ⟨v11, rfl, -, hk11⟩; have HH11 := Lib.hid (HD8.out.later (Keep.fresh HK9.out.1 hk11 HK9.out.2.1 HK9.out.2.2 HK9.out.1.size).1); clear hk11))
        all_goals
          dsimp only [Exit.then]
          apply_assumption
          go_meet
          exact ⟨rfl, rfl, Lib.hid ⟨_, rfl, HH11.out⟩⟩
      case rest =>
        obtain ⟨rfl, rfl, hx⟩ := hcut
        obtain ⟨wy, hwy, hh⟩ := hx.out
        subst hwy
        have HHy := Lib.hid hh
        clear hx hh p0 p1 p2 p3 p4 p5 p6 p7 p8 HC9 HD8 HCC HCp
        obtain ⟨b0, b1, b2, b3, -⟩ := claimPlays.cells_of HHy.out.box
        have HC12 := Lib.hid (HRR.out wy HHy.out.rf)
        go_wp2_with fail
        refine HC12.out.mono ?_
        rintro e w12 ⟨ao12, n12, cap12, vg, rfl, -, hen, hb12, -, hvg⟩
        have hA12 := (Below.refl w12.heap.size w12).alloc (Nat.le_refl _) (.cells #[.int .i64 F2.loss, .int .i64 F2.value, .slice ao12 n12 cap12, .int .i64 F2.own] 41)
        have HH12 := Lib.hid (HHy.out.later (bt hb12 hA12))
        obtain ⟨vga, vgc, evg, -⟩ := hen.shape
        have HX := Lib.hid (And.intro hb12.size (And.intro hvg (Row.below hen hA12)))
        have HC13 := Lib.hid (HRv.out _ bf v HH12.out.fi)
        subst evg
        obtain ⟨dl, hdl⟩ : ∃ x, x = D.length := ⟨_, rfl⟩
        rw [← hdl] at HX ⊢
        have HDl := Lib.hid hdl
        clear hen hb12 hvg hA12 hdl b0 b1 b2 b3 HC12 HRR HRv
        go_wp2_with fail
        refine HC13.out.mono ?_
        rintro e w13 ⟨vg2, rfl, hf13, hen13, hk13⟩
        obtain ⟨hs12, hvg, henA⟩ := HX.out
        have hw13 : Ens w13 (.slice vga dl vgc) D := by
          have h8 : Ens (w12.alloc (.cells #[.int .i64 F2.loss, .int .i64 F2.value, .slice ao12 n12 cap12, .int .i64 F2.own] 41)) (.slice vga dl vgc) D := by unfold Ens; rw [← HDl.out]; exact henA
          refine Ens.kept h8 hk13.touch (fun x hx => ?_)
          have h9 := hvg x hx
          have h10 := HHy.out.fi.lt
          rintro (e | e)
          · omega
          · have := own_lt HHy.out.fi.row e; omega
        obtain ⟨va2, vc2, ev2, -⟩ := hen13.shape
        subst ev2
        rw [← HDl.out] at hen13 ⊢
        have HH13 := Lib.hid (HH12.out.prog hf13 hk13)
        have HSm := Lib.hid (rsame44_any _ _ D w13 hen13 hw13)
        have d5 : (cc == cc) = true := by simp
        have d6 : (nn == nn) = true := by simp
        have d7 : (c2 == c2) = true := by simp
        clear hs12 hvg henA hw13 hen13 hf13 hk13 HX HC13 HH12
        go_wp2_with fail
        refine HSm.out.mono ?_
        rintro e w14 ⟨rfl, hb14⟩
        have HH14 := Lib.hid (HH13.out.later hb14)
        have p0 := HPp.out w14 (HH14.out.bel) 0 (.string pi) rfl
        have p1 := HPp.out w14 (HH14.out.bel) 1 (.string pf) rfl
        have p2 := HPp.out w14 (HH14.out.bel) 2 (.string pt) rfl
        have p3 := HPp.out w14 (HH14.out.bel) 3 (.int .i64 psum) rfl
        have p4 := HPp.out w14 (HH14.out.bel) 4 (.int .i64 pown) rfl
        have p5 := HPp.out w14 (HH14.out.bel) 5 (.slice pa pm pcap) rfl
        have p6 := HPp.out w14 (HH14.out.bel) 6 (.int .i64 pfirst) rfl
        have p7 := HPp.out w14 (HH14.out.bel) 7 (.int .i64 plast) rfl
        have p8 := HPp.out w14 (HH14.out.bel) 8 (.int .i64 pshare) rfl
        have HM15 := Lib.hid (HMy.out w14 HH14.out.bel)
        clear hb14 HSm
        cases g : po.may with
        | true =>
          rw [g] at HM15
          go_wp2_with fail
          refine HM15.out.mono ?_
          rintro e w15 ⟨rfl, hb15⟩
          have HE := Lib.hid (bt HBw.out (bt HH14.out.bel hb15))
          clear hb15
          go_wp2
          go_ret
          exact ⟨rfl, HE.out⟩
        | false =>
          rw [g] at HM15
          have hc1 : cc = 1 := HNM.out g
          have d8 : (cc == 1) = true := by rw [hc1]; rfl
          clear hc1 d5
          have d5 : (cc == cc) = true := by simp
          go_wp2_with fail
          refine HM15.out.mono ?_
          rintro e w15 ⟨rfl, hb15⟩
          have HE := Lib.hid (bt HBw.out (bt HH14.out.bel hb15))
          clear hb15
          go_wp2
          go_ret
          exact ⟨rfl, HE.out⟩
set_option maxRecDepth 100000 in
set_option maxHeartbeats 4000000 in
theorem skip (a0 a1 sm : Int) (ao : Option Addr) (n cap : Nat) (l : List Ac) (po : Po) (w : World) (h : Acs w (.slice ao n cap) l) (hn : n = l.length) (hcap : n ≤ maxLen) (hpo : AcOk w ⟨⟨#[]⟩, po, 0⟩) (hf : actsB l = false) :
    Calls Try.prog 7 #[.int .i64 a0, .int .i64 a1, .slice ao n cap, .int .i64 sm, po.val] w fun e w' => e = .returned (.bool true) ∧ Below w.heap.size w w' := by
  obtain ⟨pi, pf, pt, psum, pown, pa, pm, pcap, pfirst, plast, pshare, ep, hpn, hpc1, hpc2⟩ := Po.apart hpo.zs
  dsimp only at ep hpn
  have hwp := (Below.refl w.heap.size w).alloc (Nat.le_refl _) (.cells (Po.cells po).toArray 32)
  have HPk := Lib.hid (hpo.zs.below hwp)
  have HA1 := Lib.hid (h.below hwp)
  have HBp := Lib.hid hwp
  have HPv := Lib.hid (show po.val = .agg #[.string pi, .string pf, .string pt, .int .i64 psum, .int .i64 pown, .slice pa pm pcap, .int .i64 pfirst, .int .i64 plast, .int .i64 pshare] by rw [ep]; rfl)
  have HPc := Lib.hid (show (Po.cells po).toArray = #[.string pi, .string pf, .string pt, .int .i64 psum, .int .i64 pown, .slice pa pm pcap, .int .i64 pfirst, .int .i64 plast, .int .i64 pshare] by rw [ep]; rfl)
  have HPi := Lib.hid (show po.i = pi by rw [ep])
  rw [HPv.out]
  rw [HPc.out] at HPk HA1 HBp
  have HXp := Lib.hid (heap_alloc_new w (.cells #[.string pi, .string pf, .string pt, .int .i64 psum, .int .i64 pown, .slice pa pm pcap, .int .i64 pfirst, .int .i64 plast, .int .i64 pshare] 32))
  have HFw := Lib.hid (show ∀ W, Below (w.alloc (.cells #[.string pi, .string pf, .string pt, .int .i64 psum, .int .i64 pown, .slice pa pm pcap, .int .i64 pfirst, .int .i64 plast, .int .i64 pshare] 32)).heap.size (w.alloc (.cells #[.string pi, .string pf, .string pt, .int .i64 psum, .int .i64 pown, .slice pa pm pcap, .int .i64 pfirst, .int .i64 plast, .int .i64 pshare] 32)) W → Pos (W.alloc (.cells #[.string pi, .string pf, .string pt, .int .i64 psum, .int .i64 pown, .slice pa pm pcap, .int .i64 pfirst, .int .i64 plast, .int .i64 pshare] 32)) (.slice (some ⟨W.heap.size, 0, none⟩) 1 1) [po] from fun W hW => by
    refine ⟨?_, fun o ho => ?_⟩
    · have := row_lit W 32 9 1 #[.string pi, .string pf, .string pt, .int .i64 psum, .int .i64 pown, .slice pa pm pcap, .int .i64 pfirst, .int .i64 plast, .int .i64 pshare] rfl (by unfold maxLen; omega)
      have e : [po].flatMap Po.cells = (#[.string pi, .string pf, .string pt, .int .i64 psum, .int .i64 pown, .slice pa pm pcap, .int .i64 pfirst, .int .i64 plast, .int .i64 pshare] : Array Value).toList := by rw [ep]; rfl
      rw [e]; exact this
    · simp at ho; subst ho
      exact (HPk.out.below hW).below ((Below.refl W.heap.size W).alloc (Nat.le_refl _) _))
  have HF := Lib.hid (fun w h => acts_any ao n cap l w h hn hcap)
  rw [hf] at HF
  clear h hn hcap hf hwp hpo ep hpn hpc1 hpc2 HPc HPv HFw
  go_enter Try.func7, Try.ntmps7
  go_wp2_with fail
  generalize w.alloc (.cells #[.string pi, .string pf, .string pt, .int .i64 psum, .int .i64 pown, .slice pa pm pcap, .int .i64 pfirst, .int .i64 plast, .int .i64 pshare] 32) = wp at *
  refine (awake44_any _).mono ?_
  rintro e w1 ⟨rfl, hb1⟩
  have HB1 := Lib.hid hb1
  have hp1 := (hb1.block w.heap.size (lt_of_block HXp.out)).trans HXp.out
  clear hb1
  go_wp2_with fail
  refine (HF.out _ (HA1.out.below HB1.out)).mono ?_
  rintro e w2 ⟨rfl, rfl⟩
  have HBw := Lib.hid (show Below w.heap.size w w2 from HBp.out.trans (HB1.out.mono HBp.out.size))
  have HBz := HBw
  clear hp1
  go_wp2_with fail
  refine (awake44_any _).mono ?_
  rintro e w9 ⟨rfl, hb9⟩
  have HE := Lib.hid (bt HBz.out hb9)
  clear hb9
  go_wp2
  go_ret
  exact ⟨rfl, HE.out⟩

set_option maxRecDepth 100000 in
set_option maxHeartbeats 4000000 in
theorem skip2 (a0 a1 sm : Int) (ao : Option Addr) (n cap : Nat) (l : List Ac) (po : Po) (w : World) (h : Acs w (.slice ao n cap) l) (hn : n = l.length) (hcap : n ≤ maxLen) (hpo : AcOk w ⟨⟨#[]⟩, po, 0⟩) (hf : actsB l = true) (hfw : fewP [po] = false) :
    Calls Try.prog 7 #[.int .i64 a0, .int .i64 a1, .slice ao n cap, .int .i64 sm, po.val] w fun e w' => e = .returned (.bool true) ∧ Below w.heap.size w w' := by
  obtain ⟨pi, pf, pt, psum, pown, pa, pm, pcap, pfirst, plast, pshare, ep, hpn, hpc1, hpc2⟩ := Po.apart hpo.zs
  dsimp only at ep hpn
  have hwp := (Below.refl w.heap.size w).alloc (Nat.le_refl _) (.cells (Po.cells po).toArray 32)
  have HPk := Lib.hid (hpo.zs.below hwp)
  have HA1 := Lib.hid (h.below hwp)
  have HBp := Lib.hid hwp
  have HPv := Lib.hid (show po.val = .agg #[.string pi, .string pf, .string pt, .int .i64 psum, .int .i64 pown, .slice pa pm pcap, .int .i64 pfirst, .int .i64 plast, .int .i64 pshare] by rw [ep]; rfl)
  have HPc := Lib.hid (show (Po.cells po).toArray = #[.string pi, .string pf, .string pt, .int .i64 psum, .int .i64 pown, .slice pa pm pcap, .int .i64 pfirst, .int .i64 plast, .int .i64 pshare] by rw [ep]; rfl)
  have HPi := Lib.hid (show po.i = pi by rw [ep])
  rw [HPv.out]
  rw [HPc.out] at HPk HA1 HBp
  have HXp := Lib.hid (heap_alloc_new w (.cells #[.string pi, .string pf, .string pt, .int .i64 psum, .int .i64 pown, .slice pa pm pcap, .int .i64 pfirst, .int .i64 plast, .int .i64 pshare] 32))
  have HFw := Lib.hid (show ∀ W, Below (w.alloc (.cells #[.string pi, .string pf, .string pt, .int .i64 psum, .int .i64 pown, .slice pa pm pcap, .int .i64 pfirst, .int .i64 plast, .int .i64 pshare] 32)).heap.size (w.alloc (.cells #[.string pi, .string pf, .string pt, .int .i64 psum, .int .i64 pown, .slice pa pm pcap, .int .i64 pfirst, .int .i64 plast, .int .i64 pshare] 32)) W → Pos (W.alloc (.cells #[.string pi, .string pf, .string pt, .int .i64 psum, .int .i64 pown, .slice pa pm pcap, .int .i64 pfirst, .int .i64 plast, .int .i64 pshare] 32)) (.slice (some ⟨W.heap.size, 0, none⟩) 1 1) [po] from fun W hW => by
    refine ⟨?_, fun o ho => ?_⟩
    · have := row_lit W 32 9 1 #[.string pi, .string pf, .string pt, .int .i64 psum, .int .i64 pown, .slice pa pm pcap, .int .i64 pfirst, .int .i64 plast, .int .i64 pshare] rfl (by unfold maxLen; omega)
      have e : [po].flatMap Po.cells = (#[.string pi, .string pf, .string pt, .int .i64 psum, .int .i64 pown, .slice pa pm pcap, .int .i64 pfirst, .int .i64 plast, .int .i64 pshare] : Array Value).toList := by rw [ep]; rfl
      rw [e]; exact this
    · simp at ho; subst ho
      exact (HPk.out.below hW).below ((Below.refl W.heap.size W).alloc (Nat.le_refl _) _))
  have HFew := Lib.hid (fun (w : World) hp => few44_any (some ⟨w.heap.size, 0, none⟩) 1 1 [po] (w.alloc (.cells #[.string pi, .string pf, .string pt, .int .i64 psum, .int .i64 pown, .slice pa pm pcap, .int .i64 pfirst, .int .i64 plast, .int .i64 pshare] 32)) hp rfl (by unfold maxLen; omega))
  rw [hfw] at HFew
  have HF := Lib.hid (fun w h => acts_any ao n cap l w h hn hcap)
  rw [hf] at HF
  clear h hn hcap hf hwp hpo ep hpn hpc1 hpc2 HPc HPv hfw
  go_enter Try.func7, Try.ntmps7
  go_wp2_with fail
  generalize w.alloc (.cells #[.string pi, .string pf, .string pt, .int .i64 psum, .int .i64 pown, .slice pa pm pcap, .int .i64 pfirst, .int .i64 plast, .int .i64 pshare] 32) = wp at *
  refine (awake44_any _).mono ?_
  rintro e w1 ⟨rfl, hb1⟩
  have HB1 := Lib.hid hb1
  have hp1 := (hb1.block w.heap.size (lt_of_block HXp.out)).trans HXp.out
  clear hb1
  go_wp2_with fail
  refine (HF.out _ (HA1.out.below HB1.out)).mono ?_
  rintro e w2 ⟨rfl, rfl⟩
  have HBw := Lib.hid (show Below w.heap.size w w2 from HBp.out.trans (HB1.out.mono HBp.out.size))
  have h9 : ∀ j x, (#[.string pi, .string pf, .string pt, .int .i64 psum, .int .i64 pown, .slice pa pm pcap, .int .i64 pfirst, .int .i64 plast, .int .i64 pshare] : Array Value)[j]? = some x → w2.cell? ⟨w.heap.size, j, none⟩ = some x := fun j x hx => by simp [World.cell?, hp1, hx]
  have p0 := h9 0 (.string pi) rfl
  have p1 := h9 1 (.string pf) rfl
  have p2 := h9 2 (.string pt) rfl
  have p3 := h9 3 (.int .i64 psum) rfl
  have p4 := h9 4 (.int .i64 pown) rfl
  have p5 := h9 5 (.slice pa pm pcap) rfl
  have p6 := h9 6 (.int .i64 pfirst) rfl
  have p7 := h9 7 (.int .i64 plast) rfl
  have p8 := h9 8 (.int .i64 pshare) rfl
  have HFx := Lib.hid (HFew.out w2 (HFw.out w2 HB1.out))
  have HBz := Lib.hid (bt HBw.out ((Below.refl w2.heap.size w2).alloc (Nat.le_refl _) (.cells #[.string pi, .string pf, .string pt, .int .i64 psum, .int .i64 pown, .slice pa pm pcap, .int .i64 pfirst, .int .i64 plast, .int .i64 pshare] 32)))
  clear h9 hp1 HF HFew HFw
  go_wp2_with fail
  refine HFx.out.mono ?_
  rintro e w2' ⟨rfl, hw2⟩
  subst hw2
  clear HFx p0 p1 p2 p3 p4 p5 p6 p7 p8
  go_wp2_with fail
  refine (awake44_any _).mono ?_
  rintro e w9 ⟨rfl, hb9⟩
  have HE := Lib.hid (bt HBz.out hb9)
  clear hb9
  go_wp2
  go_ret
  exact ⟨rfl, HE.out⟩

set_option maxRecDepth 100000 in
set_option maxHeartbeats 4000000 in
theorem bad (a0 a1 sm : Int) (ao : Option Addr) (n cap : Nat) (l : List Ac) (po : Po) (w : World) (h : Acs w (.slice ao n cap) l) (hn : n = l.length) (hcap : n ≤ maxLen) (hpo : AcOk w ⟨⟨#[]⟩, po, 0⟩) (hf : actsB l = true) (hfw : fewP [po] = true) (hs : newB a0 a1 = false) :
    Calls Try.prog 7 #[.int .i64 a0, .int .i64 a1, .slice ao n cap, .int .i64 sm, po.val] w fun e w' => e = .returned (.bool true) ∧ Below w.heap.size w w' := by
  obtain ⟨pi, pf, pt, psum, pown, pa, pm, pcap, pfirst, plast, pshare, ep, hpn, hpc1, hpc2⟩ := Po.apart hpo.zs
  dsimp only at ep hpn
  have hwp := (Below.refl w.heap.size w).alloc (Nat.le_refl _) (.cells (Po.cells po).toArray 32)
  have HPk := Lib.hid (hpo.zs.below hwp)
  have HA1 := Lib.hid (h.below hwp)
  have HBp := Lib.hid hwp
  have HPv := Lib.hid (show po.val = .agg #[.string pi, .string pf, .string pt, .int .i64 psum, .int .i64 pown, .slice pa pm pcap, .int .i64 pfirst, .int .i64 plast, .int .i64 pshare] by rw [ep]; rfl)
  have HPc := Lib.hid (show (Po.cells po).toArray = #[.string pi, .string pf, .string pt, .int .i64 psum, .int .i64 pown, .slice pa pm pcap, .int .i64 pfirst, .int .i64 plast, .int .i64 pshare] by rw [ep]; rfl)
  have HPi := Lib.hid (show po.i = pi by rw [ep])
  rw [HPv.out]
  rw [HPc.out] at HPk HA1 HBp
  have HXp := Lib.hid (heap_alloc_new w (.cells #[.string pi, .string pf, .string pt, .int .i64 psum, .int .i64 pown, .slice pa pm pcap, .int .i64 pfirst, .int .i64 plast, .int .i64 pshare] 32))
  have HFw := Lib.hid (show ∀ W, Below (w.alloc (.cells #[.string pi, .string pf, .string pt, .int .i64 psum, .int .i64 pown, .slice pa pm pcap, .int .i64 pfirst, .int .i64 plast, .int .i64 pshare] 32)).heap.size (w.alloc (.cells #[.string pi, .string pf, .string pt, .int .i64 psum, .int .i64 pown, .slice pa pm pcap, .int .i64 pfirst, .int .i64 plast, .int .i64 pshare] 32)) W → Pos (W.alloc (.cells #[.string pi, .string pf, .string pt, .int .i64 psum, .int .i64 pown, .slice pa pm pcap, .int .i64 pfirst, .int .i64 plast, .int .i64 pshare] 32)) (.slice (some ⟨W.heap.size, 0, none⟩) 1 1) [po] from fun W hW => by
    refine ⟨?_, fun o ho => ?_⟩
    · have := row_lit W 32 9 1 #[.string pi, .string pf, .string pt, .int .i64 psum, .int .i64 pown, .slice pa pm pcap, .int .i64 pfirst, .int .i64 plast, .int .i64 pshare] rfl (by unfold maxLen; omega)
      have e : [po].flatMap Po.cells = (#[.string pi, .string pf, .string pt, .int .i64 psum, .int .i64 pown, .slice pa pm pcap, .int .i64 pfirst, .int .i64 plast, .int .i64 pshare] : Array Value).toList := by rw [ep]; rfl
      rw [e]; exact this
    · simp at ho; subst ho
      exact (HPk.out.below hW).below ((Below.refl W.heap.size W).alloc (Nat.le_refl _) _))
  have HFew := Lib.hid (fun (w : World) hp => few44_any (some ⟨w.heap.size, 0, none⟩) 1 1 [po] (w.alloc (.cells #[.string pi, .string pf, .string pt, .int .i64 psum, .int .i64 pown, .slice pa pm pcap, .int .i64 pfirst, .int .i64 plast, .int .i64 pshare] 32)) hp rfl (by unfold maxLen; omega))
  rw [hfw] at HFew
  have HS := Lib.hid (fun w => new_bad a0 a1 w hs)
  have HF := Lib.hid (fun w h => acts_any ao n cap l w h hn hcap)
  rw [hf] at HF
  clear h hn hcap hf hwp hpo ep hpn hpc1 hpc2 HPc HPv hfw hs
  go_enter Try.func7, Try.ntmps7
  go_wp2_with fail
  generalize w.alloc (.cells #[.string pi, .string pf, .string pt, .int .i64 psum, .int .i64 pown, .slice pa pm pcap, .int .i64 pfirst, .int .i64 plast, .int .i64 pshare] 32) = wp at *
  refine (awake44_any _).mono ?_
  rintro e w1 ⟨rfl, hb1⟩
  have HB1 := Lib.hid hb1
  have hp1 := (hb1.block w.heap.size (lt_of_block HXp.out)).trans HXp.out
  clear hb1
  go_wp2_with fail
  refine (HF.out _ (HA1.out.below HB1.out)).mono ?_
  rintro e w2 ⟨rfl, rfl⟩
  have HBw := Lib.hid (show Below w.heap.size w w2 from HBp.out.trans (HB1.out.mono HBp.out.size))
  have h9 : ∀ j x, (#[.string pi, .string pf, .string pt, .int .i64 psum, .int .i64 pown, .slice pa pm pcap, .int .i64 pfirst, .int .i64 plast, .int .i64 pshare] : Array Value)[j]? = some x → w2.cell? ⟨w.heap.size, j, none⟩ = some x := fun j x hx => by simp [World.cell?, hp1, hx]
  have p0 := h9 0 (.string pi) rfl
  have p1 := h9 1 (.string pf) rfl
  have p2 := h9 2 (.string pt) rfl
  have p3 := h9 3 (.int .i64 psum) rfl
  have p4 := h9 4 (.int .i64 pown) rfl
  have p5 := h9 5 (.slice pa pm pcap) rfl
  have p6 := h9 6 (.int .i64 pfirst) rfl
  have p7 := h9 7 (.int .i64 plast) rfl
  have p8 := h9 8 (.int .i64 pshare) rfl
  have HFx := Lib.hid (HFew.out w2 (HFw.out w2 HB1.out))
  have HBz := Lib.hid (bt HBw.out ((Below.refl w2.heap.size w2).alloc (Nat.le_refl _) (.cells #[.string pi, .string pf, .string pt, .int .i64 psum, .int .i64 pown, .slice pa pm pcap, .int .i64 pfirst, .int .i64 plast, .int .i64 pshare] 32)))
  clear h9 hp1 HF HFew HFw
  go_wp2_with fail
  refine HFx.out.mono ?_
  rintro e w2' ⟨rfl, hw2⟩
  subst hw2
  clear HFx p0 p1 p2 p3 p4 p5 p6 p7 p8
  go_wp2_with fail
  refine (HS.out _).mono ?_
  rintro e w3 ⟨rfl, rfl⟩
  go_wp2
  go_ret
  exact ⟨rfl, HBz.out⟩

theorem walk (a0 a1 : Int) (v2 : Value) (a3 : Int) (v4 : Value) (w : World) (w0 : (Lit.int .i64 a0).wf = true) (w1 : (Lit.int .i64 a1).wf = true) (w2 : Is34 w v2) (w3 : (Lit.int .i64 a3).wf = true) (w4 : Is32 w v4) :
    Calls Try.prog 7 #[.int .i64 a0, .int .i64 a1, v2, .int .i64 a3, v4] w fun e w' => e = .returned (.bool true) ∧ Below w.heap.size w w' := by
  obtain ⟨l, h⟩ := w2
  obtain ⟨ao, cap, rfl, h1, h2, _⟩ := h.shape
  obtain ⟨po, rfl, hpo⟩ := w4
  cases hf : actsB l with
  | false => exact skip a0 a1 a3 ao l.length cap l po w h rfl (by omega) hpo hf
  | true =>
    cases hfw : fewP [po] with
    | false => exact skip2 a0 a1 a3 ao l.length cap l po w h rfl (by omega) hpo hf hfw
    | true =>
      cases hs : newB a0 a1 with
      | false => exact bad a0 a1 a3 ao l.length cap l po w h rfl (by omega) hpo hf hfw hs
      | true => exact good a0 a1 a3 ao l.length cap l po w h rfl (by omega) hpo hf (((fewP_iff [po]).1 hfw).2 0 (by simp)) hs
end claimCopies
end Go.Proofs.Ytamfdkigokicoaa
