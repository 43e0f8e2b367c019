/-
  The example by which each statement of the layer begins; few.
-/
import Derived.Test.YtoaopgamfndfgaaPays
import Derived.BigQuiet
namespace Go.Proofs.Ytoaopgamfndfgaa
open Go Go.RowKit
set_option linter.unusedVariables false
set_option linter.unusedSimpArgs false

/-- Few, and of short names. -/
def fewB (l : List In1) : Bool := decide (l.length ≤ 31) && (List.range l.length).all fun k => decide ((l.getD k default).t.size ≤ 60)
theorem few_iff (l : List In1) : fewB l = true ↔ l.length ≤ 31 ∧ ∀ k, k < l.length → (l.getD k default).t.size ≤ 60 := by
  simp [fewB]

set_option maxHeartbeats 1000000 in
theorem rfew_any (ao : Option Addr) (n cap : Nat) (l : List In1) (w : World) (h : Ins w (.slice ao n cap) l) (hn : n = l.length) (hwf : ∀ o ∈ l, o.wf) (hcap : n ≤ maxLen) :
    Calls Try.prog 22 #[.slice ao n cap] w fun e w' => e = .returned (.bool (fewB l)) ∧ w' = w := by
  obtain ⟨x, hx⟩ : ∃ x, x = fewB l := ⟨_, rfl⟩
  rw [← hx]
  have HX := Lib.hid hx
  have H := Lib.hid h
  have HN := Lib.hid hn
  have HWf := Lib.hid (show ∀ k, k < l.length → (l.getD k default).t.size ≤ 9223372036854775807 from fun k hk => by
    have := (hwf l[k] (List.getElem_mem hk)).1
    rw [List.getD_eq_getElem?_getD, List.getElem?_eq_getElem hk]
    unfold maxLen at this
    show l[k].t.size ≤ _; omega)
  have HCap := Lib.hid hcap
  clear hx h hn hwf hcap
  go_enter Try.func22, Try.ntmps22
  go_wp2
  go_loopw [3] (fun i wr => ∃ k : Nat, k ≤ n ∧ k ≤ 31 ∧ i = .int .i64 (k : Int) ∧ Hid (∀ j, j < k → (l.getD j default).t.size ≤ 60) ∧ Hid (wr = w)) (fun i _ => n - (intOf i).toNat)
  case atStart => exact ⟨0, Nat.zero_le _, Nat.zero_le _, rfl, Lib.hid (fun j hj => by omega), Lib.hid rfl⟩
  case round =>
    obtain ⟨k, hk, hk31, rfl, hp, hw⟩ := hrel
    by_cases hlt : k < n
    · have l1 : (k : Int) < (n : Int) := by omega
      have l0 : (0 : Int) ≤ (k : Int) := by omega
      by_cases g1 : 30 < k
      · have d1 : decide ((30 : Int) < (k : Int)) = true := by rw [decide_eq_true_iff]; omega
        have HR := Lib.hid (show x = false by rw [HX.out, Bool.eq_false_iff]; intro hf; have := ((few_iff l).1 hf).1; have := HN.out; omega)
        go_wp2
        go_ret
        exact ⟨by rw [HR.out]; rfl, hw.out⟩
      · have d1 : decide ((30 : Int) < (k : Int)) = false := by rw [decide_eq_false_iff_not]; omega
        have hwe := hw.out
        subst hwe
        obtain ⟨bl, off, rfl, hbl, hc⟩ := H.out.get HN.out (by omega)
        obtain ⟨c1, -⟩ := hc k hlt
        have hsz := HWf.out k (by rw [← HN.out]; exact hlt)
        obtain ⟨t, ht⟩ : ∃ t, t = (l.getD k default).t := ⟨_, rfl⟩
        have HT := Lib.hid ht
        rw [← ht] at c1 hsz
        clear ht hc
        by_cases g2 : 60 < t.size
        · have d2 : decide ((60 : Int) < (t.size : Int)) = true := by rw [decide_eq_true_iff]; omega
          have HR := Lib.hid (show x = false by rw [HX.out, Bool.eq_false_iff]; intro hf; have := ((few_iff l).1 hf).2 k (by rw [← HN.out]; exact hlt); rw [← HT.out] at this; omega)
          go_wp2
          go_ret
          exact ⟨by rw [HR.out]; rfl, rfl⟩
        · have d2 : decide ((60 : Int) < (t.size : Int)) = false := by rw [decide_eq_false_iff_not]; omega
          have HQ := Lib.hid (show ∀ j, j < k + 1 → (l.getD j default).t.size ≤ 60 from fun j hj => by
            by_cases e : j = k
            · subst e; rw [← HT.out]; omega
            · exact hp.out j (by omega))
          go_wp2
          go_roundw
          case rel => exact ⟨k + 1, by omega, by omega, by go_num, HQ, Lib.hid (by trivial)⟩
          case measure => simp [intOf]; omega
    · obtain rfl : k = n := by omega
      have HR := Lib.hid (show x = true by rw [HX.out, few_iff]; exact ⟨by rw [← HN.out]; exact hk31, fun j hj => hp.out j (by rw [HN.out]; exact hj)⟩)
      go_wp2
      go_ret
      exact ⟨by rw [HR.out]; rfl, hw.out⟩

theorem few_any (ao bo : Option Addr) (n cap m cap2 : Nat) (l : List In1) (w : World) (h : Ins w (.slice ao n cap) l) (hn : n = l.length) (hwf : ∀ o ∈ l, o.wf) (hcap : n ≤ maxLen) :
    Calls Try.prog 11 #[.slice ao n cap, .slice bo m cap2] w fun e w' => e = .returned (.bool (fewB l && decide (m ≤ 60))) ∧ w' = w := by
  have HF := Lib.hid (rfew_any ao n cap l w h hn hwf hcap)
  have e : decide ((m : Int) ≤ 60) = decide (m ≤ 60) := by rw [decide_eq_decide]; omega
  clear h hn hwf hcap
  cases c : fewB l with
  | false =>
    rw [c] at HF
    go_enter Try.func11, Try.ntmps11
    go_wp2_with fail
    refine HF.out.mono ?_
    rintro e w1 ⟨rfl, rfl⟩
    go_wp2
    go_ret
    exact ⟨by simp, rfl⟩
  | true =>
    rw [c] at HF
    go_enter Try.func11, Try.ntmps11
    go_wp2_with fail
    refine HF.out.mono ?_
    rintro e w1 ⟨rfl, rfl⟩
    go_wp2
    go_ret
    exact ⟨by simp [e], rfl⟩

theorem Des.get {w : World} {ao : Option Addr} {n cap : Nat} {D : List De} (h : Des w (.slice ao n cap) D) (hn : n = D.length) (hp : 0 < n) : ∃ b off, ao = some ⟨b, off, none⟩ ∧ b < w.heap.size ∧ ∀ k (hk : k < D.length),
    w.cell? ⟨b, off + k * 4, none⟩ = some (.string D[k].f) ∧ w.cell? ⟨b, off + k * 4 + 1, none⟩ = some (.string D[k].t) ∧ w.cell? ⟨b, off + k * 4 + 2, none⟩ = some (.string D[k].c) ∧ w.cell? ⟨b, off + k * 4 + 3, none⟩ = some (.int .i64 D[k].z) := by
  have hl : (D.flatMap De.cells).length = D.length * 4 := flat_len (f := De.cells) (sz := 4) (fun _ => rfl) D
  obtain ⟨b, off, cap, h1, h2, h3, h4, h5⟩ := Row.at h (by omega)
  cases h1
  refine ⟨b, off, rfl, h4, fun k hk => ?_⟩
  have g : ∀ j, j < 4 → w.cell? ⟨b, off + (k * 4 + j), none⟩ = (De.cells D[k])[j]? := fun j hj => by
    have e := flat_get (f := De.cells) (sz := 4) (fun _ => rfl) D k j hk hj
    rw [← e, h5 (k * 4 + j) (by rw [hl]; omega), List.getElem?_eq_getElem]
  refine ⟨by have := g 0 (by omega); simpa [De.cells] using this, ?_, ?_, ?_⟩
  · rw [Nat.add_assoc]; have := g 1 (by omega); simpa [De.cells] using this
  · rw [Nat.add_assoc]; have := g 2 (by omega); simpa [De.cells] using this
  · rw [Nat.add_assoc]; have := g 3 (by omega); simpa [De.cells] using this
theorem Des.shape {w : World} {v : Value} {D : List De} (h : Des w v D) : ∃ ao cap, v = .slice ao D.length cap ∧ D.length ≤ cap ∧ cap ≤ maxLen ∧ (ao = none → cap = 0) := by
  obtain ⟨_, ao, cap, h1, h2, h3, h4, _⟩ := h
  exact ⟨ao, cap, h1, h2, h3, h4⟩
theorem Des.below {w w' : World} {v : Value} {D : List De} (h : Des w v D) (hb : Below w.heap.size w w') : Des w' v D := Row.below h hb

set_option maxHeartbeats 1000000 in
theorem debts_any (a b : Value) (D : List De) (w : World) (h1 : Des w a D) (h2 : Des w b D) :
    Calls Try.prog 14 #[a, b] w fun e w' => e = .returned (.bool true) ∧ ∃ q, w' = w.drewN q := by
  obtain ⟨ao, cap, ea, k1, k2, _⟩ := h1.shape
  obtain ⟨bo, cap2, eb, k3, k4, _⟩ := h2.shape
  subst ea eb
  obtain ⟨n, HN⟩ : ∃ n, Hid (n = D.length) := ⟨_, Lib.hid rfl⟩
  rw [← HN.out] at h1 h2 k1 k3 ⊢
  have H1 := Lib.hid h1
  have H2 := Lib.hid h2
  have hn4 : n ≤ 9223372036854775807 := by unfold maxLen at k2; omega
  clear h1 h2 k1 k2 k3 k4
  go_enter Try.func14, Try.ntmps14
  go_wp2
  go_loopw [5] (fun i wr => ∃ k : Nat, k ≤ n ∧ i = .int .i64 (k : Int) ∧ Hid (∃ q, wr = w.drewN q)) (fun i _ => n - (intOf i).toNat)
  case atStart => exact ⟨0, Nat.zero_le _, rfl, Lib.hid ⟨0, rfl⟩⟩
  case round =>
    obtain ⟨k, hk, rfl, hw⟩ := hrel
    by_cases hlt : k < n
    · have l1 : (k : Int) < (n : Int) := by omega
      have l0 : (0 : Int) ≤ (k : Int) := by omega
      have I1 : Des wr (.slice ao n cap) D := by obtain ⟨q, e⟩ := hw.out; rw [e]; exact Row.drewN H1.out q
      have I2 : Des wr (.slice bo n cap2) D := by obtain ⟨q, e⟩ := hw.out; rw [e]; exact Row.drewN H2.out q
      obtain ⟨b1, o1, rfl, -, hc1⟩ := I1.get HN.out (by omega)
      obtain ⟨b2, o2, rfl, -, hc2⟩ := I2.get HN.out (by omega)
      obtain ⟨a1, a2, a3, a4⟩ := hc1 k (by rw [← HN.out]; exact hlt)
      obtain ⟨e1, e2, e3, e4⟩ := hc2 k (by rw [← HN.out]; exact hlt)
      generalize D[k]'(by rw [← HN.out]; exact hlt) = d at *
      obtain ⟨f, t, c, z⟩ := d
      dsimp only at a1 a2 a3 a4 e1 e2 e3 e4
      clear hc1 hc2 I1 I2
      go_wp2_with fail
      go_quiet (fail)
      go_wp2
      go_roundw
      case rel => exact ⟨k + 1, by omega, by go_num, Lib.hid (by obtain ⟨q, e⟩ := hw.out; exact ⟨q + nq, by rw [e, World.drewN_drewN]⟩)⟩
      case measure => simp [intOf]; omega
    · obtain rfl : k = n := by omega
      go_wp2
      go_ret
      exact ⟨rfl, hw.out⟩

def exL : List In1 := [⟨⟨#[115, 104, 105, 112]⟩, 60⟩, ⟨⟨#[97]⟩, 30⟩, ⟨⟨#[98]⟩, 10⟩]
def exD : List De := [⟨⟨#[115, 104, 105, 112]⟩, ⟨#[97]⟩, ⟨#[]⟩, 12⟩, ⟨⟨#[98]⟩, ⟨#[97]⟩, ⟨#[]⟩, 2⟩]
theorem ex_whole : wholeN exL [0, 20, 0] 0 = 0 := by kernel_rfl
theorem ex_ok : WholeOk exL [0, 20, 0] 0 20 [60, 30, 10] := by
  obtain ⟨T, W, h⟩ := whole_is ex_whole
  have h1 := h.sum
  have e1 : ([0, 20, 0] : List Int).sum + 0 = 20 := by decide
  rw [e1] at h1
  obtain rfl : T = 20 := by omega
  have h2 := h.vals
  have e2 : valsL exL = natI [60, 30, 10] := rfl
  rw [e2] at h2
  have h3 : W = [60, 30, 10] := by
    have := congrArg (List.map Int.toNat) h2
    simpa [natI, List.map_map, Function.comp_def] using this.symm
  subst h3
  exact h
theorem ex_split : ∀ out, IsSplit 20 [60, 30, 10] out → out = [12, 6, 2] := fun out h => h.unique ⟨[0, 1, 2], by decide, by unfold Srtd Lx; decide, by decide⟩
theorem ex_pays : (payAll exL (getsL [0, 20, 0] [12, 6, 2]) 0 3).D = exD := by kernel_rfl
theorem ex_gets : getsL [0, 20, 0] [12, 6, 2] = [-12, 14, -2] := by decide
theorem row_lit (w : World) (e sz n : Nat) (cs : Array Value) (h : cs.size = n * sz) (hn : n ≤ maxLen) : Row (w.alloc (.cells cs e)) (.slice (some ⟨w.heap.size, 0, none⟩) n n) sz n cs.toList := by
  refine ⟨by simpa using h, some ⟨w.heap.size, 0, none⟩, n, rfl, Nat.le_refl _, hn, (fun h => by cases h), fun a ha j u hu => ?_⟩
  cases ha
  exact new_cells w cs e j u hu

def exC : Array Value := #[.string ⟨#[115, 104, 105, 112]⟩, .int .i64 60, .string ⟨#[97]⟩, .int .i64 30, .string ⟨#[98]⟩, .int .i64 10]
theorem lit_iA (W : World) (xs : List Int) (cs : Array Value) (n : Nat) (hc : cs = iA xs) (hn : n = xs.length) (hl : n ≤ 4096) : Ints (W.alloc (.cells cs 2)) (.slice (some ⟨W.heap.size, 0, none⟩) n n) xs := by
  subst hc
  exact (blk_new W xs).ints hn hl
theorem aw_whole (b0 : Nat) (W : World) (h : Ins W (.slice (some ⟨b0, 0, none⟩) 3 3) exL) :
    Calls Try.prog 15 #[.slice (some ⟨b0, 0, none⟩) 3 3, .slice (some ⟨W.heap.size, 0, none⟩) 3 3, .int .i64 0] (W.alloc (.cells #[.int .i64 0, .int .i64 20, .int .i64 0] 2)) fun e w' => ∃ b1 b2, e = .returned (.tuple #[.slice (some ⟨b1, 0, none⟩) 3 3, .slice (some ⟨b2, 0, none⟩) 3 3, .int .i64 0]) ∧ Blk w' b1 [12, 6, 2] ∧ Blk w' b2 [-12, 14, -2] ∧ Below W.heap.size W w' := by
  have hb0 := (Below.refl W.heap.size W).alloc (Nat.le_refl _) (.cells #[.int .i64 0, .int .i64 20, .int .i64 0] 2)
  have hi := h.below hb0
  refine (whole_any 20 [60, 30, 10] _ _ 3 3 3 exL [0, 20, 0] 0 _ hi rfl (lit_iA W [0, 20, 0] _ 3 rfl rfl (by decide)) ex_whole (by decide) rfl).mono ?_
  rintro e w' ⟨b1, b2, out, rfl, hs, h1, h2, _, _, hb⟩
  obtain rfl := ex_split out hs
  exact ⟨b1, b2, rfl, h1, by rw [ex_gets] at h2; exact h2, bt hb0 hb⟩
theorem aw_pays (b0 : Nat) (W : World) (h : Ins W (.slice (some ⟨b0, 0, none⟩) 3 3) exL) :
    Calls Try.prog 12 #[.slice (some ⟨b0, 0, none⟩) 3 3, .slice (some ⟨W.heap.size, 0, none⟩) 3 3, .int .i64 0] (W.alloc (.cells #[.int .i64 0, .int .i64 20, .int .i64 0] 2)) fun e w' => ∃ a c, e = .returned (.tuple #[.slice a 2 c, .int .i64 0]) ∧ Des w' (.slice a 2 c) exD ∧ Below W.heap.size W w' := by
  have hb0 := (Below.refl W.heap.size W).alloc (Nat.le_refl _) (.cells #[.int .i64 0, .int .i64 20, .int .i64 0] 2)
  have hi := h.below hb0
  refine (pays_any 20 [60, 30, 10] _ _ 3 3 3 exL [0, 20, 0] 0 _ hi rfl (lit_iA W [0, 20, 0] _ 3 rfl rfl (by decide)) ex_ok).mono ?_
  rintro e w' ⟨v, out, rfl, hs, hd, hb⟩
  obtain rfl := ex_split out hs
  have e1 : exL.length = 3 := rfl
  rw [e1, ex_pays] at hd
  obtain ⟨a, c, rfl, _⟩ := hd.shape
  exact ⟨a, c, rfl, hd, bt hb0 hb⟩
theorem aw_same (b1 : Nat) (xs : List Int) (cs : Array Value) (hc : cs = iA xs) (hl : xs.length = 3) (W : World) (h : Blk W b1 xs) :
    Calls Try.prog 17 #[.slice (some ⟨b1, 0, none⟩) 3 3, .slice (some ⟨W.heap.size, 0, none⟩) 3 3] (W.alloc (.cells cs 2)) fun e w' => e = .returned (.bool true) ∧ Below W.heap.size W w' := by
  have hb0 := (Below.refl W.heap.size W).alloc (Nat.le_refl _) (.cells cs 2)
  refine (same_any _ _ xs xs _ ((h.below hb0).ints hl.symm (by decide)) (lit_iA W xs cs 3 hc hl.symm (by decide))).mono ?_
  rintro e w' ⟨rfl, m, rfl⟩
  exact ⟨by simp, below_drewN hb0 m⟩
theorem aw_debts (v : Value) (W : World) (h : Des W v exD) :
    Calls Try.prog 14 #[v, .slice (some ⟨W.heap.size, 0, none⟩) 2 2] (W.alloc (.cells #[.string ⟨#[115, 104, 105, 112]⟩, .string ⟨#[97]⟩, .string ⟨#[]⟩, .int .i64 12, .string ⟨#[98]⟩, .string ⟨#[97]⟩, .string ⟨#[]⟩, .int .i64 2] 40)) fun e w' => e = .returned (.bool true) ∧ Below W.heap.size W w' := by
  have hb0 := (Below.refl W.heap.size W).alloc (Nat.le_refl _) (.cells #[.string ⟨#[115, 104, 105, 112]⟩, .string ⟨#[97]⟩, .string ⟨#[]⟩, .int .i64 12, .string ⟨#[98]⟩, .string ⟨#[97]⟩, .string ⟨#[]⟩, .int .i64 2] 40)
  refine (debts_any _ _ exD _ (h.below hb0) (row_lit W 40 4 2 _ rfl (by unfold maxLen; omega))).mono ?_
  rintro e w' ⟨rfl, m, rfl⟩
  exact ⟨rfl, below_drewN hb0 m⟩

set_option maxRecDepth 100000 in
set_option maxHeartbeats 4000000 in
theorem awake43_any (w : World) : Calls Try.prog 10 #[] w fun e w' => e = .returned (.bool true) ∧ Below w.heap.size w w' := by
  have HI := Lib.hid (show Ins _ _ exL from row_lit w 35 2 3 #[.string ⟨#[115, 104, 105, 112]⟩, .int .i64 60, .string ⟨#[97]⟩, .int .i64 30, .string ⟨#[98]⟩, .int .i64 10] rfl (by unfold maxLen; omega))
  have HB0 := Lib.hid ((Below.refl w.heap.size w).alloc (Nat.le_refl _) (.cells #[.string ⟨#[115, 104, 105, 112]⟩, .int .i64 60, .string ⟨#[97]⟩, .int .i64 30, .string ⟨#[98]⟩, .int .i64 10] 35))
  have HS0 := Lib.hid (show w.heap.size + 1 = (w.alloc (.cells #[.string ⟨#[115, 104, 105, 112]⟩, .int .i64 60, .string ⟨#[97]⟩, .int .i64 30, .string ⟨#[98]⟩, .int .i64 10] 35)).heap.size by simp)
  go_enter Try.func10, Try.ntmps10
  go_wp2_with fail
  generalize w.alloc (.cells #[.string ⟨#[115, 104, 105, 112]⟩, .int .i64 60, .string ⟨#[97]⟩, .int .i64 30, .string ⟨#[98]⟩, .int .i64 10] 35) = w0 at *
  obtain ⟨b0, hb0⟩ : ∃ b, b = w.heap.size := ⟨_, rfl⟩
  rw [HS0.out]
  rw [← hb0] at HI ⊢
  clear hb0 HS0
  refine (aw_whole b0 w0 HI.out).mono ?_
  rintro e w1 ⟨b1, b2, rfl, k1, k2, hb⟩
  have HK1 := Lib.hid k1
  have HK2 := Lib.hid k2
  have HI1 := Lib.hid (HI.out.below hb)
  have HB1 := Lib.hid (bt HB0.out hb)
  clear k1 k2 hb HI HB0
  go_wp2_with fail
  refine (aw_pays b0 w1 HI1.out).mono ?_
  rintro e w2 ⟨a, c, rfl, hd, hb⟩
  have HK1 := Lib.hid (HK1.out.below hb)
  have HK2 := Lib.hid (HK2.out.below hb)
  have HB2 := Lib.hid (bt HB1.out hb)
  have HD := Lib.hid hd
  clear hd hb HI1 HB1
  go_wp2_with fail
  refine (aw_same b1 [12, 6, 2] _ rfl rfl w2 HK1.out).mono ?_
  rintro e w3 ⟨rfl, hb⟩
  have HK3 := Lib.hid (HK2.out.below hb)
  have HB3 := Lib.hid (bt HB2.out hb)
  have HD3 := Lib.hid (HD.out.below hb)
  clear hb
  go_wp2_with fail
  refine (aw_same b2 [-12, 14, -2] _ rfl rfl w3 HK3.out).mono ?_
  rintro e w4 ⟨rfl, hb⟩
  have HB4 := Lib.hid (bt HB3.out hb)
  have HD4 := Lib.hid (HD3.out.below hb)
  clear hb
  go_wp2_with fail
  refine (aw_debts _ w4 HD4.out).mono ?_
  rintro e w5 ⟨rfl, hb⟩
  have HB5 := Lib.hid (bt HB4.out hb)
  clear hb
  go_wp2
  go_ret
  exact ⟨rfl, HB5.out⟩
end Go.Proofs.Ytoaopgamfndfgaa
