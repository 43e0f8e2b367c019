/-
  TermBearer: the walk.
-/
import Derived.Test.YtfhcnkedhobhgaaDoorTermChain
import Derived.BigGuardPart
namespace Go.Proofs.YtfhcnkedhobhgaaDoor
open Go Go.RowKit
set_option linter.unusedVariables false
set_option linter.unusedSimpArgs false

theorem stR_stP (h : Hand) (s b : ByteArray) (hsb : ¬ s.toList = b.toList) : stR (some h) s b = stP (some h) s b := by
  unfold stR stP
  simp only []
  by_cases h1 : h.to.toList = s.toList
  · rw [if_pos h1, if_neg (fun e => hsb (h1.symm.trans e)), if_pos h1]
  · rw [if_neg h1, if_neg h1]

theorem refBearer_any (t : Int) (hs : List Hand) (v : Value) (d : Int) (s b : ByteArray) (w : World) (hv : Hands w v hs) (hw : Terms w) :
    Calls Tryd.prog 27 #[.int .i64 t, v, .int .i64 d, .string s, .string b] w fun e w' => e = .returned (pairV (whoR t (lastH hs d) s b)) ∧ Ok w w' := by
  have HS := Lib.hid (at_any hs v d s b w hv)
  have HI := Lib.hid (is_k t w hw)
  have HK := Lib.hid (refRisk_k t)
  obtain ⟨ao, cap, rfl, _⟩ := hv.shape
  obtain ⟨o, ho⟩ : ∃ o, o = lastH hs d := ⟨_, rfl⟩
  rw [← ho] at HS ⊢
  clear ho hv
  cases hti : isB t with
  | false =>
    have HE := Lib.hid (show whoR t o s b = (⟨#[]⟩, false) by unfold whoR; rw [if_neg (by rw [hti]; simp)])
    have HI' := Lib.hid (by have := HI.out; rwa [hti] at this)
    clear hti HI HK
    go_enter Tryd.func27, Tryd.ntmps27
    go_wp2_with fail
    refine HS.out.mono ?_
    rintro e w1 ⟨rfl, rfl⟩
    go_wp2_with fail
    refine HI'.out.mono ?_
    rintro e w1 ⟨rfl, hok⟩
    go_wp2
    go_ret2
    exact ⟨by rw [HE.out]; rfl, hok⟩
  | true =>
    have HI' := Lib.hid (by have := HI.out; rwa [hti] at this)
    have HT := Lib.hid hti
    clear HI
    by_cases hsb : s.toList = b.toList
    · have HE := Lib.hid (show whoR t o s b = (⟨#[]⟩, false) by unfold whoR; rw [if_neg (fun h => h.2.2 hsb)])
      have hx : (s.toList == b.toList) = true := by simpa using hsb
      clear hsb hti HK
      go_enter Tryd.func27, Tryd.ntmps27
      go_wp2_with fail
      refine HS.out.mono ?_
      rintro e w1 ⟨rfl, rfl⟩
      go_wp2_with fail
      refine HI'.out.mono ?_
      rintro e w1 ⟨rfl, hok⟩
      go_wp2
      go_ret2
      exact ⟨by rw [HE.out]; rfl, hok⟩
    · have hx : (s.toList == b.toList) = false := by simpa using hsb
      cases o with
      | none =>
        have HE := Lib.hid (show whoR t none s b = (⟨#[]⟩, false) by unfold whoR; rw [if_neg (by simp)])
        have HS' := Lib.hid (show Calls _ _ _ _ fun e w' => e = .returned (.int .i64 (-1)) ∧ w = w' from HS.out)
        clear hsb hti HK HS
        go_enter Tryd.func27, Tryd.ntmps27
        go_wp2_with fail
        refine HS'.out.mono ?_
        rintro e w1 ⟨rfl, rfl⟩
        go_wp2_with fail
        refine HI'.out.mono ?_
        rintro e w1 ⟨rfl, hok⟩
        go_wp2
        go_ret2
        exact ⟨by rw [HE.out]; rfl, hok⟩
      | some h =>
        have HE := Lib.hid (show whoR t (some h) s b = if risT t ≤ stP (some h) s b then (b, true) else (s, true) by unfold whoR; rw [if_pos ⟨rfl, hti, hsb⟩])
        have q := stP_in (some h) s b
        have HS' := Lib.hid (show Calls _ _ _ _ fun e w' => e = .returned (.int .i64 (stP (some h) s b)) ∧ w = w' from stR_stP h s b hsb ▸ HS.out)
        generalize stP (some h) s b = st at *
        have q0 : 0 ≤ st ∧ st ≤ 7 := by simpa [isB] using q
        obtain ⟨q1, q2⟩ := q0
        clear hsb hti HS q
        by_cases hr : risT t ≤ st
        · have HE' := Lib.hid (HE.out.trans (if_pos hr))
          have hy : decide (risT t ≤ st) = true := by simpa using hr
          clear HE
          go_enter Tryd.func27, Tryd.ntmps27
          go_wp2_with fail
          refine HS'.out.mono ?_
          rintro e w1 ⟨rfl, rfl⟩
          go_wp2_with fail
          refine HI'.out.mono ?_
          rintro e w1 ⟨rfl, hok⟩
          go_wp2_with fail
          refine (HK.out _ hok.1 HT.out).mono ?_
          rintro e w2 ⟨rfl, hok2⟩
          go_wp2
          go_ret2
          exact ⟨by rw [HE'.out]; rfl, hok2.1, bt hok.2 hok2.2⟩
        · have HE' := Lib.hid (HE.out.trans (if_neg hr))
          have hy : decide (risT t ≤ st) = false := by simpa using hr
          clear HE
          go_enter Tryd.func27, Tryd.ntmps27
          go_wp2_with fail
          refine HS'.out.mono ?_
          rintro e w1 ⟨rfl, rfl⟩
          go_wp2_with fail
          refine HI'.out.mono ?_
          rintro e w1 ⟨rfl, hok⟩
          go_wp2_with fail
          refine (HK.out _ hok.1 HT.out).mono ?_
          rintro e w2 ⟨rfl, hok2⟩
          go_wp2
          go_ret2
          exact ⟨by rw [HE'.out]; rfl, hok2.1, bt hok.2 hok2.2⟩

theorem Tryd.info42 : (Tryd.prog.info? 42).map (fun i => (i.zero, i.size, i.bytes)) = some (some (.agg #[.string ⟨#[]⟩, .string ⟨#[]⟩, .string ⟨#[]⟩, .string ⟨#[]⟩, .int .i64 0]), 5, 72) := by kernel_rfl

theorem hand_one (h : Hand) : ∀ u ∈ h.cells, u.oneCell' = true := by
  intro u hu
  simp [Hand.cells] at hu
  rcases hu with rfl | rfl | rfl | rfl | rfl <;> rfl

namespace termBearer

set_option maxHeartbeats 4000000 in
theorem core (t : Int) (hs : List Hand) (v : Value) (d : Int) (s b : ByteArray) (w : World) (hv : Hands w v hs) (hp : 0 < hs.length) (hl : hs.length ≤ 40) (hss : s.size ≤ 100) (hbs : b.size ≤ 100) (hw : Terms w) :
    Calls Tryd.prog 8 #[.int .i64 t, v, .int .i64 d, .string s, .string b] w fun e w' => e = .returned (.bool true) ∧ Below w.heap.size w w' := by
  obtain ⟨i0, hi, hz0, hz1, hz2⟩ := info_parts Tryd.info42
  have HA := Lib.hid awake_k
  have HP := Lib.hid (fun hs v w hv hw => bearer_any t hs v d s b w hv hw)
  have HQ := Lib.hid (fun hs v w hv hw => refBearer_any t hs v d s b w hv hw)
  have HV := Lib.hid hv
  obtain ⟨bk, off, cap, rfl, h1, h2, hbk, hc⟩ := hv.at hp
  obtain ⟨len, hlen⟩ : ∃ len, len = hs.length := ⟨_, rfl⟩
  rw [← hlen] at h1 hp hl
  have HL := Lib.hid hlen
  rw [← hlen]
  unfold maxLen at h2
  have HC := Lib.hid hc
  have hd1 : decide ((100 : Int) < (s.size : Int)) = false := by simp; omega
  have hd2 : decide ((100 : Int) < (b.size : Int)) = false := by simp; omega
  have hd3 : decide ((40 : Int) < (len : Int)) = false := by simp; omega
  clear hc hlen hv hss hbs
  go_enter Tryd.func8, Tryd.ntmps8
  go_wp2_with fail
  refine (HA.out _ hw).mono ?_
  rintro e w1 ⟨rfl, hw1, hb1⟩
  go_wp2_with fail
  have HC1 := Lib.hid (fun k hk => let ⟨a1, a2, a3, a4, a5⟩ := HC.out k hk; And.intro (cell_later hb1 a1) (And.intro (cell_later hb1 a2) (And.intro (cell_later hb1 a3) (And.intro (cell_later hb1 a4) (cell_later hb1 a5)))))
  go_loop [11] (fun i => ∃ k : Nat, k ≤ len ∧ i = .int .i64 k) (fun i => len - (intOf i).toNat)
  case atStart => exact ⟨0, Nat.zero_le _, rfl⟩
  case round =>
    obtain ⟨k, hk, rfl⟩ := hrel
    by_cases hlt : k < len
    · obtain ⟨c0, c1, c2, c3, c4⟩ := HC1.out k (by rw [← HL.out]; exact hlt)
      generalize hs[k]'(by rw [← HL.out]; exact hlt) = h at *
      clear HC HC1 HP HQ HA
      go_wp2
      all_goals first
        | (go_ret; exact ⟨rfl, hb1⟩)
        | (go_round
           case rel => exact ⟨k + 1, by omega, by go_num⟩
           case measure => simp [intOf]; omega)
    · obtain rfl : k = len := by omega
      clear HC
      have HV1 := Lib.hid (show Hands w1 (.slice (some ⟨bk, off, none⟩) k cap) hs by rw [HL.out]; exact HV.out.below hb1)
      clear HV
      go_wp2_with fail
      refine (HP.out hs _ _ HV1.out hw1).mono ?_
      rintro e w2 ⟨rfl, hw2, hb2⟩
      obtain ⟨q, hq⟩ : ∃ q, q = whoR t (lastH hs d) s b := ⟨_, rfl⟩
      have HQE := Lib.hid hq
      rw [← hq]
      clear hq
      unfold pairV
      have hxx : (q.1.toList == q.1.toList) = true := by simp
      go_wp2_with fail
      refine (HQ.out hs _ _ (HV1.out.below hb2) hw2).mono ?_
      rintro e w3 ⟨rfl, hw3, hb3⟩
      rw [← HQE.out]
      unfold pairV
      have hb23 := bt hb2 hb3
      have hb13 := bt hb1 hb23
      have HC3 := Lib.hid (fun k hk => let ⟨a1, a2, a3, a4, a5⟩ := HC1.out k hk; And.intro (cell_later hb23 a1) (And.intro (cell_later hb23 a2) (And.intro (cell_later hb23 a3) (And.intro (cell_later hb23 a4) (cell_later hb23 a5)))))
      clear HC1 HV1 hb2 hb3 hb23 HA HQ
      have HO := Lib.hid (show (w3.alloc (.cells #[] 42)).ownsRow w3.heap.size 42 5 (.slice (some ⟨w3.heap.size, 0, none⟩) 0 0) 0 [] from ⟨by simp, .inr ⟨w3.heap.size, 0, #[], rfl, Nat.le_refl _, heap_alloc_new _ _, Nat.le_refl _, by unfold maxLen; omega, rfl, rfl⟩⟩)
      go_wp2_with fail
      go_loopw [16, 17] (fun v i wr => ∃ m : Nat, m ≤ k ∧ i = .int .i64 m ∧ wr.ownsRow w3.heap.size 42 5 v ((hs.take m).filter fun h => decide (h.day ≤ d)).length (((hs.take m).filter fun h => decide (h.day ≤ d)).flatMap Hand.cells) ∧ Below w3.heap.size w3 wr) (fun _ i _ => k - (intOf i).toNat)
      case atStart => exact ⟨0, Nat.zero_le _, rfl, HO.out, (Below.refl _ _).alloc (Nat.le_refl _) _⟩
      case round =>
        obtain ⟨m, hm, rfl, hown, hbr⟩ := hrel
        by_cases hml : m < k
        · have hmz : m < hs.length := by rw [← HL.out]; exact hml
          obtain ⟨c0, c1, c2, c3, c4⟩ := HC3.out m hmz
          have t1 := take_snoc hs m hmz
          generalize hs[m] = h at *
          clear HC3 HP
          have hll : ((hs.take m).filter fun h => decide (h.day ≤ d)).length ≤ m := Nat.le_trans (List.length_filter_le _ _) (List.length_take_le _ _)
          have hm40 : m < 40 := by omega
          by_cases hd : h.day ≤ d
          · have hdd : decide (h.day ≤ d) = true := by simpa using hd
            have E1 := Lib.hid (show ((hs.take (m + 1)).filter fun h => decide (h.day ≤ d)) = ((hs.take m).filter fun h => decide (h.day ≤ d)) ++ [h] by rw [t1, List.filter_append]; simp [hd])
            generalize ((hs.take m).filter fun h => decide (h.day ≤ d)) = L at *
            have a0 := cell_later hbr c0
            have a1 := cell_later hbr c1
            have a2 := cell_later hbr c2
            have a3 := cell_later hbr c3
            have a4 := cell_later hbr c4
            have HOw := Lib.hid hown
            have HBr := Lib.hid hbr
            clear t1 c0 c1 c2 c3 c4 hown hbr hd
            go_wp2_with (at_builtin; refine wp_app rfl (.tmp 115) (.tmp 120) 40 rfl w3.heap.size 42 i0 _ 5 72 Tryd.underlying40 hi hz0 hz1 hz2 rfl (by decide) _ _ _ rfl HOw.out HBr.out (Nat.le_refl _) HBr.out.size #[.string h.box, .string h.frm, .string h.to, .string h.place, .int .i64 h.day] _ rfl rfl rfl (hand_one h) (by unfold maxLen; omega) (by omega) ?_; intro v4 w4 hown4 hb4 _; have HO4 := Lib.hid hown4; have HB4 := Lib.hid hb4; clear hown4 hb4)
            go_roundw
            case rel => exact ⟨m + 1, by omega, by go_num, by rw [E1.out, List.length_append, List.flatMap_append]; simpa [Hand.cells] using HO4.out, HB4.out⟩
            case measure => simp [intOf]; omega
          · have hdd : decide (h.day ≤ d) = false := by simpa using hd
            have E1 := Lib.hid (show ((hs.take (m + 1)).filter fun h => decide (h.day ≤ d)) = ((hs.take m).filter fun h => decide (h.day ≤ d)) by rw [t1, List.filter_append]; simp [hd])
            generalize ((hs.take m).filter fun h => decide (h.day ≤ d)) = L at *
            have a4 := cell_later hbr c4
            have HOw := Lib.hid hown
            have HBr := Lib.hid hbr
            clear t1 c0 c1 c2 c3 c4 hown hbr hd
            go_wp2
            go_roundw
            case rel => exact ⟨m + 1, by omega, by go_num, by rw [E1.out]; exact HOw.out, HBr.out⟩
            case measure => simp [intOf]; omega
        · obtain rfl : m = k := by omega
          rw [List.take_of_length_le (by rw [← HL.out]; exact Nat.le_refl _)] at hown
          have HH := Lib.hid (show Hands _ _ (hs.filter fun h => decide (h.day ≤ d)) from Row.of_own hown)
          have hF : lastH (hs.filter fun h => decide (h.day ≤ d)) d = lastH hs d := by unfold lastH; rw [List.filter_filter]; simp
          have HF := Lib.hid hF
          have hwr := hw3.below hbr
          clear hF hown HC3 HO
          go_wp2_with fail
          refine (HP.out _ _ _ HH.out hwr).mono ?_
          rintro e w5 ⟨rfl, hw5, hb5⟩
          rw [HF.out, ← HQE.out]
          unfold pairV
          go_wp2
          go_ret
          exact ⟨by simp, bt (bt hb13 hbr) hb5⟩

set_option maxHeartbeats 1000000 in
/-- No hand at all. -/
theorem core0 (t : Int) (ao : Option Addr) (cap : Nat) (d : Int) (s b : ByteArray) (w : World) (hcap : cap ≤ maxLen) (hn : ao = none → cap = 0) (hss : s.size ≤ 100) (hbs : b.size ≤ 100) (hw : Terms w) :
    Calls Tryd.prog 8 #[.int .i64 t, .slice ao 0 cap, .int .i64 d, .string s, .string b] w fun e w' => e = .returned (.bool true) ∧ Below w.heap.size w w' := by
  have hH : ∀ w, Hands w (.slice ao 0 cap) [] := fun w => ⟨rfl, ao, cap, rfl, Nat.zero_le _, hcap, hn, fun _ _ _ _ h => by cases h⟩
  have HA := Lib.hid awake_k
  have HP := Lib.hid (fun hs v w hv hw => bearer_any t hs v d s b w hv hw)
  have HQ := Lib.hid (fun w hw => refBearer_any t [] _ d s b w (hH w) hw)
  have HH := Lib.hid hH
  have hd1 : decide ((100 : Int) < (s.size : Int)) = false := by simp; omega
  have hd2 : decide ((100 : Int) < (b.size : Int)) = false := by simp; omega
  clear hH hss hbs hn
  go_enter Tryd.func8, Tryd.ntmps8
  go_wp2_with fail
  refine (HA.out _ hw).mono ?_
  rintro e w1 ⟨rfl, hw1, hb1⟩
  go_wp2_with fail
  refine wp_loop_rounds 1 ?_
  rw [rounds_succ]
  go_wp2_with fail
  refine (HP.out _ _ _ (HH.out w1) hw1).mono ?_
  rintro e w2 ⟨rfl, hw2, hb2⟩
  obtain ⟨q, hq⟩ : ∃ q, q = whoR t (lastH [] d) s b := ⟨_, rfl⟩
  have HQE := Lib.hid hq
  rw [← hq]
  clear hq
  unfold pairV
  have hxx : (q.1.toList == q.1.toList) = true := by simp
  go_wp2_with fail
  refine (HQ.out _ hw2).mono ?_
  rintro e w3 ⟨rfl, hw3, hb3⟩
  rw [← HQE.out]
  unfold pairV
  have hb13 := bt hb1 (bt hb2 hb3)
  clear hb2 hb3
  go_wp2_with fail
  refine wp_loop_rounds 1 ?_
  rw [rounds_succ]
  go_wp2_with fail
  have hb4 : Below w3.heap.size w3 (w3.alloc (.cells #[] 42)) := (Below.refl _ _).alloc (Nat.le_refl _) _
  refine (HP.out [] _ _ ⟨rfl, some ⟨w3.heap.size, 0, none⟩, 0, rfl, Nat.le_refl _, by unfold maxLen; omega, (fun h => by cases h), fun _ _ _ _ h => by cases h⟩ (hw3.below hb4)).mono ?_
  rintro e w5 ⟨rfl, hw5, hb5⟩
  rw [← HQE.out]
  unfold pairV
  go_wp2
  go_ret
  exact ⟨by simp, bt (bt hb13 hb4) hb5⟩

set_option maxHeartbeats 1000000 in
/-- Too long: nothing is asked. -/
theorem core1 (t : Int) (ao : Option Addr) (len cap : Nat) (d : Int) (s b : ByteArray) (w : World) (h : 40 < len ∨ 100 < s.size ∨ 100 < b.size) (hw : Terms w) :
    Calls Tryd.prog 8 #[.int .i64 t, .slice ao len cap, .int .i64 d, .string s, .string b] w fun e w' => e = .returned (.bool true) ∧ Below w.heap.size w w' := by
  have HA := Lib.hid (awake_k w hw)
  have HH := Lib.hid h
  clear h hw
  go_enter Tryd.func8, Tryd.ntmps8
  go_wp2_with fail
  refine HA.out.mono ?_
  rintro e w1 ⟨rfl, hw1, hb1⟩
  go_wp2_with fail
  all_goals first
    | (go_ret; exact ⟨rfl, hb1⟩)
    | (exfalso; have := HH.out; omega)
    | (exfalso; have := HH.out; simp_all; omega)
end termBearer

theorem c42 : Tryd.prog.cellsOf 42 = 5 := by kernel_rfl

/-- A hand that came in. -/
theorem hand_of {H : Type} {enc : TypeId × Value → H} {W : World} {m : Nat} {cs : List Value} {x : DataW H × List MemPlace}
    (h : DataW.trod enc Tryd.prog W 0 (fun _ => true) true m 42 cs = some x) : ∃ a : Hand, cs = a.cells ∧ (Lit.int .i64 a.day).wf = true := by
  obtain ⟨xs, m1, rfl, rfl, hlen, hn, hel⟩ := DataW.trod_struct Tryd.underlying42 h
  rw [c42] at hlen
  have g0 := hel 0 _ rfl
  have g1 := hel 1 _ rfl
  have g2 := hel 2 _ rfl
  have g3 := hel 3 _ rfl
  have g4 := hel 4 _ rfl
  match xs, hn with
  | [x0, x1, x2, x3, x4], _ =>
    simp only [List.getElem?_cons_zero, List.getElem?_cons_succ] at g0 g1 g2 g3 g4
    obtain ⟨s0, q0, _⟩ := DataW.trod_string Tryd.underlying9 g0
    obtain ⟨s1, q1, _⟩ := DataW.trod_string Tryd.underlying9 g1
    obtain ⟨s2, q2, _⟩ := DataW.trod_string Tryd.underlying9 g2
    obtain ⟨s3, q3, _⟩ := DataW.trod_string Tryd.underlying9 g3
    obtain ⟨n4, q4, _, hw⟩ := DataW.trod_int Tryd.underlying3 g4
    have r0 := take1 q0
    have r1 := take1 q1
    have r2 := take1 q2
    have r3 := take1 q3
    have r4 := take1 q4
    match cs, hlen with
    | [y0, y1, y2, y3, y4], _ =>
      simp at r0 r1 r2 r3 r4
      subst r0 r1 r2 r3 r4
      exact ⟨⟨s0, s1, s2, s3, n4⟩, rfl, hw⟩

/-- A chain that came in. -/
def Is40 (w : World) (v : Value) : Prop := ∃ hs, Hands w v hs
theorem open40 {H : Type} {enc : TypeId × Value → H} {W : World} {base : Nat} {v : Value} {d : DataW H} {p : List MemPlace} (hval : Value.okWide Tryd.prog W .any base 40 v)
    (h : DataW.Trod enc Tryd.prog W 0 (fun _ => true) true 40 v d p) : Is40 W v := by
  obtain ⟨a0, len, cap, rfl⟩ := WideShapes.okWide_slice Tryd.underlying40 hval
  obtain ⟨fuel, hf⟩ := h
  rcases DataW.trod_slice Tryd.underlying40 hf with ⟨hcs, _⟩ | ⟨a, len', cap', elems, rest, n, rfl, hcs, hx, _, hl, hm, hel2, hcells, _⟩
  · simp [Value.cells] at hcs
    obtain ⟨rfl, rfl, rfl⟩ := hcs
    exact ⟨[], Row.nil _ _⟩
  · simp [Value.cells] at hcs
    obtain ⟨rfl, rfl, rfl⟩ := hcs
    rw [c42] at hcells
    obtain ⟨xs, h1, _, h3⟩ := row_of_each (p := fun _ => True) Hand.cells_len hl hm (W := W) (a := a) (fun i hi => by
      have := hcells i hi
      rw [List.getElem?_eq_getElem (by omega)] at this
      obtain ⟨cs1, hc1, ht⟩ := Option.bind_eq_some_iff.1 this
      obtain ⟨y, rfl, _⟩ := hand_of ht
      exact ⟨y, hc1, trivial⟩)
    subst h1
    exact ⟨xs, h3⟩

namespace termBearer
theorem walk (a0 : Int) (v1 : Value) (a2 : Int) (a3 a4 : ByteArray) (w : World) (w0 : (Lit.int .i64 a0).wf = true) (w1 : Is40 w v1) (w2 : (Lit.int .i64 a2).wf = true) (w3 : a3.size ≤ maxLen) (w4 : a4.size ≤ maxLen) (hw : Terms w) :
    Calls Tryd.prog 8 #[.int .i64 a0, v1, .int .i64 a2, .string a3, .string a4] w fun e w' => e = .returned (.bool true) ∧ Below w.heap.size w w' := by
  obtain ⟨hs, hv⟩ := w1
  obtain ⟨ao, cap, rfl, h1, h2, h3⟩ := hv.shape
  by_cases h : 40 < hs.length ∨ 100 < a3.size ∨ 100 < a4.size
  · exact core1 a0 ao _ cap a2 a3 a4 w h hw
  · by_cases hp : 0 < hs.length
    · exact core a0 hs _ a2 a3 a4 w hv hp (by omega) (by omega) (by omega) hw
    · obtain rfl : hs = [] := List.eq_nil_of_length_eq_zero (by omega)
      exact core0 a0 ao cap a2 a3 a4 w h2 h3 (by omega) (by omega) hw

theorem terms_met {W : World} (h : laidMetH Tryd.prog Rows.termBearerRow.laid W) : Terms W := terms_metH List.mem_cons_self (by kernel_rfl) (by kernel_rfl) h
end termBearer
end Go.Proofs.YtfhcnkedhobhgaaDoor
