/-
  policy.Covers: that it tells, and what its yes needs.
-/
import Derived.Test.YtofkeipfkglljaaDoorCusD
import Derived.Test.YtofkeipfkglljaaDoorPPays
import Derived.Laws.EntriesVeiled
namespace Go.Proofs.YtofkeipfkglljaaDoor
open Go Go.RowKit
set_option linter.unusedVariables false
set_option linter.unusedSimpArgs false

/-- The policy's block. -/
def PolB (w : World) (b : Nat) (f t : ByteArray) : Prop := w.cell? ⟨b, 1, none⟩ = some (.string f) ∧ w.cell? ⟨b, 2, none⟩ = some (.string t)
theorem PolB.below {w w' : World} {b : Nat} {f t : ByteArray} (h : PolB w b f t) (hb : Below w.heap.size w w') : PolB w' b f t := ⟨cell_later hb h.1, cell_later hb h.2⟩
theorem way1_any (h : Hand) (b : Nat) (f t : ByteArray) (w : World) (hp : PolB w b f t) :
    Calls Tryd.prog 37 #[.agg #[.string h.box, .string h.frm, .string h.to, .string h.place, .int .i64 h.day], .pointer (some ⟨b, 0, none⟩)] w fun e w' => ∃ c, e = .returned (.bool c) ∧ Below w.heap.size w w' := by
  have hA := (Below.refl w.heap.size w).alloc (Nat.le_refl _) (.cells #[.string h.box, .string h.frm, .string h.to, .string h.place, .int .i64 h.day] 35)
  have y1 := cell_later hA hp.1
  have y2 := cell_later hA hp.2
  have HA := Lib.hid hA
  clear hA hp
  go_enter Tryd.func37, Tryd.ntmps37
  go_wp2
  go_ret
  exact ⟨_, rfl, HA.out⟩
theorem way2_any (h : Hand) (b : Nat) (f t : ByteArray) (w : World) (hp : PolB w b f t) :
    Calls Tryd.prog 38 #[.agg #[.string h.box, .string h.frm, .string h.to, .string h.place, .int .i64 h.day], .pointer (some ⟨b, 0, none⟩)] w fun e w' => ∃ c, e = .returned (.bool c) ∧ Below w.heap.size w w' := by
  have hA := (Below.refl w.heap.size w).alloc (Nat.le_refl _) (.cells #[.string h.box, .string h.frm, .string h.to, .string h.place, .int .i64 h.day] 35)
  have y1 := cell_later hA hp.1
  have y2 := cell_later hA hp.2
  have HA := Lib.hid hA
  clear hA hp
  go_enter Tryd.func38, Tryd.ntmps38
  go_wp2
  go_ret
  exact ⟨_, rfl, HA.out⟩

/-- Hands in a row, by address. -/
theorem Hands.get {w : World} {ao : Option Addr} {n cap : Nat} {hs : List Hand} (h : Hands w (.slice ao n cap) hs) (hn : n = hs.length) (hp : 0 < n) :
    ∃ b off, ao = some ⟨b, off, none⟩ ∧ n ≤ cap ∧ cap ≤ maxLen ∧ ∀ k, k < n → ∃ x : Hand, w.cell? ⟨b, off + k * 5, none⟩ = some (.string x.box) ∧ w.cell? ⟨b, off + k * 5 + 1, none⟩ = some (.string x.frm) ∧ w.cell? ⟨b, off + k * 5 + 2, none⟩ = some (.string x.to) ∧
        w.cell? ⟨b, off + k * 5 + 3, none⟩ = some (.string x.place) ∧ w.cell? ⟨b, off + k * 5 + 4, none⟩ = some (.int .i64 x.day) := by
  subst hn
  obtain ⟨b, off, cap', e, h1, h2, _, h4⟩ := h.at hp
  cases e
  exact ⟨b, off, rfl, h1, h2, fun k hk => ⟨hs[k], h4 k hk⟩⟩

set_option maxHeartbeats 1000000 in
theorem idxh_any (g b : Nat) (f t : ByteArray) (ao : Option Addr) (n cap : Nat) (hs : List Hand) (w : World) (h : Hands w (.slice ao n cap) hs) (hn : n = hs.length) (hl : n ≤ 100) (hp : PolB w b f t) (hgg : g = 37 ∨ g = 38)
    (hg : ∀ (h : Hand) (w : World), PolB w b f t → Calls Tryd.prog g #[.agg #[.string h.box, .string h.frm, .string h.to, .string h.place, .int .i64 h.day], .pointer (some ⟨b, 0, none⟩)] w fun e w' => ∃ c, e = .returned (.bool c) ∧ Below w.heap.size w w') :
    Calls Tryd.prog 36 #[.slice ao n cap, .func (.func g) #[] #[.pointer (some ⟨b, 0, none⟩)]] w fun e w' => ∃ z : Int, e = .returned (.int .i64 z) ∧ -1 ≤ z ∧ z < n ∧ Below w.heap.size w w' := by
  rcases hgg with rfl | rfl
  all_goals
    have HH := Lib.hid h
    have HN := Lib.hid hn
    have HG := Lib.hid hg
    have HP := Lib.hid hp
    have HB0 := Lib.hid (Below.refl w.heap.size w)
    clear h hn hg hp
    go_enter Tryd.func36, Tryd.ntmps36
    go_wp2
    go_loopw [8] (fun i wr => ∃ k : Nat, k ≤ n ∧ i = .int .i64 (k : Int) ∧ Hid (Below w.heap.size w wr)) (fun i _ => n - (intOf i).toNat)
    case atStart => exact ⟨0, Nat.zero_le _, rfl, HB0⟩
    case round =>
      clear HB0
      obtain ⟨k, hk, rfl, hb⟩ := hrel
      by_cases hlt : k < n
      · have l1 : (k : Int) < (n : Int) := by omega
        have l0 : (0 : Int) ≤ (k : Int) := by omega
        obtain ⟨b1, off, rfl, k1, k2, hc⟩ := (HH.out.below hb.out).get HN.out (by omega)
        unfold maxLen at k2
        obtain ⟨x, m0, m1, m2, m3, m4⟩ := hc k hlt
        clear hc
        have HGk := Lib.hid (HG.out x _ (HP.out.below hb.out))
        go_wp2_with fail
        refine (HGk.out).mono ?_
        rintro e w1 ⟨c, rfl, hb1⟩
        have HB2 := Lib.hid (hb.out.trans (hb1.mono hb.out.size))
        clear hb1
        cases c with
        | false =>
          go_wp2
          go_roundw
          case rel => exact ⟨k + 1, by omega, by go_num, HB2⟩
          case measure => simp [intOf]; omega
        | true =>
          go_wp2
          go_ret
          exact ⟨_, rfl, by omega, by omega, HB2.out⟩
      · obtain rfl : k = n := by omega
        go_wp2
        go_ret
        exact ⟨_, rfl, by omega, by omega, hb.out⟩

theorem flat_drop (hs : List Hand) (m : Nat) : (hs.drop m).flatMap Hand.cells = (hs.flatMap Hand.cells).drop (m * 5) := by
  induction m generalizing hs with
  | zero => simp
  | succ m ih =>
    cases hs with
    | nil => simp
    | cons a l =>
      rw [List.drop_succ_cons, ih l, List.flatMap_cons, show (m + 1) * 5 = (Hand.cells a).length + m * 5 from by rw [Hand.cells_len]; omega, List.drop_length_add_append]
theorem Hands.drop {w : World} {b off n cap : Nat} {hs : List Hand} (h : Hands w (.slice (some ⟨b, off, none⟩) n cap) hs) (hn : n = hs.length) (m : Nat) (hm : m ≤ n) (hc : m < cap) :
    Hands w (.slice (some ⟨b, off + m * 5, none⟩) (n - m) (cap - m)) (hs.drop m) := by
  obtain ⟨h1, ao, cap', e, h3, h4, h5, h6⟩ := h
  cases e
  refine ⟨by rw [flat_len Hand.cells_len], _, cap - m, by rw [List.length_drop, hn], by rw [List.length_drop]; omega, by omega, (fun e => by cases e), fun a ha j u hu => ?_⟩
  cases ha
  rw [flat_drop, List.getElem?_drop] at hu
  have := h6 _ rfl (m * 5 + j) u hu
  have e : (⟨b, off + m * 5, none⟩ : Addr).add j = (⟨b, off, none⟩ : Addr).add (m * 5 + j) := by
    rw [add_at, add_at, Nat.add_assoc]
  rw [e]; exact this
theorem hands_nil (w : World) (b off : Nat) : Hands w (.slice (some ⟨b, off, none⟩) 0 0) [] := ⟨rfl, _, 0, rfl, Nat.le_refl _, Nat.zero_le _, (fun e => by cases e), fun a ha j u hu => by simp at hu⟩

set_option maxRecDepth 20000 in
set_option maxHeartbeats 2000000 in
theorem onway_any (i f t : ByteArray) (sum own : Int) (cv : Value) (first last share : Int) (ao : Option Addr) (n cap : Nat) (hs : List Hand) (day : Int) (w : World) (h : Hands w (.slice ao n cap) hs) (hn : n = hs.length) (hl : n ≤ 100) :
    Calls Tryd.prog 23 #[.agg #[.string i, .string f, .string t, .int .i64 sum, .int .i64 own, cv, .int .i64 first, .int .i64 last, .int .i64 share], .slice ao n cap, .int .i64 day] w fun e w' => ∃ c, e = .returned (.bool c) ∧ Below w.heap.size w w' := by
  have hA := (Below.refl w.heap.size w).alloc (Nat.le_refl _) (.cells #[.string i, .string f, .string t, .int .i64 sum, .int .i64 own, cv, .int .i64 first, .int .i64 last, .int .i64 share] 26)
  have hh := heap_alloc_new w (.cells #[.string i, .string f, .string t, .int .i64 sum, .int .i64 own, cv, .int .i64 first, .int .i64 last, .int .i64 share] 26)
  have hP : PolB (w.alloc (.cells #[.string i, .string f, .string t, .int .i64 sum, .int .i64 own, cv, .int .i64 first, .int .i64 last, .int .i64 share] 26)) w.heap.size f t := ⟨by simp only [World.cell?, hh]; rfl, by simp only [World.cell?, hh]; rfl⟩
  have HH := Lib.hid (h.below hA)
  have HN := Lib.hid hn
  have HI1 := Lib.hid (idxh_any 37 w.heap.size f t ao n cap hs _ (h.below hA) hn hl hP (.inl rfl) (fun h w hp => way1_any h _ f t w hp))
  have HP := Lib.hid hP
  have HA := Lib.hid hA
  clear h hn hA hh hP
  go_enter Tryd.func23, Tryd.ntmps23
  go_wp2_with fail
  refine HI1.out.mono ?_
  rintro e w1 ⟨z, rfl, z0, z1, hb1⟩
  have HB1 := Lib.hid (HA.out.trans (hb1.mono HA.out.size))
  have HP1 := Lib.hid (HP.out.below hb1)
  have HH1 := Lib.hid (HH.out.below hb1)
  clear HI1 HA HP HH hb1
  by_cases hz : z < 0
  · obtain rfl : z = -1 := by omega
    go_wp2
    go_ret
    exact ⟨_, rfl, HB1.out⟩
  · obtain ⟨k, rfl⟩ : ∃ k : Nat, z = k := ⟨z.toNat, by omega⟩
    have hk : k < n := by omega
    have l0 : decide ((k : Int) < 0) = false := by simp
    obtain ⟨b1, off, rfl, k1, k2, hc⟩ := HH1.out.get HN.out (by omega)
    unfold maxLen at k2
    obtain ⟨x, m0, m1, m2, m3, m4⟩ := hc k hk
    clear hc z0 z1 hz
    by_cases hd : day < x.day
    · have d1 : decide (day < x.day) = true := by rw [decide_eq_true_iff]; exact hd
      go_wp2
      go_ret
      exact ⟨_, rfl, HB1.out⟩
    · have d1 : decide (day < x.day) = false := by rw [decide_eq_false_iff_not]; exact hd
      have HI2 := Lib.hid (fun ao n cap hs h hn hl => idxh_any 38 w.heap.size f t ao n cap hs w1 h hn hl HP1.out (.inr rfl) (fun h w hp => way2_any h _ f t w hp))
      have HN2 := HN.out
      by_cases hcp : k + 1 < cap
      · have HD := Lib.hid (HH1.out.drop HN2 (k + 1) (by omega) hcp)
        have hc2 : ¬ cap = k + 1 := by omega
        clear HN2 m0 m1 m2 m3 HP1
        go_wp2_with fail
        refine (HI2.out _ _ _ _ HD.out (by rw [List.length_drop, ← HN.out]) (by omega)).mono ?_
        rintro e w2 ⟨z, rfl, z0, z1, hb2⟩
        have HB2 := Lib.hid (HB1.out.trans (hb2.mono HB1.out.size))
        have HD2 := Lib.hid (HD.out.below hb2)
        clear HI2 hb2
        by_cases hz : z < 0
        · obtain rfl : z = -1 := by omega
          go_wp2
          go_ret
          exact ⟨_, rfl, HB2.out⟩
        · obtain ⟨j, rfl⟩ : ∃ j : Nat, z = j := ⟨z.toNat, by omega⟩
          have hj : j < n - (k + 1) := by omega
          have l2 : decide ((j : Int) < 0) = false := by simp
          have l3 : (j : Int) < ((n - (k + 1) : Nat) : Int) := by omega
          obtain ⟨b2, off2, e2, k3, k4, hc⟩ := HD2.out.get (by rw [List.length_drop, ← HN.out]) (by omega)
          cases e2
          unfold maxLen at k4
          obtain ⟨x2, _, _, _, _, m5⟩ := hc j hj
          clear hc z0 z1 hz
          go_wp2
          go_ret
          exact ⟨_, rfl, HB2.out⟩
      · obtain rfl : cap = k + 1 := by omega
        obtain rfl : n = k + 1 := by omega
        clear HN2 m0 m1 m2 m3 HP1
        go_wp2_with fail
        refine (HI2.out _ _ _ [] (show Hands w1 (.slice (some ⟨b1, off, none⟩) _ 0) [] from by first | exact hands_nil w1 b1 off | (rw [Nat.sub_self]; exact hands_nil w1 b1 off)) (by simp) (by omega)).mono ?_
        rintro e w2 ⟨z, rfl, z0, z1, hb2⟩
        have HB2 := Lib.hid (HB1.out.trans (hb2.mono HB1.out.size))
        clear HI2 hb2
        obtain rfl : z = -1 := by omega
        go_wp2
        go_ret
        exact ⟨_, rfl, HB2.out⟩

def IsNum (e : Ending) : Prop := ∃ z : Int, e = .returned (.int .i64 z)
def IsBit (e : Ending) : Prop := ∃ c : Bool, e = .returned (.bool c)
/-- What Covers tells. -/
def CovPost (m : Bool) (first last day : Int) (e : Ending) : Prop := ∃ c, e = .returned (.bool c) ∧ (c = true → m = true ∧ first ≤ day ∧ day ≤ last)

set_option maxHeartbeats 1000000 in
theorem idxi_any (ao : Option Addr) (n cap : Nat) (zs : List Int) (x : Int) (w : World) (h : Ints w (.slice ao n cap) zs) (hn : n = zs.length) :
    Calls Tryd.prog 35 #[.slice ao n cap, .int .i64 x] w fun e w' => IsNum e ∧ w' = w := by
  have hcap : n ≤ cap ∧ cap ≤ 2 ^ 63 - 1 := by
    obtain ⟨ao', cap', e, h1, h2, _⟩ := h.shape
    cases e
    unfold maxLen at h2
    exact ⟨h1, h2⟩
  have HH := Lib.hid h
  have HN := Lib.hid hn
  clear h hn
  go_enter Tryd.func35, Tryd.ntmps35
  go_wp2
  go_loopw [8] (fun i wr => ∃ k : Nat, k ≤ n ∧ i = .int .i64 (k : Int) ∧ Hid (wr = w)) (fun i _ => n - (intOf i).toNat)
  case atStart => exact ⟨0, Nat.zero_le _, rfl, Lib.hid rfl⟩
  case round =>
    obtain ⟨k, hk, rfl, hw⟩ := hrel
    have hwe := hw.out
    subst hwe
    by_cases hlt : k < n
    · have l1 : (k : Int) < (n : Int) := by omega
      have l0 : (0 : Int) ≤ (k : Int) := by omega
      obtain ⟨b1, off, rfl, _, hc⟩ := HH.out.get2 HN.out (by omega)
      have c0 := hc k hlt
      clear hc
      generalize zs.getD k 0 = y at c0
      by_cases hx : x = y
      · have e1 : (x == y) = true := beq_iff_eq.2 hx
        go_wp2
        go_ret
        first | exact ⟨⟨_, rfl⟩, rfl⟩ | exact ⟨_, rfl⟩
      · have e1 : (x == y) = false := beq_eq_false_iff_ne.2 hx
        go_wp2
        go_roundw
        case rel => exact ⟨k + 1, by omega, by go_num, Lib.hid (by first | trivial | rfl)⟩
        case measure => simp [intOf]; omega
    · obtain rfl : k = n := by omega
      go_wp2
      go_ret
      first | exact ⟨⟨_, rfl⟩, rfl⟩ | exact ⟨_, rfl⟩
theorem cont_any (ao : Option Addr) (n cap : Nat) (zs : List Int) (x : Int) (w : World) (h : Ints w (.slice ao n cap) zs) (hn : n = zs.length) :
    Calls Tryd.prog 22 #[.slice ao n cap, .int .i64 x] w fun e w' => IsBit e ∧ w' = w := by
  have HI := Lib.hid (idxi_any ao n cap zs x w h hn)
  clear h hn
  go_enter Tryd.func22, Tryd.ntmps22
  go_wp2_with fail
  refine HI.out.mono ?_
  rintro e w1 ⟨⟨z, rfl⟩, rfl⟩
  go_wp2
  go_ret
  first | exact ⟨⟨_, rfl⟩, rfl⟩ | exact ⟨_, rfl⟩

set_option maxRecDepth 20000 in
set_option maxHeartbeats 4000000 in
theorem covers_any (i f t : ByteArray) (sum own : Int) (ac : Option Addr) (nc cc : Nat) (zs : List Int) (first last share : Int) (ao : Option Addr) (n cap : Nat) (hs : List Hand) (cause day : Int) (w : World) (hz : Ints w (.slice ac nc cc) zs) (hzn : nc = zs.length) (h : Hands w (.slice ao n cap) hs) (hn : n = hs.length) (hl : n ≤ 100) :
    Calls Tryd.prog 11 #[.agg #[.string i, .string f, .string t, .int .i64 sum, .int .i64 own, .slice ac nc cc, .int .i64 first, .int .i64 last, .int .i64 share], .slice ao n cap, .int .i64 cause, .int .i64 day] w fun e w' => CovPost (Po.mk i f t sum own (.slice ac nc cc) zs first last share).may first last day e ∧ Below w.heap.size w w' := by
  have hA := (Below.refl w.heap.size w).alloc (Nat.le_refl _) (.cells #[.string i, .string f, .string t, .int .i64 sum, .int .i64 own, .slice ac nc cc, .int .i64 first, .int .i64 last, .int .i64 share] 26)
  have HM := Lib.hid (pmay_any i f t sum own ac nc cc zs first last share _ (hz.below hA) hzn)
  have HC := Lib.hid (fun w' (hb : Below w.heap.size w w') => cont_any ac nc cc zs cause w' (hz.below hb) hzn)
  have HW := Lib.hid (fun w' (hb : Below w.heap.size w w') => onway_any i f t sum own (.slice ac nc cc) first last share ao n cap hs day w' (h.below hb) hn hl)
  have HA := Lib.hid hA
  have HX := Lib.hid (fun (w' : World) (hb : Below (w.alloc (.cells #[.string i, .string f, .string t, .int .i64 sum, .int .i64 own, .slice ac nc cc, .int .i64 first, .int .i64 last, .int .i64 share] 26)).heap.size (w.alloc (.cells #[.string i, .string f, .string t, .int .i64 sum, .int .i64 own, .slice ac nc cc, .int .i64 first, .int .i64 last, .int .i64 share] 26)) w') j v hv => box_at (j := j) (v := v) hb hv)
  generalize (Po.mk i f t sum own (.slice ac nc cc) zs first last share).may = m at *
  clear hA hz hzn h hn
  go_enter Tryd.func11, Tryd.ntmps11
  go_wp2_with fail
  refine HM.out.mono ?_
  rintro e w1 ⟨rfl, hb1⟩
  have HB1 := Lib.hid (HA.out.trans (hb1.mono HA.out.size))
  have HX1 := Lib.hid (fun j v hv => HX.out w1 hb1 j v hv)
  cases m with
  | false =>
    clear hb1
    go_wp2
    go_ret
    exact ⟨⟨_, rfl, (fun h => by cases h)⟩, HB1.out⟩
  | true =>
    have q1 := HX1.out 5 _ rfl
    have q6 := HX1.out 6 _ rfl
    have q7 := HX1.out 7 _ rfl
    have HX2 := Lib.hid hb1
    clear hb1 HX1
    go_wp2_with fail
    refine (HC.out w1 HB1.out).mono ?_
    rintro e w2 ⟨⟨c, rfl⟩, rfl⟩
    cases c with
    | false =>
      go_wp2
      go_ret
      exact ⟨⟨_, rfl, (fun h => by cases h)⟩, HB1.out⟩
    | true =>
      by_cases g1 : first ≤ day
      · have d1 : decide (first ≤ day) = true := by rw [decide_eq_true_iff]; exact g1
        by_cases g2 : day ≤ last
        · have d2 : decide (day ≤ last) = true := by rw [decide_eq_true_iff]; exact g2
          have x0 := HX.out w2 HX2.out 0 _ rfl
          have x1 := HX.out w2 HX2.out 1 _ rfl
          have x2 := HX.out w2 HX2.out 2 _ rfl
          have x3 := HX.out w2 HX2.out 3 _ rfl
          have x4 := HX.out w2 HX2.out 4 _ rfl
          have x8 := HX.out w2 HX2.out 8 _ rfl
          go_wp2_with fail
          refine (HW.out w2 HB1.out).mono ?_
          rintro e w3 ⟨c, rfl, hb3⟩
          have HB3 := Lib.hid (HB1.out.trans (hb3.mono HB1.out.size))
          clear hb3
          cases c
          all_goals
            go_wp2
            go_ret
            exact ⟨⟨_, rfl, (fun h => ⟨rfl, g1, g2⟩)⟩, HB3.out⟩
        · have d2 : decide (day ≤ last) = false := by rw [decide_eq_false_iff_not]; exact g2
          go_wp2
          go_ret
          exact ⟨⟨_, rfl, (fun h => by cases h)⟩, HB1.out⟩
      · have d1 : decide (first ≤ day) = false := by rw [decide_eq_false_iff_not]; exact g1
        go_wp2
        go_ret
        exact ⟨⟨_, rfl, (fun h => by cases h)⟩, HB1.out⟩
end Go.Proofs.YtofkeipfkglljaaDoor
