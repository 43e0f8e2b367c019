/-
  stow: stand, Right.
-/
import Derived.Test.YtllaahdbngjigaaDoorMTrm
import Derived.Test.YtllaahdbngjigaaDoorMSby
namespace Go.Proofs.YtllaahdbngjigaaDoor
open Go Go.RowKit
set_option linter.unusedVariables false
set_option linter.unusedSimpArgs false

/-- The loads that are asked about. -/
structure LOk (L : List Ld) : Prop where
  ok : ∀ x ∈ L, x.ok
  nm : L.Pairwise (fun x y => x.nm ≠ y.nm)
  len : L.length ≤ 20
theorem LOk.perm {A B : List Ld} (h : LOk A) (p : B.Perm A) : LOk B :=
  ⟨fun x hx => h.ok x (p.mem_iff.1 hx), (p.pairwise_iff (fun {x y} (h : x.nm ≠ y.nm) => h.symm)).2 h.nm, by rw [p.length_eq]; exact h.len⟩
theorem LOk.fine {L : List Ld} (h : LOk L) : ∀ x ∈ L, x.fine := fun x hx => (h.ok x hx).fine
theorem LOk.all {L : List Ld} (h : LOk L) : AllFine L := fun x hx => ⟨(h.ok x hx).fine, (h.ok x hx).name.hi⟩
theorem Good.fit {s : Shp} {L : List Ld} (h : Good s L) (hL : LOk L) : Fit s L := ⟨h.on, h.ne, hL.fine, hL.len⟩
theorem take_app {L : List Ld} {k : Nat} {x : Ld} (h : L[k]? = some x) : L.take (k + 1) = L.take k ++ [x] := by
  obtain ⟨hk, e⟩ := List.getElem?_eq_some_iff.1 h
  rw [List.take_succ_eq_append_getElem hk, e]
theorem take_nm {L : List Ld} (h : L.Pairwise (fun x y => x.nm ≠ y.nm)) {k : Nat} {x : Ld} (hx : L[k]? = some x) : ∀ y ∈ L.take k, y.nm ≠ x.nm := by
  obtain ⟨hkl, ek⟩ := List.getElem?_eq_some_iff.1 hx
  intro y hy
  obtain ⟨i, hi, rfl⟩ := List.mem_iff_getElem.1 hy
  have hik : i < k := by simp at hi; omega
  have := List.pairwise_iff_getElem.1 h i k (by omega) hkl hik
  rw [ek] at this
  simpa using this
/-- The first load that isn't put tells that they may not stand together. -/
theorem not_good {s : Shp} {L ls A B : List Ld} {x : Ld} (hL : LOk L) (hp : ls.Perm L) (hs : ls.Pairwise (fun x y => x.t ≤ y.t)) (he : ls = A ++ (x :: B)) (hg : Good s A) (hb : putE s A x ≠ 0) : ¬ Good s L := by
  intro h
  have h2 := h.perm hp.symm
  have hf := (hL.perm hp).fine
  rw [he, show A ++ x :: B = (A ++ [x]) ++ B by simp] at h2 hs hf
  have h3 := h2.pre hf (List.pairwise_append.1 hs).2.2
  exact hb (hg.put (fun y hy => hf y (by simp [hy])) (hf x (by simp)) h3)
/-- What stand tells. -/
def StandPost (w : World) (s : Shp) (L : List Ld) (e : Ending) (w' : World) : Prop := ∃ (u : Value) (c : Int), e = .returned (.tuple #[u, .int .i64 c]) ∧ (c = 0 ↔ Good s L) ∧ Below w.heap.size w w'
set_option maxRecDepth 20000 in
set_option maxHeartbeats 4000000 in
theorem stand_any (w : World) (s : Shp) (hs : s.fine) (ao : Option Addr) (n cap : Nat) (L : List Ld) (h : Lds w (.slice ao n cap) L) (hn : n = L.length) (hL : LOk L) (ha : Apt w) :
    Calls Tryd.prog 42 #[.agg #[.string ⟨#[115, 104, 105, 112]⟩, .int .i64 s.bays, .int .i64 s.rows, .int .i64 s.tiers, .int .i64 s.stack, .int .i64 40, .int .i64 40, .int .i64 60, .int .i64 s.most], .slice ao n cap] w (StandPost w s L) := by
  have HNw := Lib.hid (bnew_any (boxS w s) s hs)
  have HH := Lib.hid (h.below (boxS_below w s))
  have HA := Lib.hid (ha.below (boxS_below w s))
  have HAw := Lib.hid ha
  have HN := Lib.hid hn
  have HL := Lib.hid hL
  have HS := Lib.hid hs
  have HBS := Lib.hid (boxS_below w s)
  have hn20 : n ≤ 20 := by rw [hn]; exact hL.len
  obtain ⟨c0, c1, c2, c3, c4, c5, c6, c7, c8⟩ := boxS_at w s
  clear h hn hL hs ha
  unfold boxS at HNw HH HA HBS c0 c1 c2 c3 c4 c5 c6 c7 c8
  go_enter Tryd.func42, Tryd.ntmps42
  go_wp2_with fail
  refine HNw.out.mono ?_
  rintro e w1 ⟨bh, bs, bn, rfl, hH, hlo, hb1⟩
  have H1 := Lib.hid (And.intro hH (And.intro hlo hb1))
  have HBy := Lib.hid (byPlace_any w1 ao n cap L (HH.out.below hb1) HN.out hn20)
  clear hH hlo hb1 c0 c1 c2 c3 c4 c5 c6 c7 c8 HNw
  go_wp2_with fail
  refine HBy.out.mono ?_
  rintro e w2 ⟨v, ls, rfl, hv, hp, hsr, hb2, hfr⟩
  obtain ⟨ao2, cap2, rfl, hc1, hc2, _⟩ := hv.shape
  have HV := Lib.hid hv
  obtain ⟨m, hm⟩ : ∃ m, m = ls.length := ⟨_, rfl⟩
  rw [← hm] at HV hc1 ⊢
  have HM := Lib.hid hm
  have hm20 : m ≤ 20 := by rw [hm, hp.length_eq]; exact HL.out.len
  have HP := Lib.hid (And.intro hp hsr)
  have HB2 := Lib.hid hb2
  have HBw := Lib.hid (show Below w.heap.size w w2 from btw (btw HBS.out H1.out.2.2) hb2)
  have HLo := Lib.hid (show w.heap.size ≤ bh ∧ w.heap.size ≤ bs ∧ w.heap.size ≤ bn by have := H1.out.2.1; have := HBS.out.size; omega)
  have HA2 := Lib.hid ((HA.out.below H1.out.2.2).below hb2)
  have HSt := Lib.hid (H1.out.1.below hb2)
  have HFr := Lib.hid (show ∀ k b off, HoldS bh bs bn k → ao2 = some ⟨b, off, none⟩ → ¬ b = k from fun k b off hk e eb => by
    have h1 := hfr _ _ _ (by rw [e])
    have h2 := H1.out.1.lt
    have h3 : w1.heap.size ≤ b := h1
    rcases hk with hk | hk | hk <;> omega)
  unfold maxLen at hc2
  clear hv hm hp hsr hb2 hfr HBy
  go_wp2
  go_loopw [22] (fun i wr => ∃ k : Nat, k ≤ m ∧ i = .int .i64 (k : Int) ∧ Hid (HoldIs wr bh bs bn s (ls.take k) ∧ Good s (ls.take k) ∧ Touch (HoldS bh bs bn) w2 wr)) (fun i _ => m - (intOf i).toNat)
  case atStart => exact ⟨0, Nat.zero_le _, rfl, Lib.hid ⟨HSt.out, Good.nil s HS.out, Touch.refl _ _⟩⟩
  case round =>
    obtain ⟨k, hk, rfl, HI⟩ := hrel
    by_cases hlt : k < m
    · have l1 : (k : Int) < (m : Int) := by omega
      have l0 : (0 : Int) ≤ (k : Int) := by omega
      obtain ⟨ab, aoff, rfl, hab, hat⟩ := HV.out.get HM.out (by omega)
      obtain ⟨x, hx⟩ : ∃ x, ls[k]? = some x := ⟨_, List.getElem?_eq_getElem (by rw [← HM.out]; exact hlt)⟩
      obtain ⟨hH, hG, hT⟩ := HI.out
      have nb : ¬ HoldS bh bs bn ab := fun e => HFr.out ab ab aoff e rfl rfl
      obtain ⟨z0, z1, z2, z3, z4, z5, z6⟩ := hat k x hx
      have y0 := cell_touch z0 hT nb
      have y1 := cell_touch z1 hT nb
      have y2 := cell_touch z2 hT nb
      have y3 := cell_touch z3 hT nb
      have y4 := cell_touch z4 hT nb
      have y5 := cell_touch z5 hT nb
      have y6 := cell_touch z6 hT nb
      have hls := HL.out.perm HP.out.1
      have hbx := (Below.refl wr.heap.size wr).alloc (Nat.le_refl _) (.cells #[.int .i64 x.b, .int .i64 x.r, .int .i64 x.t, .string x.nm, .int .i64 x.wt, .int .i64 x.cl, .int .i64 x.pt] 37)
      have hBwr : Below w.heap.size w wr := HBw.out.trans (hT.below HBw.out.size (fun b hb => by have := HLo.out; rcases hb with e | e | e <;> omega))
      have hAp : Apt wr := fun i hi => cell_touch (HA2.out i hi) hT (fun e => by
        have h1 := HLo.out
        have h2 := World.block_lt_of_cell? _ _ (HAw.out i hi)
        have h3 : 2 < w.heap.size := h2
        rcases e with e | e | e <;> (have h4 : (2 : Nat) = _ := e; omega))
      have HPt := Lib.hid (put_any (wr.alloc (.cells #[.int .i64 x.b, .int .i64 x.r, .int .i64 x.t, .string x.nm, .int .i64 x.wt, .int .i64 x.cl, .int .i64 x.pt] 37)) bh bs bn s (ls.take k) x (hH.below hbx)
        (fun y hy => hls.all y (List.mem_of_mem_take hy)) (by simp; omega) HS.out (hls.ok x (List.mem_of_getElem? hx)) (take_nm hls.nm hx) (hAp.below hbx))
      have HBx := Lib.hid hbx
      have HX := Lib.hid hx
      have HW := Lib.hid (And.intro hG (And.intro hT hBwr))
      obtain ⟨c, hc⟩ : ∃ c, c = putE s (ls.take k) x := ⟨_, rfl⟩
      unfold PutPost at HPt
      rw [← hc] at HPt
      have HC := Lib.hid hc
      clear hat hx hH hG hT nb z0 z1 z2 z3 z4 z5 z6 hls hbx hBwr hAp hc hab
      go_wp2_with fail
      refine HPt.out.mono ?_
      rintro e w3 ⟨rfl, hH3, hT3⟩
      have HH3 := Lib.hid hH3
      have HT3 := Lib.hid ((Touch.of_below HBx.out).trans hT3 (fun b e => .inl e))
      clear hH3 hT3 y0 y1 y2 y3 y4 y5 y6
      have HQ := Lib.hid (show Below w.heap.size w w3 from HW.out.2.2.trans (HT3.out.below HW.out.2.2.size (fun b hb => by have := HLo.out; rcases hb with e | e | e <;> omega)))
      by_cases e : c = 0
      · subst e
        have HR := Lib.hid (show HoldIs w3 bh bs bn s (ls.take (k + 1)) ∧ Good s (ls.take (k + 1)) ∧ Touch (HoldS bh bs bn) w2 w3 by
          have h1 := HH3.out
          rw [if_pos rfl] at h1
          have hls := HL.out.perm HP.out.1
          rw [take_app HX.out]
          exact ⟨h1, HW.out.1.more (fun y hy => hls.fine y (List.mem_of_mem_take hy)) (hls.fine x (List.mem_of_getElem? HX.out)) HC.out.symm, HW.out.2.1.trans HT3.out (fun b e => .inl e)⟩)
        clear HPt
        go_wp2
        go_roundw
        case rel => exact ⟨k + 1, by omega, by go_num, HR⟩
        case measure => simp [intOf]; omega
      · have e0 : (c == 0) = false := by simp [e]
        have HNg := Lib.hid (show c = 0 ↔ Good s L from ⟨fun h => absurd h e, fun h => absurd h (not_good HL.out HP.out.1 HP.out.2 (A := ls.take k) (B := ls.drop (k + 1)) (x := x) (by
          obtain ⟨hkl, ek⟩ := List.getElem?_eq_some_iff.1 HX.out
          rw [← ek, ← List.drop_eq_getElem_cons hkl, List.take_append_drop]) HW.out.1 (by rw [← HC.out]; exact e))⟩)
        clear e HPt
        go_wp2
        go_ret2
        exact ⟨_, c, rfl, HNg.out, HQ.out⟩
    · obtain rfl : k = m := by omega
      obtain ⟨hH, hG, hT⟩ := HI.out
      rw [List.take_of_length_le (by rw [← HM.out]; exact Nat.le_refl _)] at hG
      have HGd := Lib.hid (show Good s L from hG.perm HP.out.1)
      have HQ := Lib.hid (show Below w.heap.size w wr from HBw.out.trans (hT.below HBw.out.size (fun b hb => by have := HLo.out; rcases hb with e | e | e <;> omega)))
      clear hH hG hT
      go_wp2
      go_ret2
      exact ⟨_, 0, rfl, ⟨fun _ => HGd.out, fun _ => rfl⟩, HQ.out⟩
/-- What Right tells. -/
def RightPost (w : World) (s : Shp) (L : List Ld) (e : Ending) (w' : World) : Prop := ∃ c : Int, e = .returned (.int .i64 c) ∧ (c = 0 ↔ Good s L ∧ safeV s L = 0) ∧ Below w.heap.size w w'
set_option maxRecDepth 20000 in
set_option maxHeartbeats 4000000 in
theorem right_any (w : World) (s : Shp) (hs : s.fine) (ao : Option Addr) (n cap : Nat) (L : List Ld) (h : Lds w (.slice ao n cap) L) (hn : n = L.length) (hL : LOk L) (ha : Apt w) :
    Calls Tryd.prog 11 #[.agg #[.string ⟨#[115, 104, 105, 112]⟩, .int .i64 s.bays, .int .i64 s.rows, .int .i64 s.tiers, .int .i64 s.stack, .int .i64 40, .int .i64 40, .int .i64 60, .int .i64 s.most], .slice ao n cap] w (RightPost w s L) := by
  have HSt := Lib.hid (stand_any (boxS w s) s hs ao n cap L (h.below (boxS_below w s)) hn hL (ha.below (boxS_below w s)))
  have HSf := Lib.hid (fun W (hW : Below (boxS w s).heap.size (boxS w s) W) (hg : Good s L) => safe_any W s hs ao n cap L ((h.below (boxS_below w s)).below hW) hn (hg.fit hL))
  have HBS := Lib.hid (boxS_below w s)
  have HSh := Lib.hid (boxS_at w s)
  obtain ⟨c0, c1, c2, c3, c4, c5, c6, c7, c8⟩ := boxS_at w s
  clear h hn hL hs ha
  unfold boxS at HSt HSf HBS HSh c0 c1 c2 c3 c4 c5 c6 c7 c8
  go_enter Tryd.func11, Tryd.ntmps11
  go_wp2_with fail
  refine HSt.out.mono ?_
  rintro e w1 ⟨u, c, rfl, hc, hb1⟩
  have HC := Lib.hid hc
  have HB1 := Lib.hid hb1
  obtain ⟨d0, d1, d2, d3, d4, d5, d6, d7, d8⟩ := HSh.out.below hb1
  clear hc hb1 c0 c1 c2 c3 c4 c5 c6 c7 c8 HSt
  by_cases e : c = 0
  · subst e
    have HSf2 := Lib.hid (HSf.out w1 HB1.out (HC.out.1 rfl))
    have HG := Lib.hid (HC.out.1 rfl)
    clear HC
    go_wp2_with fail
    refine HSf2.out.mono ?_
    rintro e w2 ⟨rfl, hb2⟩
    have HB2 := Lib.hid (btw (btw HBS.out HB1.out) hb2)
    clear hb2 d0 d1 d2 d3 d4 d5 d6 d7 d8
    go_wp2
    go_ret
    exact ⟨_, rfl, ⟨fun h => ⟨HG.out, h⟩, fun h => h.2⟩, HB2.out⟩
  · have e0 : (c == 0) = false := by simp [e]
    have HN := Lib.hid (show c = 0 ↔ Good s L ∧ safeV s L = 0 from ⟨fun h => absurd h e, fun h => HC.out.2 h.1⟩)
    clear e d0 d1 d2 d3 d4 d5 d6 d7 d8
    go_wp2
    go_ret
    exact ⟨c, rfl, HN.out, btw HBS.out HB1.out⟩
end Go.Proofs.YtllaahdbngjigaaDoor
