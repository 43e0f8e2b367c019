/-
  Chains of hands: the stage of a box as of a day, and who bears. (Lines of term/XTermChain, for a seat without the document's.)
-/
import Derived.Test.YtofkeipfkglljaaDoorTermAwake
import Derived.Test.YtofkeipfkglljaaDoorSep
import Derived.BigGuardPart
namespace Go.Proofs.YtofkeipfkglljaaDoor
open Go Go.RowKit
set_option linter.unusedVariables false
set_option linter.unusedSimpArgs false

theorem tbt : (⟨#[98, 117, 121, 101, 114]⟩ : ByteArray).toList = [98, 117, 121, 101, 114] := by decide +kernel
theorem tst : (⟨#[115, 101, 108, 108, 101, 114]⟩ : ByteArray).toList = [115, 101, 108, 108, 101, 114] := by decide +kernel
theorem twho_in {t s f : Int} (ht : isB t = true) (hs : isB s = true) : (whoT t s f).toList = if f ≤ s then [98, 117, 121, 101, 114] else [115, 101, 108, 108, 101, 114] := by
  simp [isB] at ht hs
  unfold whoT
  rw [if_pos (by omega)]
  split
  · exact tbt
  · exact tst
theorem take_snoc {α : Type} (l : List α) (k : Nat) (h : k < l.length) : l.take (k + 1) = l.take k ++ [l[k]] := by
  rw [List.take_succ_eq_append_getElem h]

set_option maxHeartbeats 400000 in
def Ok (w w' : World) : Prop := Terms w' ∧ Below w.heap.size w w'
theorem Ok.drewN {w : World} (h : Terms w) (n : Nat) : Ok w (w.drewN n) := ⟨h.drewN n, below_drewN (Below.refl _ _) n⟩
theorem risk_k (t s : Int) (w : World) (h : Terms w) : Calls Tryd.prog 19 #[.int .i64 t, .int .i64 s] w fun e w' => e = .returned (.string (bearT t s)) ∧ Ok w w' :=
  (risk_any t s w h).mono fun e w' ⟨h1, n, h2⟩ => ⟨h1, h2 ▸ Ok.drewN h n⟩

structure Hand where
  box : ByteArray
  frm : ByteArray
  to : ByteArray
  place : ByteArray
  day : Int

def Hand.cells (h : Hand) : List Value := [.string h.box, .string h.frm, .string h.to, .string h.place, .int .i64 h.day]
theorem Hand.cells_len (h : Hand) : h.cells.length = 5 := rfl

/-- A slice of hands. -/
def Hands (w : World) (v : Value) (hs : List Hand) : Prop := Row w v 5 hs.length (hs.flatMap Hand.cells)
theorem Hands.below {w w' : World} {v : Value} {hs : List Hand} (h : Hands w v hs) (hb : Below w.heap.size w w') : Hands w' v hs := Row.below h hb
theorem Hands.shape {w : World} {v : Value} {hs : List Hand} (h : Hands w v hs) : ∃ ao cap, v = .slice ao hs.length cap ∧ hs.length ≤ cap ∧ cap ≤ maxLen ∧ (ao = none → cap = 0) := by
  obtain ⟨_, ao, cap, h1, h2, h3, h4, _⟩ := h
  exact ⟨ao, cap, h1, h2, h3, h4⟩
theorem Hands.at {w : World} {v : Value} {hs : List Hand} (h : Hands w v hs) (hp : 0 < hs.length) :
    ∃ b off cap, v = .slice (some ⟨b, off, none⟩) hs.length cap ∧ hs.length ≤ cap ∧ cap ≤ maxLen ∧ b < w.heap.size ∧
      ∀ k (hk : k < hs.length), w.cell? ⟨b, off + k * 5, none⟩ = some (.string hs[k].box) ∧ w.cell? ⟨b, off + k * 5 + 1, none⟩ = some (.string hs[k].frm) ∧ w.cell? ⟨b, off + k * 5 + 2, none⟩ = some (.string hs[k].to) ∧
        w.cell? ⟨b, off + k * 5 + 3, none⟩ = some (.string hs[k].place) ∧ w.cell? ⟨b, off + k * 5 + 4, none⟩ = some (.int .i64 hs[k].day) := by
  have hl := flat_len Hand.cells_len hs
  obtain ⟨b, off, cap, h1, h2, h3, h4, h5⟩ := Row.at h (by rw [hl]; omega)
  refine ⟨b, off, cap, h1, h2, h3, h4, fun k hk => ?_⟩
  have key : ∀ j v, j < 5 → hs[k].cells[j]? = some v → w.cell? ⟨b, off + k * 5 + j, none⟩ = some v := by
    intro j v hj hv
    have hlt : k * 5 + j < (hs.flatMap Hand.cells).length := by rw [hl]; omega
    have e := flat_get Hand.cells_len hs k j hk hj
    rw [hv] at e
    have := h5 _ hlt
    rw [List.getElem?_eq_getElem hlt] at e
    rw [Nat.add_assoc, this, e]
  exact ⟨key 0 _ (by omega) rfl, key 1 _ (by omega) rfl, key 2 _ (by omega) rfl, key 3 _ (by omega) rfl, key 4 _ (by omega) rfl⟩

/-- The last hand up to a day. -/
def lastH (hs : List Hand) (d : Int) : Option Hand := (hs.filter fun h => decide (h.day ≤ d)).getLast?
theorem lastH_nil (d : Int) : lastH [] d = none := rfl
theorem lastH_hit (l : List Hand) (h : Hand) (d : Int) (hd : h.day ≤ d) : lastH (l ++ [h]) d = some h := by
  unfold lastH
  rw [List.filter_append]
  simp [hd]
theorem lastH_miss (l : List Hand) (h : Hand) (d : Int) (hd : ¬ h.day ≤ d) : lastH (l ++ [h]) d = lastH l d := by
  unfold lastH
  rw [List.filter_append]
  simp [hd]

def stP (o : Option Hand) (s b : ByteArray) : Int := match o with
  | none => 0
  | some h => if h.to.toList = s.toList then 0 else if h.to.toList = b.toList then 7 else 3
def stR (o : Option Hand) (s b : ByteArray) : Int := match o with
  | none => -1
  | some h => if h.to.toList = b.toList then 7 else if h.to.toList = s.toList then 0 else 3

set_option maxHeartbeats 1000000 in
theorem stage_pos (hs : List Hand) (v : Value) (d : Int) (s b : ByteArray) (w : World) (hv : Hands w v hs) (hp : 0 < hs.length) :
    Calls Tryd.prog 17 #[v, .int .i64 d, .string s, .string b] w fun e w' => e = .returned (.tuple #[.int .i64 (stP (lastH hs d) s b), .bool (lastH hs d).isSome]) ∧ w = w' := by
  obtain ⟨bk, off, cap, rfl, h1, h2, _, hc⟩ := hv.at hp
  obtain ⟨len, hlen⟩ : ∃ len, len = hs.length := ⟨_, rfl⟩
  rw [← hlen]
  rw [← hlen] at hp h1
  unfold maxLen at h2
  have HC := Lib.hid hc
  have HL := Lib.hid hlen
  clear hc hlen hv
  go_enter Tryd.func17, Tryd.ntmps17
  go_wp2_with fail
  go_loop [10] (fun i => ∃ m : Nat, m ≤ len ∧ i = .int .i64 ((m : Int) - 1) ∧ lastH (hs.take m) d = lastH hs d) (fun i => (intOf i + 1).toNat)
  case atStart => exact ⟨len, Nat.le_refl _, rfl, by rw [List.take_of_length_le (by rw [← HL.out]; exact Nat.le_refl _)]⟩
  case round =>
    obtain ⟨m, hm, rfl, hr⟩ := hrel
    cases m with
    | zero =>
      rw [List.take_zero, lastH_nil] at hr
      have HR := Lib.hid hr
      clear hr HC
      rw [show ((0 : Nat) : Int) - 1 = -1 from rfl]
      go_wp2
      go_ret2
      exact ⟨by rw [← HR.out]; rfl, rfl⟩
    | succ k =>
      have hkz : k < hs.length := by rw [← HL.out]; omega
      obtain ⟨_, _, c3, _, c5⟩ := HC.out k hkz
      have t1 := take_snoc hs k hkz
      rw [t1] at hr
      generalize hs[k] = h at *
      rw [show ((k + 1 : Nat) : Int) - 1 = k by omega]
      clear HC t1 hkz
      by_cases hd : h.day ≤ d
      · rw [lastH_hit _ _ _ hd] at hr
        have hb : decide (d < h.day) = false := by simp; omega
        by_cases ha : h.to.toList = s.toList
        · have HR := Lib.hid (show stP (lastH hs d) s b = 0 ∧ (lastH hs d).isSome = true by rw [← hr]; simp [stP, ha])
          have hx : (h.to.toList == s.toList) = true := by simpa using ha
          clear hr ha
          go_wp2
          go_ret2
          exact ⟨by rw [HR.out.1, HR.out.2]; rfl, rfl⟩
        · have hx : (h.to.toList == s.toList) = false := by simpa using ha
          by_cases hb' : h.to.toList = b.toList
          · have HR := Lib.hid (show stP (lastH hs d) s b = 7 ∧ (lastH hs d).isSome = true by rw [← hr]; simp [stP, ha, hb']; intro h; exact ha (hb'.trans h))
            have hy : (h.to.toList == b.toList) = true := by simpa using hb'
            clear hr ha hb'
            go_wp2
            go_ret2
            exact ⟨by rw [HR.out.1, HR.out.2]; rfl, rfl⟩
          · have HR := Lib.hid (show stP (lastH hs d) s b = 3 ∧ (lastH hs d).isSome = true by rw [← hr]; simp [stP, ha, hb'])
            have hy : (h.to.toList == b.toList) = false := by simpa using hb'
            clear hr ha hb'
            go_wp2
            go_ret2
            exact ⟨by rw [HR.out.1, HR.out.2]; rfl, rfl⟩
      · rw [lastH_miss _ _ _ hd] at hr
        have hb : decide (d < h.day) = true := by simp; omega
        have HR := Lib.hid hr
        clear hr
        go_wp2
        go_round
        case rel => exact ⟨k, by omega, rfl, HR.out⟩
        case measure => simp [intOf]

set_option maxHeartbeats 400000 in
theorem stage_any (hs : List Hand) (v : Value) (d : Int) (s b : ByteArray) (w : World) (hv : Hands w v hs) :
    Calls Tryd.prog 17 #[v, .int .i64 d, .string s, .string b] w fun e w' => e = .returned (.tuple #[.int .i64 (stP (lastH hs d) s b), .bool (lastH hs d).isSome]) ∧ w = w' := by
  by_cases hp : 0 < hs.length
  · exact stage_pos hs v d s b w hv hp
  · obtain rfl : hs = [] := List.eq_nil_of_length_eq_zero (by omega)
    obtain ⟨ao, cap, rfl, _⟩ := hv.shape
    clear hv hp
    go_enter Tryd.func17, Tryd.ntmps17
    go_wp2_with fail
    refine wp_loop_rounds 1 ?_
    rw [rounds_succ]
    go_wp2
    go_ret2
    exact ⟨rfl, rfl⟩

/-- Who bears, by the last hand. -/
def whoR (t : Int) (o : Option Hand) (s b : ByteArray) : ByteArray × Bool :=
  if o.isSome = true ∧ isB t = true ∧ ¬ s.toList = b.toList then (if risT t ≤ stP o s b then (b, true) else (s, true)) else (⟨#[]⟩, false)

theorem stP_in (o : Option Hand) (s b : ByteArray) : isB (stP o s b) = true := by
  unfold stP isB
  cases o with
  | none => rfl
  | some h =>
    show (decide (0 ≤ if h.to.toList = s.toList then (0 : Int) else if h.to.toList = b.toList then 7 else 3) && decide ((if h.to.toList = s.toList then (0 : Int) else if h.to.toList = b.toList then 7 else 3) ≤ 7)) = true
    split
    · rfl
    · split <;> rfl

def pairV (x : ByteArray × Bool) : Value := .tuple #[.string x.1, .bool x.2]

set_option maxHeartbeats 1000000 in
theorem bearer_any (t : Int) (hs : List Hand) (v : Value) (d : Int) (s b : ByteArray) (w : World) (hv : Hands w v hs) (hw : Terms w) :
    Calls Tryd.prog 9 #[.int .i64 t, v, .int .i64 d, .string s, .string b] w fun e w' => e = .returned (pairV (whoR t (lastH hs d) s b)) ∧ Ok w w' := by
  have HS := Lib.hid (stage_any hs v d s b w hv)
  have HR := Lib.hid (risk_k t)
  obtain ⟨ao, cap, rfl, _⟩ := hv.shape
  obtain ⟨o, ho⟩ : ∃ o, o = lastH hs d := ⟨_, rfl⟩
  rw [← ho] at HS ⊢
  clear ho hv
  cases hos : o.isSome with
  | false =>
    have HE := Lib.hid (show whoR t o s b = (⟨#[]⟩, false) by unfold whoR; rw [if_neg (by rw [hos]; simp)])
    have HS' := Lib.hid (by have := HS.out; rwa [hos] at this)
    clear hos HS
    go_enter Tryd.func9, Tryd.ntmps9
    go_wp2_with fail
    refine HS'.out.mono ?_
    rintro e w1 ⟨rfl, rfl⟩
    go_wp2
    go_ret2
    exact ⟨by rw [HE.out]; rfl, hw, Below.refl _ _⟩
  | true =>
    have HS' := Lib.hid (by have := HS.out; rwa [hos] at this)
    clear HS
    cases hti : isB t with
    | false =>
      have HE := Lib.hid (show whoR t o s b = (⟨#[]⟩, false) by unfold whoR; rw [if_neg (by rw [hti]; simp)])
      have ht : t < 0 ∨ 8 ≤ t := by simp [isB] at hti; omega
      clear hti hos
      rcases ht with ht | ht
      · have hd : decide (0 ≤ t) = false := by simp; omega
        go_enter Tryd.func9, Tryd.ntmps9
        go_wp2_with fail
        refine HS'.out.mono ?_
        rintro e w1 ⟨rfl, rfl⟩
        go_wp2
        go_ret2
        exact ⟨by rw [HE.out]; rfl, hw, Below.refl _ _⟩
      · have hd : decide (t < 8) = false := by simp; omega
        have hd0 : decide (0 ≤ t) = true := by simp; omega
        go_enter Tryd.func9, Tryd.ntmps9
        go_wp2_with fail
        refine HS'.out.mono ?_
        rintro e w1 ⟨rfl, rfl⟩
        go_wp2
        go_ret2
        exact ⟨by rw [HE.out]; rfl, hw, Below.refl _ _⟩
    | true =>
      have ht : 0 ≤ t ∧ t < 8 := by simp [isB] at hti; omega
      have hd1 : decide (0 ≤ t) = true := by simp; omega
      have hd2 : decide (t < 8) = true := by simp; omega
      obtain ⟨ht0, ht8⟩ := ht
      by_cases hsb : s.toList = b.toList
      · have HE := Lib.hid (show whoR t o s b = (⟨#[]⟩, false) by unfold whoR; rw [if_neg (fun h => h.2.2 hsb)])
        have hx : (s.toList == b.toList) = true := by simpa using hsb
        clear hsb hti hos
        go_enter Tryd.func9, Tryd.ntmps9
        go_wp2_with (first | (go_at_call 17; refine HS'.out.mono ?_; rintro e w1 ⟨rfl, rfl⟩) | (go_at_call 18; go_in))
        go_ret2
        exact ⟨by rw [HE.out]; rfl, hw, Below.refl _ _⟩
      · have hx : (s.toList == b.toList) = false := by simpa using hsb
        have q := twho_in (f := risT t) hti (stP_in o s b)
        have HQ := Lib.hid (show (bearT t (stP o s b)).toList = _ from q)
        have HE := Lib.hid (show whoR t o s b = if risT t ≤ stP o s b then (b, true) else (s, true) by unfold whoR; rw [if_pos ⟨hos, hti, hsb⟩])
        clear q hsb hti hos
        by_cases hr : risT t ≤ stP o s b
        · have hy : ((bearT t (stP o s b)).toList == [98, 117, 121, 101, 114]) = true := by rw [HQ.out, if_pos hr]; decide
          have HE' := Lib.hid (HE.out.trans (if_pos hr))
          clear hr HE HQ
          go_enter Tryd.func9, Tryd.ntmps9
          go_wp2_with (first | (go_at_call 17; refine HS'.out.mono ?_; rintro e w1 ⟨rfl, rfl⟩) | (go_at_call 18; go_in) | (go_at_call 19; refine (HR.out _ _ hw).mono ?_; rintro e w2 ⟨rfl, hok⟩))
          go_ret2
          exact ⟨by rw [HE'.out]; rfl, hok⟩
        · have hy : ((bearT t (stP o s b)).toList == [98, 117, 121, 101, 114]) = false := by rw [HQ.out, if_neg hr]; decide
          have HE' := Lib.hid (HE.out.trans (if_neg hr))
          clear hr HE HQ
          go_enter Tryd.func9, Tryd.ntmps9
          go_wp2_with (first | (go_at_call 17; refine HS'.out.mono ?_; rintro e w1 ⟨rfl, rfl⟩) | (go_at_call 18; go_in) | (go_at_call 19; refine (HR.out _ _ hw).mono ?_; rintro e w2 ⟨rfl, hok⟩))
          go_ret2
          exact ⟨by rw [HE'.out]; rfl, hok⟩
end Go.Proofs.YtofkeipfkglljaaDoor
