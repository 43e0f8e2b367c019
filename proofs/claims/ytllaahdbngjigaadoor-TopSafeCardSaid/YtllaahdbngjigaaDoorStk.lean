/-
  bay: stack, Stack.
-/
import Derived.Test.YtllaahdbngjigaaDoorPutB
namespace Go.Proofs.YtllaahdbngjigaaDoor
open Go Go.RowKit
set_option linter.unusedVariables false
set_option linter.unusedSimpArgs false

/-- A slice of loads. -/
def Lds (w : World) (v : Value) (l : List Ld) : Prop := Row w v 7 l.length (l.flatMap Ld.cells)
theorem Lds.below {w w' : World} {v : Value} {l : List Ld} (h : Lds w v l) (hb : Below w.heap.size w w') : Lds w' v l := Row.below h hb
theorem Lds.shape {w : World} {v : Value} {l : List Ld} (h : Lds w v l) : ∃ ao cap, v = .slice ao l.length cap ∧ l.length ≤ cap ∧ cap ≤ maxLen ∧ (ao = none → cap = 0) := by
  obtain ⟨_, ao, cap, h1, h2, h3, h4, _⟩ := h
  exact ⟨ao, cap, h1, h2, h3, h4⟩
theorem ld_len (l : List Ld) : (l.flatMap Ld.cells).length = l.length * 7 := flat_len (f := Ld.cells) (sz := 7) (fun _ => rfl) l
theorem cells_flat (l : List Ld) (x : Ld) : (l ++ [x]).flatMap Ld.cells = l.flatMap Ld.cells ++ (#[.int .i64 x.b, .int .i64 x.r, .int .i64 x.t, .string x.nm, .int .i64 x.wt, .int .i64 x.cl, .int .i64 x.pt] : Array Value).toList := by
  simp [Ld.cells]
theorem ld_one (x : Ld) : ∀ u ∈ (#[.int .i64 x.b, .int .i64 x.r, .int .i64 x.t, .string x.nm, .int .i64 x.wt, .int .i64 x.cl, .int .i64 x.pt] : Array Value).toList, u.oneCell' = true := by
  intro u hu
  simp at hu
  rcases hu with rfl | rfl | rfl | rfl | rfl | rfl | rfl <;> rfl
/-- The seven cells of the k-th load of a slice. -/
structure CellsAt (w : World) (b o : Nat) (x : Ld) : Prop where
  c0 : w.cell? ⟨b, o, none⟩ = some (.int .i64 x.b)
  c1 : w.cell? ⟨b, o + 1, none⟩ = some (.int .i64 x.r)
  c2 : w.cell? ⟨b, o + 2, none⟩ = some (.int .i64 x.t)
  c3 : w.cell? ⟨b, o + 3, none⟩ = some (.string x.nm)
  c4 : w.cell? ⟨b, o + 4, none⟩ = some (.int .i64 x.wt)
  c5 : w.cell? ⟨b, o + 5, none⟩ = some (.int .i64 x.cl)
  c6 : w.cell? ⟨b, o + 6, none⟩ = some (.int .i64 x.pt)
theorem CellsAt.below {w w' : World} {b o : Nat} {x : Ld} (h : CellsAt w b o x) (hb : Below w.heap.size w w') : CellsAt w' b o x :=
  ⟨cell_later hb h.c0, cell_later hb h.c1, cell_later hb h.c2, cell_later hb h.c3, cell_later hb h.c4, cell_later hb h.c5, cell_later hb h.c6⟩
theorem Lds.get {w : World} {ao : Option Addr} {n cap : Nat} {l : List Ld} (h : Lds w (.slice ao n cap) l) (hn : n = l.length) (hp : 0 < n) : ∃ b off, ao = some ⟨b, off, none⟩ ∧ b < w.heap.size ∧ ∀ k (x : Ld), l[k]? = some x → CellsAt w b (off + k * 7) x := by
  have hl := ld_len l
  obtain ⟨b, off, cap', e, h2, h3, h4, h5⟩ := Row.at h (by omega)
  cases e
  refine ⟨b, off, rfl, h4, fun k x hx => ?_⟩
  obtain ⟨hk, e⟩ := List.getElem?_eq_some_iff.1 hx
  have g : ∀ j, j < 7 → w.cell? ⟨b, off + (k * 7 + j), none⟩ = (Ld.cells x)[j]? := fun j hj => by
    have e2 := flat_get (f := Ld.cells) (sz := 7) (fun _ => rfl) l k j hk hj
    rw [e] at e2
    rw [← e2, h5 (k * 7 + j) (by rw [hl]; omega), List.getElem?_eq_getElem]
  have g' : ∀ j v, j < 7 → (Ld.cells x)[j]? = some v → w.cell? ⟨b, off + k * 7 + j, none⟩ = some v := fun j v hj hv => by
    rw [Nat.add_assoc, g j hj, hv]
  exact ⟨g' 0 _ (by omega) rfl, g' 1 _ (by omega) rfl, g' 2 _ (by omega) rfl, g' 3 _ (by omega) rfl, g' 4 _ (by omega) rfl, g' 5 _ (by omega) rfl, g' 6 _ (by omega) rfl⟩

theorem infoLd : (Tryd.prog.info? 37).map (fun i => (i.zero, i.size, i.bytes)) = some (some zLd.val, 7, 64) := by kernel_rfl
def StkPre (L : List Ld) (b r : Int) (ys : List Ld) : Prop := ∀ (i : Nat) y, ys[i]? = some y → atL L b r i = some y
theorem StkPre.snoc {L : List Ld} {b r : Int} {ys : List Ld} {y : Ld} (h : StkPre L b r ys) (hy : atL L b r ys.length = some y) : StkPre L b r (ys ++ [y]) := by
  intro i z hz
  by_cases hi : i < ys.length
  · rw [List.getElem?_append_left hi] at hz
    exact h i z hz
  · have : i = ys.length := by
      have := (List.getElem?_eq_some_iff.1 hz).1
      simp at this; omega
    subst this
    simp at hz
    rw [hy, hz]
/-- The state of stack's loop. -/
structure StkI (w wr : World) (L : List Ld) (b r : Int) (v : Value) (k : Nat) : Prop where
  pre : ∃ ys, ys.length = k ∧ StkPre L b r ys ∧ wr.ownsRow w.heap.size 37 7 v k (ys.flatMap Ld.cells)
  below : Below w.heap.size w wr
theorem StkI.le {w wr : World} {L : List Ld} {b r : Int} {v : Value} {k : Nat} (h : StkI w wr L b r v k) (hL : AllFine L) : k ≤ 3 := by
  obtain ⟨⟨ys, rfl, h1, _⟩, _⟩ := h
  rcases Nat.lt_or_ge 3 ys.length with h | h
  · have := h1 3 _ (List.getElem?_eq_getElem h)
    obtain ⟨hm, _, _, ht⟩ := atL_some this
    have := (hL _ hm).1.t
    omega
  · exact h
theorem StkI.done {w wr w2 : World} {L : List Ld} {b r : Int} {v : Value} {k : Nat} (h : StkI w wr L b r v k) (hL : AllFine L) (hn : atL L b r k = none) (hb : Below wr.heap.size wr w2) : Lds w2 v (stkF L b r) ∧ Below w.heap.size w w2 := by
  obtain ⟨⟨ys, rfl, h1, h2⟩, h3⟩ := h
  rw [stkF_of L b r (allFine_mem hL) ys h1 hn]
  exact ⟨(Row.of_own h2).below hb, btw h3 hb⟩
theorem stk_app {w wr w2 : World} {L : List Ld} {b r : Int} {v v2 : Value} {k : Nat} {y : Ld} (h : StkI w wr L b r v k) (hy : atL L b r k = some y)
    (ho : ∀ ys : List Ld, wr.ownsRow w.heap.size 37 7 v k (ys.flatMap Ld.cells) → w2.ownsRow w.heap.size 37 7 v2 (k + 1) (ys.flatMap Ld.cells ++ (#[.int .i64 y.b, .int .i64 y.r, .int .i64 y.t, .string y.nm, .int .i64 y.wt, .int .i64 y.cl, .int .i64 y.pt] : Array Value).toList)) (hb : Below w.heap.size w w2) : StkI w w2 L b r v2 (k + 1) := by
  obtain ⟨⟨ys, rfl, h1, h2⟩, h3⟩ := h
  exact ⟨⟨ys ++ [y], by simp, h1.snoc hy, by rw [cells_flat]; exact ho ys h2⟩, hb⟩
def StkPost (w : World) (L : List Ld) (b r : Int) (e : Ending) (w' : World) : Prop := ∃ v, e = .returned v ∧ Lds w' v (stkF L b r) ∧ Below w.heap.size w w'

set_option maxRecDepth 100000 in
set_option maxHeartbeats 4000000 in
theorem stack_any (w : World) (bh bs bn : Nat) (s : Shp) (L : List Ld) (h : HoldIs w bh bs bn s L) (hL : AllFine L) (b r : Int) (hb : -1 ≤ b ∧ b ≤ 3) (hr : -1 ≤ r ∧ r ≤ 3) :
    Calls Tryd.prog 66 #[.pointer (some ⟨bh, 0, none⟩), .int .i64 b, .int .i64 r] w (StkPost w L b r) := by
  have H := Lib.hid h
  have HL := Lib.hid hL
  obtain ⟨i0, hi, hz0, hz1, hz2⟩ := info_parts infoLd
  clear h hL
  go_enter Tryd.func66, Tryd.ntmps66
  go_wp2
  go_loopw [7, 11] (fun v i wr => ∃ k : Nat, i = .int .i64 (k : Int) ∧ Hid (StkI w wr L b r v k)) (fun _ i _ => 32 - (intOf i).toNat)
  case atStart => exact ⟨0, rfl, Lib.hid ⟨⟨[], rfl, fun i y hy => by simp at hy, World.ownsRow_nil _ _ _ _⟩, Below.refl _ _⟩⟩
  case round =>
    obtain ⟨k, rfl, HI⟩ := hrel
    have hk := HI.out.le HL.out
    have c9 := (H.out.below HI.out.below).c9
    have hlk := (H.out.below HI.out.below).slot HL.out (b := b) (r := r) (t := (k : Int)) (by omega) (by omega) (by omega)
    unfold slotV at hlk
    obtain ⟨ot, hot⟩ : ∃ o, o = atL L b r k := ⟨_, rfl⟩
    rw [← hot] at hlk
    have HO := Lib.hid hot
    clear hot
    cases ot with
    | none =>
      unfold lookV zLd Ld.val at hlk
      dsimp only at hlk
      go_wp2
      go_ret
      obtain ⟨h1, h2⟩ := HI.out.done HL.out HO.out.symm (w2 := _) ((Below.refl _ _).alloc (Nat.le_refl _) _)
      exact ⟨_, rfl, h1, h2⟩
    | some y =>
      unfold lookV Ld.val at hlk
      dsimp only at hlk
      obtain ⟨⟨ys, hys, hp, hown⟩, hbl⟩ := HI.out
      have hA := (Below.refl w.heap.size wr)
      have HW := Lib.hid hown
      have HB := Lib.hid hbl
      have HP := Lib.hid (And.intro hys hp)
      have hle := hbl.size
      clear hown hbl hys hp HI hA
      go_wp2_with (at_builtin; refine wp_app (W := w) (B := w.heap.size) rfl (.tmp 28) (.tmp 30) 28 rfl w.heap.size 37 i0 _ 7 64 Tryd.underlying28 hi hz0 hz1 hz2 rfl (by decide) _ k _ rfl (HW.out.alloc _) (HB.out.alloc hle _) (Nat.le_refl _) (by simp; omega) #[.int .i64 y.b, .int .i64 y.r, .int .i64 y.t, .string y.nm, .int .i64 y.wt, .int .i64 y.cl, .int .i64 y.pt] _ (by first | rfl | (simp; done)) rfl rfl (ld_one y) (by unfold maxLen; omega) (by omega) ?_; intro v2 w2 hown2 hb2 _; have HI2 := Lib.hid (show StkI w w2 L b r v2 (k + 1) from ⟨⟨ys ++ [y], by simp [HP.out.1], HP.out.2.snoc (by rw [HP.out.1]; exact HO.out.symm), by rw [cells_flat]; exact hown2⟩, hb2⟩); clear hown2 hb2)
      go_roundw
      case rel => exact ⟨k + 1, by go_num, HI2⟩
      case measure => simp [intOf]; omega

/-- The state of Stack's loop. -/
structure WsI (w1 wr : World) : Prop where
  below : Below w1.heap.size w1 wr
theorem wsum_take {ys : List Ld} {k : Nat} {x : Ld} (h : ys[k]? = some x) : wsum (ys.take (k + 1)) = wsum (ys.take k) + x.wt := by
  obtain ⟨hk, e⟩ := List.getElem?_eq_some_iff.1 h
  rw [List.take_succ_eq_append_getElem hk, wsum_app, e, wsum_one]
set_option maxRecDepth 100000 in
set_option maxHeartbeats 4000000 in
theorem stackW_any (w : World) (bh bs bn : Nat) (s : Shp) (L : List Ld) (h : HoldIs w bh bs bn s L) (hL : AllFine L) (b r : Int) (hb : -1 ≤ b ∧ b ≤ 3) (hr : -1 ≤ r ∧ r ≤ 3) :
    Calls Tryd.prog 37 #[.pointer (some ⟨bh, 0, none⟩), .int .i64 b, .int .i64 r] w fun e w' => e = .returned (.int .i64 (wsum (stkF L b r))) ∧ Below w.heap.size w w' := by
  have HS := Lib.hid (stack_any w bh bs bn s L h hL b r hb hr)
  obtain ⟨ys, hys⟩ : ∃ ys, ys = stkF L b r := ⟨_, rfl⟩
  have hl : ys.length ≤ 3 := by rw [hys]; exact stkN_len _ _ _ _ _
  have hf : ∀ x ∈ ys, x.fine := by rw [hys]; exact fun x hx => (hL x (stkN_mem hx).1).1
  rw [← hys]
  have HY := Lib.hid hys
  have HF := Lib.hid hf
  clear hys hf h hL
  go_enter Tryd.func37, Tryd.ntmps37
  go_wp2_with fail
  refine HS.out.mono ?_
  rintro e w1 ⟨v, rfl, hv, hb1⟩
  rw [← HY.out] at hv
  have HB1 := Lib.hid hb1
  have HV := Lib.hid hv
  obtain ⟨ao, cap, rfl, hc1, hc2, _⟩ := hv.shape
  obtain ⟨n, hn⟩ : ∃ n, n = ys.length := ⟨_, rfl⟩
  rw [← hn] at hc1 hl HV ⊢
  have HN := Lib.hid hn
  unfold maxLen at hc2
  clear hb1 hv hn HS
  go_wp2
  go_loopw [7, 15] (fun t i wr => ∃ k : Nat, k ≤ n ∧ t = .int .i64 (wsum (ys.take k)) ∧ i = .int .i64 (k : Int) ∧ Hid (Below w1.heap.size w1 wr)) (fun _ i _ => n - (intOf i).toNat)
  case atStart => exact ⟨0, Nat.zero_le _, rfl, rfl, Lib.hid (Below.refl _ _)⟩
  case round =>
    obtain ⟨k, hk, rfl, rfl, HW⟩ := hrel
    by_cases hlt : k < n
    · have l1 : (k : Int) < (n : Int) := by omega
      have l0 : (0 : Int) ≤ (k : Int) := by omega
      obtain ⟨ab, aoff, rfl, hab, hat⟩ := HV.out.get HN.out (by omega)
      obtain ⟨x, hx⟩ : ∃ x, ys[k]? = some x := ⟨_, List.getElem?_eq_getElem (by rw [← HN.out]; exact hlt)⟩
      have hc := (hat k x hx).below HW.out
      obtain ⟨x0, x1, x2, x3, x4, x5, x6⟩ := hc
      have hs := wsum_bd (ys.take k) (fun y hy => HF.out y (List.mem_of_mem_take hy))
      have hlk : (ys.take k).length ≤ 3 := by simp; omega
      have hwt := (HF.out x (List.mem_of_getElem? hx)).wt
      have HT := Lib.hid (wsum_take hx)
      generalize wsum (ys.take k) = u at *
      clear hat hx
      go_wp2
      go_roundw
      case rel => exact ⟨k + 1, by omega, by rw [HT.out], by go_num, Lib.hid (btw HW.out ((Below.refl _ _).alloc (Nat.le_refl _) _))⟩
      case measure => simp [intOf]; omega
    · obtain rfl : k = n := by omega
      have HE := Lib.hid (show ys.take k = ys from List.take_of_length_le (by rw [← HN.out]; exact Nat.le_refl _))
      go_wp2
      go_ret
      exact ⟨by show Ending.returned (.int .i64 (wsum (ys.take k))) = _; rw [HE.out], btw HB1.out HW.out⟩
end Go.Proofs.YtllaahdbngjigaaDoor
