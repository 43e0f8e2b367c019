/-
  bay: apart.
-/
import Derived.Test.YtllaahdbngjigaaDoorApt
namespace Go.Proofs.YtllaahdbngjigaaDoor
open Go Go.RowKit
set_option linter.unusedVariables false
set_option linter.unusedSimpArgs false

def boxL (w : World) (x : Ld) : World := w.alloc (.cells #[.int .i64 x.b, .int .i64 x.r, .int .i64 x.t, .string x.nm, .int .i64 x.wt, .int .i64 x.cl, .int .i64 x.pt] 37)
theorem boxL_at (w : World) (x : Ld) : LdAt (boxL w x) w.heap.size x := LdAt.of_block (heap_alloc_new w _)
theorem boxL_below (w : World) (x : Ld) : Below w.heap.size w (boxL w x) := (Below.refl _ _).alloc (Nat.le_refl _) _
def offA : Value := .agg #[.int .i64 0, .int .i64 0, .int .i64 0, .int .i64 (-1), .int .i64 0, .int .i64 0, .int .i64 1, .int .i64 0, .int .i64 0, .int .i64 0, .int .i64 (-1), .int .i64 0, .int .i64 0, .int .i64 1, .int .i64 0]
theorem off_at (k : Nat) (hk : k < 5) : ∃ d1 d2 : Int, offs[k]? = some (d1, d2) ∧ (-1 ≤ d1 ∧ d1 ≤ 1) ∧ (-1 ≤ d2 ∧ d2 ≤ 1) ∧ ∀ w, (Instr.index 128 (.agg #[.int .i64 0, .int .i64 0, .int .i64 0, .int .i64 (-1), .int .i64 0, .int .i64 0, .int .i64 1, .int .i64 0, .int .i64 0, .int .i64 0, .int .i64 (-1), .int .i64 0, .int .i64 0, .int .i64 1, .int .i64 0]) (.int .i64 (k : Int))).run Tryd.prog w = .ok (.agg #[.int .i64 d1, .int .i64 d2, .int .i64 0]) w := by
  match k, hk with
  | 0, _ => exact ⟨0, 0, rfl, by decide, by decide, fun w => by kernel_rfl⟩
  | 1, _ => exact ⟨-1, 0, rfl, by decide, by decide, fun w => by kernel_rfl⟩
  | 2, _ => exact ⟨1, 0, rfl, by decide, by decide, fun w => by kernel_rfl⟩
  | 3, _ => exact ⟨0, -1, rfl, by decide, by decide, fun w => by kernel_rfl⟩
  | 4, _ => exact ⟨0, 1, rfl, by decide, by decide, fun w => by kernel_rfl⟩
/-- Nothing of the first k stacks lies apart. -/
def ApPre (L : List Ld) (x : Ld) (k : Nat) : Prop := ∀ j : Nat, j < k → ∀ d : Int × Int, offs[j]? = some d → ((stkF L (x.b + d.1) (x.r + d.2)).any fun y => apB x.cl y.cl) = false
theorem ApPre.snoc {L : List Ld} {x : Ld} {k : Nat} {d : Int × Int} (h : ApPre L x k) (hd : offs[k]? = some d) (h2 : ((stkF L (x.b + d.1) (x.r + d.2)).any fun y => apB x.cl y.cl) = false) : ApPre L x (k + 1) := by
  intro j hj d2 hd2
  by_cases e : j = k
  · subst e
    rw [hd] at hd2
    cases hd2
    exact h2
  · exact h j (by omega) d2 hd2
theorem ApPre.all {L : List Ld} {x : Ld} (h : ApPre L x 5) : apF L x = false := by
  unfold apF
  rw [List.any_eq_false]
  intro d hd
  obtain ⟨j, hj⟩ := List.mem_iff_getElem?.1 hd
  have hl : j < 5 := (List.getElem?_eq_some_iff.1 hj).1
  simpa using h j hl d hj
theorem ap_hit {L : List Ld} {x y : Ld} {k i : Nat} {d : Int × Int} (hd : offs[k]? = some d) (hy : (stkF L (x.b + d.1) (x.r + d.2))[i]? = some y) (h : apB x.cl y.cl = true) : apF L x = true := by
  unfold apF
  rw [List.any_eq_true]
  exact ⟨d, List.mem_of_getElem? hd, List.any_eq_true.2 ⟨y, List.mem_of_getElem? hy, h⟩⟩
def NoAp (ys : List Ld) (x : Ld) (m : Nat) : Prop := ∀ i : Nat, i < m → ∀ y, ys[i]? = some y → apB x.cl y.cl = false
theorem NoAp.snoc {ys : List Ld} {x y : Ld} {m : Nat} (h : NoAp ys x m) (hy : ys[m]? = some y) (h2 : apB x.cl y.cl = false) : NoAp ys x (m + 1) := by
  intro i hi z hz
  by_cases e : i = m
  · subst e; rw [hy] at hz; cases hz; exact h2
  · exact h i (by omega) z hz
theorem NoAp.all {ys : List Ld} {x : Ld} (h : NoAp ys x ys.length) : (ys.any fun y => apB x.cl y.cl) = false := by
  rw [List.any_eq_false]
  intro y hy
  obtain ⟨i, hi⟩ := List.mem_iff_getElem?.1 hy
  simpa using h i (List.getElem?_eq_some_iff.1 hi).1 y hi

set_option maxRecDepth 100000 in
set_option maxHeartbeats 4000000 in
theorem apart_ok (w : World) (bh bs bn : Nat) (s : Shp) (L : List Ld) (h : HoldIs w bh bs bn s L) (hL : AllFine L) (x : Ld) (hx : x.fine) (ha : Apt w) :
    Calls Tryd.prog 39 #[.pointer (some ⟨bh, 0, none⟩), .agg #[.int .i64 x.b, .int .i64 x.r, .int .i64 x.t, .string x.nm, .int .i64 x.wt, .int .i64 x.cl, .int .i64 x.pt]] w fun e w' => e = .returned (.bool (apF L x)) ∧ Below w.heap.size w w' := by
  have H := Lib.hid (h.below (boxL_below w x))
  have HA := Lib.hid (ha.below (boxL_below w x))
  have HL := Lib.hid hL
  have mb := hx.b
  have mr := hx.r
  have HC := Lib.hid hx.cl
  clear h ha hL hx
  go_enter Tryd.func39, Tryd.ntmps39
  go_wp2
  go_loopw [15] (fun i wr => ∃ k : Nat, k ≤ 5 ∧ i = .int .i64 (k : Int) ∧ Hid (Below (boxL w x).heap.size (boxL w x) wr ∧ ApPre L x k)) (fun i _ => 5 - (intOf i).toNat)
  case atStart => exact ⟨0, by omega, rfl, Lib.hid ⟨Below.refl _ _, fun j hj => by omega⟩⟩
  case round =>
    obtain ⟨k, hk, rfl, HW⟩ := hrel
    by_cases hlt : k < 5
    · have l1 : (k : Int) < 5 := by omega
      obtain ⟨d1, d2, hd, b1, b2, hix⟩ := off_at k hlt
      have HD := Lib.hid hd
      obtain ⟨x0, x1, x2, x3, x4, x5, x6⟩ := (boxL_at w x).below HW.out.1
      have HS := Lib.hid (fun wx (hx : Below wr.heap.size wr wx) => stack_any wx bh bs bn s L ((H.out.below HW.out.1).below hx) HL.out (x.b + d1) (x.r + d2) (by omega) (by omega))
      have hix2 := hix wr
      have q0 := cell_alloc x0 (.cells #[.int .i64 d1, .int .i64 d2, .int .i64 0] 35)
      have q1 := cell_alloc x1 (.cells #[.int .i64 d1, .int .i64 d2, .int .i64 0] 35)
      clear hix hd x0 x1 x2 x3 x4 x5 x6
      go_wp2_with fail
      refine (HS.out _ ((Below.refl _ _).alloc (Nat.le_refl _) _)).mono ?_
      rintro e w1 ⟨v, rfl, hv, hb1⟩
      have HB1 := Lib.hid (btw HW.out.1 (btw ((Below.refl wr.heap.size wr).alloc (Nat.le_refl _) _) hb1))
      obtain ⟨ys, hys⟩ : ∃ ys, ys = stkF L (x.b + d1) (x.r + d2) := ⟨_, rfl⟩
      rw [← hys] at hv
      have HV := Lib.hid hv
      have HY := Lib.hid hys
      have hl : ys.length ≤ 3 := by rw [hys]; exact stkN_len _ _ _ _ _
      have HF := Lib.hid (show ∀ y ∈ ys, y.fine by rw [hys]; exact fun y hy => (HL.out y (stkN_mem hy).1).1)
      obtain ⟨ao, cap, rfl, hc1, hc2, _⟩ := hv.shape
      obtain ⟨n, hn⟩ : ∃ n, n = ys.length := ⟨_, rfl⟩
      rw [← hn] at hc1 hl HV ⊢
      have HN := Lib.hid hn
      unfold maxLen at hc2
      clear hb1 hv hn hys HS q0 q1 hix2
      go_wp2
      go_loopw [33] (fun i wr => ∃ m : Nat, m ≤ n ∧ i = .int .i64 (m : Int) ∧ Hid (Below w1.heap.size w1 wr ∧ NoAp ys x m)) (fun i _ => n - (intOf i).toNat)
      case atStart => exact ⟨0, by omega, rfl, Lib.hid ⟨Below.refl _ _, fun j hj => by omega⟩⟩
      case round =>
        obtain ⟨m, hm, rfl, HU⟩ := hrel
        have HB2 := Lib.hid (HB1.out.trans (HU.out.1.mono HB1.out.size))
        by_cases hlt2 : m < n
        · have l2 : (m : Int) < (n : Int) := by omega
          have l0 : (0 : Int) ≤ (m : Int) := by omega
          obtain ⟨ab, aoff, rfl, hab, hat⟩ := HV.out.get HN.out (by omega)
          obtain ⟨y, hy⟩ : ∃ y, ys[m]? = some y := ⟨_, List.getElem?_eq_getElem (by rw [← HN.out]; exact hlt2)⟩
          obtain ⟨y0, y1, y2, y3, y4, y5, y6⟩ := (hat m y hy).below HU.out.1
          have z5 := cell_alloc ((boxL_at w x).below HB2.out).c5 (.cells #[.int .i64 y.b, .int .i64 y.r, .int .i64 y.t, .string y.nm, .int .i64 y.wt, .int .i64 y.cl, .int .i64 y.pt] 37)
          have hcy := (HF.out y (List.mem_of_getElem? hy)).cl
          have HAp := Lib.hid (fun wx (hx : Below wr.heap.size wr wx) => by
            have q := apart_any x.cl.toNat y.cl.toNat (by have := HC.out; omega) (by omega) wx ((HA.out.below HB2.out).below hx)
            rw [show ((x.cl.toNat : Nat) : Int) = x.cl by have := HC.out; omega, show ((y.cl.toNat : Nat) : Int) = y.cl by omega] at q
            exact q)
          have HYm := Lib.hid hy
          obtain ⟨r, hr⟩ : ∃ r, r = apB x.cl y.cl := ⟨_, rfl⟩
          rw [← hr] at HAp
          have HR := Lib.hid hr
          clear hat hy hr hcy
          go_wp2_with fail
          refine (HAp.out _ ((Below.refl _ _).alloc (Nat.le_refl _) _)).mono ?_
          rintro e w2 ⟨rfl, rfl⟩
          cases r with
          | true =>
            have HE := Lib.hid (ap_hit (L := L) (x := x) HD.out (by rw [← HY.out]; exact HYm.out) HR.out.symm)
            go_wp2
            go_ret
            exact ⟨by rw [HE.out]; rfl, btw (btw (boxL_below w x) HB2.out) ((Below.refl _ _).alloc (Nat.le_refl _) _)⟩
          | false =>
            have HE := Lib.hid (HU.out.2.snoc HYm.out HR.out.symm)
            have HB3 := Lib.hid (btw HU.out.1 ((Below.refl wr.heap.size wr).alloc (Nat.le_refl _) (.cells #[.int .i64 y.b, .int .i64 y.r, .int .i64 y.t, .string y.nm, .int .i64 y.wt, .int .i64 y.cl, .int .i64 y.pt] 37)))
            go_wp2
            go_roundw
            case rel => exact ⟨m + 1, by omega, by go_num, Lib.hid ⟨HB3.out, HE.out⟩⟩
            case measure => simp [intOf]; omega
        · obtain rfl : m = n := by omega
          have HE := Lib.hid (HW.out.2.snoc HD.out (by
            have q := HU.out.2
            rw [HN.out] at q
            rw [← HY.out]; exact q.all))
          go_wp2
          go_roundw
          case rel => exact ⟨k + 1, by omega, by go_num, Lib.hid ⟨HB2.out, HE.out⟩⟩
          case measure => simp [intOf]; omega
    · obtain rfl : k = 5 := by omega
      have HE := Lib.hid HW.out.2.all
      go_wp2
      go_ret
      exact ⟨by rw [HE.out]; rfl, btw (boxL_below w x) HW.out.1⟩
end Go.Proofs.YtllaahdbngjigaaDoor
