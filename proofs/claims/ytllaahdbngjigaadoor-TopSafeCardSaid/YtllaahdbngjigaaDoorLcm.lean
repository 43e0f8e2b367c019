/-
  cmp.Compare, cmp.Or; the two orders of loads.
-/
import Derived.Test.YtllaahdbngjigaaDoorHold
import Derived.Sort.Grow
import Derived.Sort.Statements
import Derived.StillTailTactics
import Derived.Shelf.SlSortCmp.QuietGrown
import Derived.Shelf.SlSortCmp.WholeK
namespace Go.Proofs.YtllaahdbngjigaaDoor
open Go Go.RowKit Go.Sort
set_option linter.unusedVariables false
set_option linter.unusedSimpArgs false

def cmI (x y : Int) : Int := if x < y then -1 else if y < x then 1 else 0
theorem nanI_any (x : Int) (w : World) : Calls Tryd.prog 74 #[.int .i64 x] w fun e w' => e = .returned (.bool false) ∧ w = w' := by
  go_enter Tryd.func74, Tryd.ntmps74
  go_wp2
  go_ret
  exact ⟨rfl, rfl⟩
theorem cmpI_any (x y : Int) (w : World) : Calls Tryd.prog 47 #[.int .i64 x, .int .i64 y] w fun e w' => e = .returned (.int .i64 (cmI x y)) ∧ w = w' := by
  have HN := Lib.hid (fun x w => nanI_any x w)
  unfold cmI
  by_cases h1 : x < y
  · rw [if_pos h1]
    go_enter Tryd.func47, Tryd.ntmps47
    go_wp2_with (go_at_call 74; refine (HN.out _ _).mono ?_; rintro e w1 ⟨rfl, rfl⟩)
    go_ret
    exact ⟨rfl, rfl⟩
  · rw [if_neg h1]
    by_cases h2 : y < x
    · rw [if_pos h2]
      go_enter Tryd.func47, Tryd.ntmps47
      go_wp2_with (go_at_call 74; refine (HN.out _ _).mono ?_; rintro e w1 ⟨rfl, rfl⟩)
      go_ret
      exact ⟨rfl, rfl⟩
    · rw [if_neg h2]
      go_enter Tryd.func47, Tryd.ntmps47
      go_wp2_with (go_at_call 74; refine (HN.out _ _).mono ?_; rintro e w1 ⟨rfl, rfl⟩)
      go_ret
      exact ⟨rfl, rfl⟩
theorem bl_eq : ∀ (x y : List UInt8), Op.bytesLess x y = decide (x < y)
  | [], [] => by simp [Op.bytesLess]
  | _ :: _, [] => by simp [Op.bytesLess]
  | [], _ :: _ => by simp [Op.bytesLess]
  | a :: x, b :: y => by
    rw [Op.bytesLess, bl_eq x y]
    simp only [List.cons_lt_cons_iff]
    by_cases h1 : a < b <;> by_cases h2 : a = b <;> by_cases h3 : x < y <;> simp [h1, h2, h3]
theorem bl_tri {x y : List UInt8} (h : ¬ x < y) (k : ¬ y < x) : x = y := List.le_antisymm k h
def cmL (x y : List UInt8) : Int := if Op.bytesLess x y = true then -1 else if (x == y) = true then 0 else 1
theorem nanS_any (x : ByteArray) (w : World) : Calls Tryd.prog 110 #[.string x] w fun e w' => e = .returned (.bool false) ∧ w = w' := by
  go_enter Tryd.func110, Tryd.ntmps110
  go_wp2
  go_ret
  exact ⟨rfl, rfl⟩
theorem cmpS_any (x y : ByteArray) (w : World) : Calls Tryd.prog 94 #[.string x, .string y] w fun e w' => e = .returned (.int .i64 (cmL x.toList y.toList)) ∧ w = w' := by
  have HN := Lib.hid (fun x w => nanS_any x w)
  unfold cmL
  cases h1 : Op.bytesLess x.toList y.toList with
  | true =>
    go_enter Tryd.func94, Tryd.ntmps94
    go_wp2_with (go_at_call 110; refine (HN.out _ _).mono ?_; rintro e w1 ⟨rfl, rfl⟩)
    go_ret
    exact ⟨rfl, rfl⟩
  | false =>
    cases h2 : (x.toList == y.toList) with
    | true =>
      go_enter Tryd.func94, Tryd.ntmps94
      go_wp2_with (go_at_call 110; refine (HN.out _ _).mono ?_; rintro e w1 ⟨rfl, rfl⟩)
      go_ret
      exact ⟨rfl, rfl⟩
    | false =>
      go_enter Tryd.func94, Tryd.ntmps94
      go_wp2_with (go_at_call 110; refine (HN.out _ _).mono ?_; rintro e w1 ⟨rfl, rfl⟩)
      go_ret
      exact ⟨rfl, rfl⟩

/-- A comparison that is an order. -/
structure CmOk {α : Type} (f : α → α → Int) : Prop where
  anti : ∀ x y, f y x = - f x y
  tr : ∀ x y z, f x y ≤ 0 → f y z ≤ 0 → f x z ≤ 0
def cm2 {α : Type} (f g : α → α → Int) (x y : α) : Int := if f x y ≠ 0 then f x y else g x y
theorem CmOk.two {α : Type} {f g : α → α → Int} (hf : CmOk f) (hg : CmOk g) : CmOk (cm2 f g) where
  anti x y := by
    have := hf.anti x y
    have := hg.anti x y
    unfold cm2
    by_cases h : f x y = 0
    · rw [if_neg (by omega), if_neg (by omega)]; omega
    · rw [if_pos (by omega), if_pos (by omega)]; omega
  tr x y z := by
    unfold cm2
    intro h1 h2
    have a1 := hf.anti x y
    have a2 := hf.anti y z
    have a3 := hf.anti x z
    have b1 : f x y ≤ 0 := by
      by_cases h : f x y = 0
      · omega
      · rw [if_pos h] at h1; exact h1
    have b2 : f y z ≤ 0 := by
      by_cases h : f y z = 0
      · omega
      · rw [if_pos h] at h2; exact h2
    have b3 := hf.tr x y z b1 b2
    by_cases h : f x z = 0
    · rw [if_neg (by omega)]
      have c1 := hf.tr z x y (by omega) b1
      have c2 := hf.tr y z x b2 (by omega)
      rw [if_neg (by omega)] at h1 h2
      exact hg.tr x y z h1 h2
    · rw [if_pos h]; exact b3
theorem CmOk.on {α β : Type} {f : β → β → Int} (hf : CmOk f) (k : α → β) : CmOk (fun x y => f (k x) (k y)) := ⟨fun x y => hf.anti _ _, fun x y z => hf.tr _ _ _⟩
theorem cmI_ok : CmOk cmI where
  anti x y := by unfold cmI; split <;> split <;> omega
  tr x y z := by
    unfold cmI
    intro h1 h2
    by_cases a : x < y <;> by_cases b : y < x <;> by_cases c : y < z <;> by_cases d : z < y <;> by_cases e : x < z <;> by_cases g : z < x <;> simp [a, b, c, d, e, g] at h1 h2 ⊢ <;> omega
theorem cmL_ok : CmOk cmL where
  anti x y := by
    unfold cmL
    simp only [bl_eq, decide_eq_true_eq, beq_iff_eq]
    by_cases a : x < y
    · have b : ¬ y < x := fun b => List.lt_irrefl x (List.lt_trans a b)
      have c : ¬ y = x := fun c => by subst c; exact List.lt_irrefl _ a
      simp [a, b, c]
    · by_cases b : y < x
      · have c : ¬ x = y := fun c => by subst c; exact List.lt_irrefl _ b
        simp [a, b, c]
      · have c := bl_tri a b
        subst c
        simp [List.lt_irrefl]
  tr x y z := by
    unfold cmL
    simp only [bl_eq, decide_eq_true_eq, beq_iff_eq]
    intro h1 h2
    by_cases a : x < y
    · by_cases b : y < z
      · simp [List.lt_trans a b]
      · by_cases c : y = z
        · subst c; simp [a]
        · simp [b, c] at h2
    · by_cases c : x = y
      · subst c; exact h2
      · simp [a, c] at h1
theorem CmOk.swo {α : Type} {f : α → α → Int} (h : CmOk f) : SWO (ltOf f) where
  irrefl x := by
    have := h.anti x x
    unfold ltOf
    simp; omega
  trans x y z h1 h2 := by
    unfold ltOf at *
    simp at *
    have a1 := h.anti x y
    have a2 := h.anti y z
    have a3 := h.anti x z
    have := h.tr x y z (by omega) (by omega)
    by_cases e : f x z = 0
    · have := h.tr z x y (by omega) (by omega)
      omega
    · omega
  ntrans x y z h1 h2 := by
    unfold ltOf at *
    simp at *
    have a1 := h.anti x y
    have a2 := h.anti y z
    have a3 := h.anti x z
    have := h.tr z y x (by omega) (by omega)
    omega

/-- By bay, row and tier. -/
def cmA : Ld → Ld → Int := cm2 (fun x y => cmI x.b y.b) (cm2 (fun x y => cmI x.r y.r) (fun x y => cmI x.t y.t))
/-- By tier, bay, row and box. -/
def cmB : Ld → Ld → Int := cm2 (fun x y => cmI x.t y.t) (cm2 (fun x y => cmI x.b y.b) (cm2 (fun x y => cmI x.r y.r) (fun x y => cmL x.nm.toList y.nm.toList)))
theorem cmA_ok : CmOk cmA := (cmI_ok.on _).two ((cmI_ok.on _).two (cmI_ok.on _))
theorem cmB_ok : CmOk cmB := (cmI_ok.on _).two ((cmI_ok.on _).two ((cmI_ok.on _).two (cmL_ok.on _)))

def orF : List Int → Int
  | [] => 0
  | z :: l => if z ≠ 0 then z else orF l
theorem orF_hit : ∀ (l : List Int) (k : Nat) (z : Int), (∀ j, j < k → l[j]? = some 0) → l[k]? = some z → z ≠ 0 → orF l = z
  | [], k, z, _, h, _ => by simp at h
  | a :: l, 0, z, _, h, hz => by simp at h; subst h; simp [orF, hz]
  | a :: l, k + 1, z, h0, h, hz => by
    have e : a = 0 := by simpa using h0 0 (by omega)
    subst e
    simp only [orF]
    exact orF_hit l k z (fun j hj => by simpa using h0 (j + 1) (by omega)) (by simpa using h) hz
theorem orF_none : ∀ (l : List Int), (∀ j, j < l.length → l[j]? = some 0) → orF l = 0
  | [], _ => rfl
  | a :: l, h => by
    have e : a = 0 := by simpa using h 0 (by simp)
    subst e
    simp only [orF]
    exact orF_none l (fun j hj => by simpa using h (j + 1) (by simpa using hj))
set_option maxHeartbeats 2000000 in
theorem or_any (w : World) (b n : Nat) (zs : List Int) (h : Ints w (.slice (some ⟨b, 0, none⟩) n n) zs) (hn : n = zs.length) (h0 : 0 < n) (h4 : n ≤ 100) :
    Calls Tryd.prog 46 #[.slice (some ⟨b, 0, none⟩) n n] w fun e w' => e = .returned (.int .i64 (orF zs)) ∧ w = w' := by
  obtain ⟨b', off, cap, e, _, _, _, hat⟩ := h.at (by omega)
  injection e with e1 e2 e3
  injection e1 with e1
  injection e1 with e1 e4
  subst e1 e4
  have HAt := Lib.hid hat
  have HN := Lib.hid hn
  clear hat hn h e2 e3
  go_enter Tryd.func46, Tryd.ntmps46
  go_wp2
  go_loopw [8] (fun i wr => ∃ k : Nat, k ≤ n ∧ i = .int .i64 (k : Int) ∧ Hid (wr = w ∧ ∀ j, j < k → zs[j]? = some 0)) (fun i _ => n - (intOf i).toNat)
  case atStart => exact ⟨0, Nat.zero_le _, rfl, Lib.hid ⟨rfl, fun j hj => by omega⟩⟩
  case round =>
    obtain ⟨k, hk, rfl, HW⟩ := hrel
    by_cases hlt : k < n
    · have l1 : (k : Int) < (n : Int) := by omega
      have l0 : (0 : Int) ≤ (k : Int) := by omega
      have hkz : k < zs.length := by rw [← HN.out]; exact hlt
      have c0 := HAt.out k hkz
      rw [← HW.out.1, Nat.zero_add] at c0
      have HZ := Lib.hid (List.getElem?_eq_getElem hkz)
      generalize zs[k] = z at *
      by_cases e : z = 0
      · subst e
        have HW2 := Lib.hid (And.intro HW.out.1 (show ∀ j, j < k + 1 → zs[j]? = some 0 from fun j hj => by
          by_cases e : j = k
          · subst e; exact HZ.out
          · exact HW.out.2 j (by omega)))
        go_wp2
        go_roundw
        case rel => exact ⟨k + 1, by omega, by go_num, HW2⟩
        case measure => simp [intOf]; omega
      · have d0 : (z == 0) = false := by simp [e]
        have HE := Lib.hid (orF_hit zs k z HW.out.2 HZ.out e)
        clear e
        go_wp2
        go_ret
        exact ⟨by rw [HE.out]; rfl, HW.out.1.symm⟩
    · obtain rfl : k = n := by omega
      have HE := Lib.hid (orF_none zs (fun j hj => HW.out.2 j (by rw [HN.out]; exact hj)))
      go_wp2
      go_ret
      exact ⟨by rw [HE.out]; rfl, HW.out.1.symm⟩
end Go.Proofs.YtllaahdbngjigaaDoor
