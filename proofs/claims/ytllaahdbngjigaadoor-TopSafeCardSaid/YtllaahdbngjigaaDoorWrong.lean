/-
  share.wrong: what of a total and its weights is wrong.
-/
import Derived.Test.YtllaahdbngjigaaDoorRows
import Derived.Test.YtllaahdbngjigaaDoorKit
namespace Go.Proofs.YtllaahdbngjigaaDoor
open Go Go.RowKit
set_option linter.unusedVariables false
set_option linter.unusedSimpArgs false

theorem any_take {p : Int → Bool} {ws : List Int} {k : Nat} (hk : k < ws.length) (h : (ws.take k).any p = false) (hp : p ws[k] = false) : (ws.take (k + 1)).any p = false := by
  rw [List.take_succ_eq_append_getElem hk, List.any_append, h]
  simp [hp]

def is_neg (z : Int) : Bool := decide (z < 0)
theorem neg_any (z : Int) (w : World) : Calls Tryd.prog 85 #[.int .i64 z] w fun e w' => e = .returned (.bool (is_neg z)) ∧ w' = w := by
  unfold is_neg
  go_enter Tryd.func85, Tryd.ntmps85
  go_wp2
  go_ret
  exact ⟨rfl, rfl⟩
set_option maxHeartbeats 1000000 in
theorem idx_neg (v : Value) (ws : List Int) (w : World) (h : Ints w v ws) :
    Calls Tryd.prog 105 #[v, .func (.func 85) #[] #[]] w fun e w' => (∃ r : Int, e = .returned (.int .i64 r) ∧ decide (0 ≤ r) = ws.any is_neg) ∧ w' = w := by
  obtain ⟨ao, cap, e, k1, k2, k3⟩ := h.shape
  obtain ⟨n, HN⟩ : ∃ n, Hid (n = ws.length) := ⟨_, rfl⟩
  rw [← HN.out] at e k1
  unfold maxLen at k2
  have H := Lib.hid h
  have HP := Lib.hid neg_any
  clear h
  subst e
  go_enter Tryd.func105, Tryd.ntmps105
  go_wp2
  go_loop [8] (fun i => ∃ k : Nat, k ≤ n ∧ i = .int .i64 (k : Int) ∧ Hid ((ws.take k).any is_neg = false)) (fun i => n - (intOf i).toNat)
  case atStart => exact ⟨0, Nat.zero_le _, rfl, Lib.hid (by simp)⟩
  case round =>
    obtain ⟨k, hk, rfl, ha⟩ := hrel
    by_cases hlt : k < n
    · obtain ⟨b, off, cap', e, _, _, hb, hc⟩ := H.out.at (by rw [← HN.out]; omega)
      have c1 := hc k (by rw [← HN.out]; exact hlt)
      rw [← HN.out] at e
      cases e
      have HT := Lib.hid (fun (hp : is_neg (ws[k]'(by rw [← HN.out]; exact hlt)) = false) => any_take (by rw [← HN.out]; exact hlt) ha.out hp)
      have HU := Lib.hid (fun (hp : is_neg (ws[k]'(by rw [← HN.out]; exact hlt)) = true) => show ws.any is_neg = true from List.any_eq_true.2 ⟨_, List.getElem_mem _, hp⟩)
      generalize (ws[k]'(by rw [← HN.out]; exact hlt)) = z at *
      clear hc
      cases hz : is_neg z with
      | true =>
        have HC := Lib.hid (fun w => show Calls Tryd.prog 85 #[.int .i64 z] w fun e w' => e = .returned (.bool true) ∧ w' = w by have := HP.out z w; rwa [hz] at this)
        have HR := Lib.hid (HU.out hz)
        clear hz HT HU
        go_wp2_with (go_at_call 85; refine (HC.out _).mono ?_; rintro e w' ⟨rfl, rfl⟩)
        go_ret
        exact ⟨⟨_, rfl, by rw [HR.out]; simp⟩, rfl⟩
      | false =>
        have HC := Lib.hid (fun w => show Calls Tryd.prog 85 #[.int .i64 z] w fun e w' => e = .returned (.bool false) ∧ w' = w by have := HP.out z w; rwa [hz] at this)
        have HR := Lib.hid (HT.out hz)
        clear hz HT HU
        go_wp2_with (go_at_call 85; refine (HC.out _).mono ?_; rintro e w' ⟨rfl, rfl⟩)
        go_round
        case rel => exact ⟨k + 1, by omega, by go_num, Lib.hid HR.out⟩
        case measure => simp [intOf]; omega
    · have HR := Lib.hid (show ws.any is_neg = false by have := ha.out; rwa [List.take_of_length_le (by rw [← HN.out]; omega)] at this)
      go_wp2
      go_ret
      exact ⟨⟨_, rfl, by rw [HR.out]; rfl⟩, rfl⟩
theorem has_neg (v : Value) (ws : List Int) (w : World) (h : Ints w v ws) (x : Bool) (hx : x = ws.any is_neg) :
    Calls Tryd.prog 84 #[v, .func (.func 85) #[] #[]] w fun e w' => e = .returned (.bool x) ∧ w' = w := by
  have HC := Lib.hid (idx_neg v ws w h)
  rw [← hx] at HC
  clear h hx
  go_enter Tryd.func84, Tryd.ntmps84
  go_wp2_with fail
  refine HC.out.mono ?_
  rintro e w1 ⟨⟨r, rfl, hr⟩, rfl⟩
  go_wp2
  go_ret
  exact ⟨rfl, rfl⟩

def is_over (z : Int) : Bool := decide (1099511627776 < z)
theorem over_any (z : Int) (w : World) : Calls Tryd.prog 86 #[.int .i64 z] w fun e w' => e = .returned (.bool (is_over z)) ∧ w' = w := by
  unfold is_over
  go_enter Tryd.func86, Tryd.ntmps86
  go_wp2
  go_ret
  exact ⟨rfl, rfl⟩
set_option maxHeartbeats 1000000 in
theorem idx_over (v : Value) (ws : List Int) (w : World) (h : Ints w v ws) :
    Calls Tryd.prog 105 #[v, .func (.func 86) #[] #[]] w fun e w' => (∃ r : Int, e = .returned (.int .i64 r) ∧ decide (0 ≤ r) = ws.any is_over) ∧ w' = w := by
  obtain ⟨ao, cap, e, k1, k2, k3⟩ := h.shape
  obtain ⟨n, HN⟩ : ∃ n, Hid (n = ws.length) := ⟨_, rfl⟩
  rw [← HN.out] at e k1
  unfold maxLen at k2
  have H := Lib.hid h
  have HP := Lib.hid over_any
  clear h
  subst e
  go_enter Tryd.func105, Tryd.ntmps105
  go_wp2
  go_loop [8] (fun i => ∃ k : Nat, k ≤ n ∧ i = .int .i64 (k : Int) ∧ Hid ((ws.take k).any is_over = false)) (fun i => n - (intOf i).toNat)
  case atStart => exact ⟨0, Nat.zero_le _, rfl, Lib.hid (by simp)⟩
  case round =>
    obtain ⟨k, hk, rfl, ha⟩ := hrel
    by_cases hlt : k < n
    · obtain ⟨b, off, cap', e, _, _, hb, hc⟩ := H.out.at (by rw [← HN.out]; omega)
      have c1 := hc k (by rw [← HN.out]; exact hlt)
      rw [← HN.out] at e
      cases e
      have HT := Lib.hid (fun (hp : is_over (ws[k]'(by rw [← HN.out]; exact hlt)) = false) => any_take (by rw [← HN.out]; exact hlt) ha.out hp)
      have HU := Lib.hid (fun (hp : is_over (ws[k]'(by rw [← HN.out]; exact hlt)) = true) => show ws.any is_over = true from List.any_eq_true.2 ⟨_, List.getElem_mem _, hp⟩)
      generalize (ws[k]'(by rw [← HN.out]; exact hlt)) = z at *
      clear hc
      cases hz : is_over z with
      | true =>
        have HC := Lib.hid (fun w => show Calls Tryd.prog 86 #[.int .i64 z] w fun e w' => e = .returned (.bool true) ∧ w' = w by have := HP.out z w; rwa [hz] at this)
        have HR := Lib.hid (HU.out hz)
        clear hz HT HU
        go_wp2_with (go_at_call 86; refine (HC.out _).mono ?_; rintro e w' ⟨rfl, rfl⟩)
        go_ret
        exact ⟨⟨_, rfl, by rw [HR.out]; simp⟩, rfl⟩
      | false =>
        have HC := Lib.hid (fun w => show Calls Tryd.prog 86 #[.int .i64 z] w fun e w' => e = .returned (.bool false) ∧ w' = w by have := HP.out z w; rwa [hz] at this)
        have HR := Lib.hid (HT.out hz)
        clear hz HT HU
        go_wp2_with (go_at_call 86; refine (HC.out _).mono ?_; rintro e w' ⟨rfl, rfl⟩)
        go_round
        case rel => exact ⟨k + 1, by omega, by go_num, Lib.hid HR.out⟩
        case measure => simp [intOf]; omega
    · have HR := Lib.hid (show ws.any is_over = false by have := ha.out; rwa [List.take_of_length_le (by rw [← HN.out]; omega)] at this)
      go_wp2
      go_ret
      exact ⟨⟨_, rfl, by rw [HR.out]; rfl⟩, rfl⟩
theorem has_over (v : Value) (ws : List Int) (w : World) (h : Ints w v ws) (x : Bool) (hx : x = ws.any is_over) :
    Calls Tryd.prog 84 #[v, .func (.func 86) #[] #[]] w fun e w' => e = .returned (.bool x) ∧ w' = w := by
  have HC := Lib.hid (idx_over v ws w h)
  rw [← hx] at HC
  clear h hx
  go_enter Tryd.func84, Tryd.ntmps84
  go_wp2_with fail
  refine HC.out.mono ?_
  rintro e w1 ⟨⟨r, rfl, hr⟩, rfl⟩
  go_wp2
  go_ret
  exact ⟨rfl, rfl⟩

def is_pos (z : Int) : Bool := decide (0 < z)
theorem pos_any (z : Int) (w : World) : Calls Tryd.prog 87 #[.int .i64 z] w fun e w' => e = .returned (.bool (is_pos z)) ∧ w' = w := by
  unfold is_pos
  go_enter Tryd.func87, Tryd.ntmps87
  go_wp2
  go_ret
  exact ⟨rfl, rfl⟩
set_option maxHeartbeats 1000000 in
theorem idx_pos (v : Value) (ws : List Int) (w : World) (h : Ints w v ws) :
    Calls Tryd.prog 105 #[v, .func (.func 87) #[] #[]] w fun e w' => (∃ r : Int, e = .returned (.int .i64 r) ∧ decide (0 ≤ r) = ws.any is_pos) ∧ w' = w := by
  obtain ⟨ao, cap, e, k1, k2, k3⟩ := h.shape
  obtain ⟨n, HN⟩ : ∃ n, Hid (n = ws.length) := ⟨_, rfl⟩
  rw [← HN.out] at e k1
  unfold maxLen at k2
  have H := Lib.hid h
  have HP := Lib.hid pos_any
  clear h
  subst e
  go_enter Tryd.func105, Tryd.ntmps105
  go_wp2
  go_loop [8] (fun i => ∃ k : Nat, k ≤ n ∧ i = .int .i64 (k : Int) ∧ Hid ((ws.take k).any is_pos = false)) (fun i => n - (intOf i).toNat)
  case atStart => exact ⟨0, Nat.zero_le _, rfl, Lib.hid (by simp)⟩
  case round =>
    obtain ⟨k, hk, rfl, ha⟩ := hrel
    by_cases hlt : k < n
    · obtain ⟨b, off, cap', e, _, _, hb, hc⟩ := H.out.at (by rw [← HN.out]; omega)
      have c1 := hc k (by rw [← HN.out]; exact hlt)
      rw [← HN.out] at e
      cases e
      have HT := Lib.hid (fun (hp : is_pos (ws[k]'(by rw [← HN.out]; exact hlt)) = false) => any_take (by rw [← HN.out]; exact hlt) ha.out hp)
      have HU := Lib.hid (fun (hp : is_pos (ws[k]'(by rw [← HN.out]; exact hlt)) = true) => show ws.any is_pos = true from List.any_eq_true.2 ⟨_, List.getElem_mem _, hp⟩)
      generalize (ws[k]'(by rw [← HN.out]; exact hlt)) = z at *
      clear hc
      cases hz : is_pos z with
      | true =>
        have HC := Lib.hid (fun w => show Calls Tryd.prog 87 #[.int .i64 z] w fun e w' => e = .returned (.bool true) ∧ w' = w by have := HP.out z w; rwa [hz] at this)
        have HR := Lib.hid (HU.out hz)
        clear hz HT HU
        go_wp2_with (go_at_call 87; refine (HC.out _).mono ?_; rintro e w' ⟨rfl, rfl⟩)
        go_ret
        exact ⟨⟨_, rfl, by rw [HR.out]; simp⟩, rfl⟩
      | false =>
        have HC := Lib.hid (fun w => show Calls Tryd.prog 87 #[.int .i64 z] w fun e w' => e = .returned (.bool false) ∧ w' = w by have := HP.out z w; rwa [hz] at this)
        have HR := Lib.hid (HT.out hz)
        clear hz HT HU
        go_wp2_with (go_at_call 87; refine (HC.out _).mono ?_; rintro e w' ⟨rfl, rfl⟩)
        go_round
        case rel => exact ⟨k + 1, by omega, by go_num, Lib.hid HR.out⟩
        case measure => simp [intOf]; omega
    · have HR := Lib.hid (show ws.any is_pos = false by have := ha.out; rwa [List.take_of_length_le (by rw [← HN.out]; omega)] at this)
      go_wp2
      go_ret
      exact ⟨⟨_, rfl, by rw [HR.out]; rfl⟩, rfl⟩
theorem has_pos (v : Value) (ws : List Int) (w : World) (h : Ints w v ws) (x : Bool) (hx : x = ws.any is_pos) :
    Calls Tryd.prog 84 #[v, .func (.func 87) #[] #[]] w fun e w' => e = .returned (.bool x) ∧ w' = w := by
  have HC := Lib.hid (idx_pos v ws w h)
  rw [← hx] at HC
  clear h hx
  go_enter Tryd.func84, Tryd.ntmps84
  go_wp2_with fail
  refine HC.out.mono ?_
  rintro e w1 ⟨⟨r, rfl, hr⟩, rfl⟩
  go_wp2
  go_ret
  exact ⟨rfl, rfl⟩

/-- What is wrong, by number. -/
def wrongN (T : Int) (ws : List Int) : Int :=
  if T < 0 ∨ ws = [] ∨ ws.any is_neg = true then 1 else if 1099511627776 < T ∨ 4096 < ws.length ∨ ws.any is_over = true then 3 else if 0 < T ∧ ws.any is_pos = false then 4 else 0

set_option maxHeartbeats 4000000 in
theorem wrong_any (T : Int) (v : Value) (ws : List Int) (w : World) (h : Ints w v ws) :
    Calls Tryd.prog 58 #[.int .i64 T, v] w fun e w' => e = .returned (.int .i64 (wrongN T ws)) ∧ w' = w := by
  obtain ⟨ao, cap, e, k1, k2, k3⟩ := h.shape
  have HNEG := Lib.hid (fun x hx => has_neg v ws w h x hx)
  have HOVER := Lib.hid (fun x hx => has_over v ws w h x hx)
  have HPOS := Lib.hid (fun x hx => has_pos v ws w h x hx)
  have HOV := Lib.hid (over_any T w)
  unfold is_over at HOV
  obtain ⟨n, HN⟩ : ∃ n, Hid (n = ws.length) := ⟨_, rfl⟩
  rw [← HN.out] at e k1
  obtain ⟨r, hr⟩ : ∃ r, r = wrongN T ws := ⟨_, rfl⟩
  rw [← hr]
  unfold wrongN at hr
  clear h k1 k2 k3
  subst e
  by_cases c1 : T < 0
  · rw [if_pos (.inl c1)] at hr
    subst hr
    have d1 : decide (T < 0) = true := by simpa using c1
    clear HNEG HOVER HPOS HOV
    go_enter Tryd.func58, Tryd.ntmps58
    go_wp2
    go_ret
    exact ⟨rfl, rfl⟩
  · have d1 : decide (T < 0) = false := by simpa using c1
    by_cases c2 : ws = []
    · rw [if_pos (.inr (.inl c2))] at hr
      subst hr
      have hn : n = 0 := by rw [HN.out, c2]; rfl
      subst hn
      clear HNEG HOVER HPOS HOV c2
      go_enter Tryd.func58, Tryd.ntmps58
      go_wp2
      go_ret
      exact ⟨rfl, rfl⟩
    · have hn : 0 < n := by rw [HN.out]; exact List.length_pos_iff.2 c2
      have d2 : ((n : Int) == 0) = false := by rw [beq_eq_false_iff_ne]; omega
      cases c3 : ws.any is_neg with
      | true =>
        rw [if_pos (.inr (.inr c3))] at hr
        subst hr
        have HC := Lib.hid (HNEG.out true c3.symm)
        clear HNEG HOVER HPOS HOV c2 c3
        go_enter Tryd.func58, Tryd.ntmps58
        go_wp2_with (go_at_call 84; refine HC.out.mono ?_; rintro e w' ⟨rfl, rfl⟩)
        go_ret
        exact ⟨rfl, rfl⟩
      | false =>
        rw [if_neg (by simp [c1, c2, c3])] at hr
        have HC := Lib.hid (HNEG.out false c3.symm)
        by_cases c4 : 1099511627776 < T
        · rw [if_pos (.inl c4)] at hr
          subst hr
          have HO : Hid (Calls Tryd.prog 86 #[.int .i64 T] w fun e w' => e = .returned (.bool true) ∧ w' = w) := by have := HOV; rwa [show decide (1099511627776 < T) = true by simpa using c4] at this
          clear HNEG HOVER HPOS HOV c2 c3
          go_enter Tryd.func58, Tryd.ntmps58
          go_wp2_with (first | (go_at_call 84; refine HC.out.mono ?_; rintro e w' ⟨rfl, rfl⟩) | (go_at_call 86; refine HO.out.mono ?_; rintro e w' ⟨rfl, rfl⟩))
          go_ret
          exact ⟨rfl, rfl⟩
        · have HO : Hid (Calls Tryd.prog 86 #[.int .i64 T] w fun e w' => e = .returned (.bool false) ∧ w' = w) := by have := HOV; rwa [show decide (1099511627776 < T) = false by simpa using c4] at this
          by_cases c5 : 4096 < n
          · rw [if_pos (.inr (.inl (by rw [← HN.out]; exact c5)))] at hr
            subst hr
            have d5 : decide ((4096 : Int) < (n : Int)) = true := by rw [decide_eq_true_iff]; omega
            clear HNEG HOVER HPOS HOV c2 c3
            go_enter Tryd.func58, Tryd.ntmps58
            go_wp2_with (first | (go_at_call 84; refine HC.out.mono ?_; rintro e w' ⟨rfl, rfl⟩) | (go_at_call 86; refine HO.out.mono ?_; rintro e w' ⟨rfl, rfl⟩))
            go_ret
            exact ⟨rfl, rfl⟩
          · have d5 : decide ((4096 : Int) < (n : Int)) = false := by rw [decide_eq_false_iff_not]; omega
            cases c6 : ws.any is_over with
            | true =>
              rw [if_pos (.inr (.inr c6))] at hr
              subst hr
              have HC2 := Lib.hid (HOVER.out true c6.symm)
              clear HNEG HOVER HPOS HOV c2 c3 c6
              go_enter Tryd.func58, Tryd.ntmps58
              go_wp2_with (first | (go_at_call 84; ((with_reducible refine HC.out.mono ?_); rintro e w' ⟨rfl, rfl⟩)) | (go_at_call 84; ((with_reducible refine HC2.out.mono ?_); rintro e w' ⟨rfl, rfl⟩)) | (go_at_call 86; refine HO.out.mono ?_; rintro e w' ⟨rfl, rfl⟩))
              go_ret
              exact ⟨rfl, rfl⟩
            | false =>
              rw [if_neg (by simp [c4, c6, ← HN.out]; omega)] at hr
              have HC2 := Lib.hid (HOVER.out false c6.symm)
              by_cases c7 : 0 < T
              · have d7 : decide (0 < T) = true := by simpa using c7
                cases c8 : ws.any is_pos with
                | true =>
                  rw [if_neg (by simp [c8])] at hr
                  subst hr
                  have HC3 := Lib.hid (HPOS.out true c8.symm)
                  clear HNEG HOVER HPOS HOV c2 c3 c6 c8
                  go_enter Tryd.func58, Tryd.ntmps58
                  go_wp2_with (first | (go_at_call 84; ((with_reducible refine HC.out.mono ?_); rintro e w' ⟨rfl, rfl⟩)) | (go_at_call 84; ((with_reducible refine HC2.out.mono ?_); rintro e w' ⟨rfl, rfl⟩)) | (go_at_call 84; ((with_reducible refine HC3.out.mono ?_); rintro e w' ⟨rfl, rfl⟩)) | (go_at_call 86; refine HO.out.mono ?_; rintro e w' ⟨rfl, rfl⟩))
                  go_ret
                  exact ⟨rfl, rfl⟩
                | false =>
                  rw [if_pos ⟨c7, c8⟩] at hr
                  subst hr
                  have HC3 := Lib.hid (HPOS.out false c8.symm)
                  clear HNEG HOVER HPOS HOV c2 c3 c6 c8
                  go_enter Tryd.func58, Tryd.ntmps58
                  go_wp2_with (first | (go_at_call 84; ((with_reducible refine HC.out.mono ?_); rintro e w' ⟨rfl, rfl⟩)) | (go_at_call 84; ((with_reducible refine HC2.out.mono ?_); rintro e w' ⟨rfl, rfl⟩)) | (go_at_call 84; ((with_reducible refine HC3.out.mono ?_); rintro e w' ⟨rfl, rfl⟩)) | (go_at_call 86; refine HO.out.mono ?_; rintro e w' ⟨rfl, rfl⟩))
                  go_ret
                  exact ⟨rfl, rfl⟩
              · have d7 : decide (0 < T) = false := by simpa using c7
                rw [if_neg (by simp [c7])] at hr
                subst hr
                clear HNEG HOVER HPOS HOV c2 c3 c6
                go_enter Tryd.func58, Tryd.ntmps58
                go_wp2_with (first | (go_at_call 84; ((with_reducible refine HC.out.mono ?_); rintro e w' ⟨rfl, rfl⟩)) | (go_at_call 84; ((with_reducible refine HC2.out.mono ?_); rintro e w' ⟨rfl, rfl⟩)) | (go_at_call 86; refine HO.out.mono ?_; rintro e w' ⟨rfl, rfl⟩))
                go_ret
                exact ⟨rfl, rfl⟩
end Go.Proofs.YtllaahdbngjigaaDoor
