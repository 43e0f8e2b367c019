/-
  The document's store: Write.
-/
import Derived.Test.YthfddgffanajaaaRef2
namespace Go.Proofs.Ythfddgffanajaaa
open Go Go.RowKit
set_option linter.unusedVariables false
set_option linter.unusedSimpArgs false

theorem hold {p : Prop} (h : Hid p) : p := h.out
theorem lit0 (W : World) (n : Nat) (h : n = W.heap.size) : (W.alloc (.cells #[] 9)).ownsRow 0 9 1 (.slice (some ⟨n, 0, none⟩) 0 0) 0 [] := by
  subst h
  obtain ⟨h1, h2⟩ := own_lit W 9 0 #[] (by unfold maxLen; omega) rfl
  rcases h2 with ⟨h2, _⟩ | ⟨g, cap, cur, e, h3, h4⟩
  · cases h2
  · exact ⟨h1, .inr ⟨g, cap, cur, e, Nat.zero_le _, h4⟩⟩

/-- append of a row that came in, nil or not. -/
theorem wpList_row {P : Program} {w : World} {ops : Array Oper} {rest : List Oper} {o : Oper} {a : Act} {Q : Exit → Act → World → Prop} (hgd : o.guard = none) (s x : Operand) (t : TypeId)
    (ho : o.op = .call { callee := .builtin .append, args := #[s, x], argTypes := #[t, t] })
    (e : TypeId) (i : TypeInfo) (z : Value) (sz bytes : Nat) (ht : P.underlying t = some (.slice e)) (hi : P.info? e = some i) (hz : i.zero = some z)
    (hsize : i.size = sz) (hby : i.bytes = bytes) (hzs : z.cells.size = sz) (hsz : 0 < sz)
    (v : Value) (n : Nat) (xs : List Value) (hs : a.eval s = v) (hown : w.ownsRow 0 e sz v n xs)
    (xa : Option Addr) (m c : Nat) (news : List Value) (hx : a.eval x = .slice xa m c) (hr : Row w (.slice xa m c) sz m news) (h1 : ∀ u ∈ news, u.oneCell' = true)
    (h63 : n + m ≤ maxLen) (hbytes : (n + m) * bytes ≤ 140737488355328)
    (h : ∀ v' w', w'.ownsRow 0 e sz v' (n + m) (xs ++ news) → Touch (fun k => v.ownBlock = some k) w w' → (∀ k, v'.ownBlock = some k → v.ownBlock = some k ∨ w.heap.size ≤ k) → wpList P ops Q rest (a.put o.dst v') w') :
    wpList P ops Q (o :: rest) a w := by
  obtain ⟨l1, ao, cap, e1, l2, l3, l4, l5⟩ := hr
  cases e1
  cases xa with
  | none =>
    obtain rfl : c = 0 := l4 rfl
    obtain rfl : m = 0 := by omega
    obtain rfl : news = [] := List.eq_nil_of_length_eq_zero (by omega)
    refine wpList_append_own_none hgd s x t ho 0 e i sz ht hi v n xs hs hown hx ?_
    exact h v w (by simpa using hown) (Touch.refl _ _) (fun k hk => .inl hk)
  | some ad =>
    refine wpList_own hgd s x t ho e i z sz bytes ht hi hz hsize hby hzs hsz v n xs hs hown ad m c news hx l1 (l5 ad rfl) h1 h63 hbytes ?_
    intro v' w' h2 h3 h4
    exact h v' w' h2 ((Touch.refl _ _).grown h3 (fun k hk => .inl hk)) h4

theorem rcallx (w : World) (a : Option Addr) (n c : Nat) (m f f' : Int) (d : Bool) (h : (f = -1 ∧ f' = f) ∨ (0 < f ∧ f ≤ 9223372036854775807 ∧ f' = f - 1)) :
    Calls Try.prog 34 #[.agg #[.slice a n c, .int .i64 m, .int .i64 f, .bool d]] w fun e w' => e = .returned (.tuple #[.agg #[.slice a n c, .int .i64 m, .int .i64 f', .bool d], .bool true]) ∧
      w' = (w.alloc (.cells #[.slice a n c, .int .i64 m, .int .i64 f', .bool d] 42)).alloc (.cells #[.slice a n c, .int .i64 m, .int .i64 f', .bool d] 42) := by
  rcases h with ⟨rfl, rfl⟩ | ⟨h0, h1, rfl⟩
  · go_enter Try.func34, Try.ntmps34
    go_wp2
    refine bodyPost_ret (v := .tuple #[.agg #[.slice a n c, .int .i64 m, .int .i64 (-1), .bool d], .bool true]) (by simp [results, Try.results34, go_sem]) rfl ⟨rfl, rfl⟩
  · have g1 : (f == 0) = false := by simp; omega
    have g2 : decide (0 < f) = true := by simp; omega
    have m1 : IntKind.i64.wrap (f - 1) = f - 1 := IntWalk.i64_in _ (by omega)
    go_enter Try.func34, Try.ntmps34
    go_wp2
    refine bodyPost_ret (v := .tuple #[.agg #[.slice a n c, .int .i64 m, .int .i64 (f - 1), .bool d], .bool true]) (by simp [results, Try.results34, go_sem]) rfl ⟨rfl, rfl⟩

set_option maxHeartbeats 2000000 in
/-- The append's part. -/
theorem rgrow (w : World) (ao : Option Addr) (n c : Nat) (m f f' : Int) (t : ByteArray) (ws : List ByteArray) (hn : n = ws.length) (h : Strs w (.slice ao n c) ws) (hl : n < 4096) (ht : t.size ≤ 4096)
    (hf : (f = -1 ∧ f' = f) ∨ (0 < f ∧ f ≤ 9223372036854775807 ∧ f' = f - 1)) :
    Calls Try.prog 29 #[rfv ao n c m f false, .string t] w fun e w' => ∃ a' c', e = .returned (.tuple #[rfv (some a') (n + 1) c' m f' false, .int .i64 0]) ∧ Strs w' (.slice (some a') (n + 1) c') (ws ++ [t]) ∧ w.heap.size ≤ a'.block ∧ Below w.heap.size w w' := by
  have g1 : decide ((4096 : Int) < (t.size : Int)) = false := by simp; omega
  have g2 : decide ((4096 : Int) ≤ (n : Int)) = false := by simp; omega
  have HN := Lib.hid hn
  have H := Lib.hid h
  have HF := Lib.hid (fun w => rcallx w ao n c m f f' false hf)
  obtain ⟨i0, hi, hz0, hz1, hz2⟩ := info_parts Try.info9
  clear hn h hf
  unfold rfv
  go_enter Try.func29, Try.ntmps29
  go_wp2_with fail
  refine (HF.out _).mono ?_
  rintro e w1 ⟨rfl, rfl⟩
  go_wp2_with (at_builtin; refine hold ?_)
  refine Lib.hid ?_
  obtain ⟨W5, HW5⟩ : ∃ W5 : World, Hid (W5 = ((((w.alloc (.cells #[.slice ao n c, .int .i64 m, .int .i64 f', .bool false] 42)).alloc (.cells #[.slice none 0 0, .int .i64 0, .int .i64 0, .bool false] 42)).alloc (.cells #[.slice ao n c, .int .i64 m, .int .i64 f', .bool false] 42)).alloc (.cells #[.slice ao n c, .int .i64 m, .int .i64 f', .bool false] 42)).alloc (.cells #[] 9)) := ⟨_, rfl⟩
  refine wpList_row rfl _ _ 22 rfl 9 i0 _ 1 16 Try.underlying22 hi hz0 hz1 hz2 rfl (by decide) (.slice (some ⟨w.heap.size + 1 + 1 + 1 + 1, 0, none⟩) 0 0) 0 [] rfl (lit0 _ _ (by simp)) ao n c (ws.map Value.string) rfl (by have := H.out; unfold Strs at this; rw [← HN.out] at this; exact this.below ((four_new _ _ _ _ _).alloc (by simp <;> omega) _)) (by intro u hu; obtain ⟨_, _, rfl⟩ := List.mem_map.1 hu; rfl) (by unfold maxLen; omega) (by omega) ?_
  rw [← HW5.out]
  intro v1 w1 hown ht1 hn1
  rw [Nat.zero_add, List.nil_append] at hown
  obtain ⟨ao1, cap1, rfl⟩ := own_shape hown
  have hbl : ∀ k, (Value.slice (some ⟨w.heap.size + 1 + 1 + 1 + 1, 0, none⟩) 0 0).ownBlock = some k → k = w.heap.size + 4 := fun k hk => by simp [Value.ownBlock] at hk; omega
  have s5 : W5.heap.size = w.heap.size + 5 := by rw [HW5.out]; simp
  have b0 : W5.heap[w.heap.size]? = some (.cells #[.slice ao n c, .int .i64 m, .int .i64 f', .bool false] 42 (0, 0)) := by
    rw [HW5.out, Below.heap_alloc _ _ _ (by simp <;> omega), Below.heap_alloc _ _ _ (by simp <;> omega), Below.heap_alloc _ _ _ (by simp <;> omega), Below.heap_alloc _ _ _ (by simp)]
    exact heap_alloc_new _ _
  have b1 : W5.heap[w.heap.size + 1]? = some (.cells #[.slice none 0 0, .int .i64 0, .int .i64 0, .bool false] 42 (0, 0)) := by
    rw [HW5.out, Below.heap_alloc _ _ _ (by simp <;> omega), Below.heap_alloc _ _ _ (by simp <;> omega), Below.heap_alloc _ _ _ (by simp)]
    have := heap_alloc_new (w.alloc (.cells #[.slice ao n c, .int .i64 m, .int .i64 f', .bool false] 42)) (.cells #[.slice none 0 0, .int .i64 0, .int .i64 0, .bool false] 42)
    simpa using this
  have hb5 : Below w.heap.size w W5 := by rw [HW5.out]; exact (four_new _ _ _ _ _).alloc (by simp <;> omega) _
  have hb1 : Below w.heap.size w w1 := hb5.trans (ht1.below (by omega) (fun k hk => by have := hbl k hk; omega))
  have p0 := (ht1.block w.heap.size (by omega) (fun e => by have := hbl _ e; omega)).trans b0
  have p1 := (ht1.block (w.heap.size + 1) (by omega) (fun e => by have := hbl _ e; omega)).trans b1
  have hr1 : ∀ k, (Value.slice ao1 n cap1).ownBlock = some k → w.heap.size + 2 ≤ k := fun k hk => (hn1 k (by simpa using hk)).elim (fun e => by have := hbl _ e; omega) (fun e => by omega)
  have hs1 := ht1.size
  have OWN := Lib.hid hown
  have X1 := Lib.hid (And.intro hb1 (And.intro p0 (And.intro p1 hr1)))
  clear hown ht1 hn1 b0 b1 hb5 hb1 p0 p1 hr1 HW5
  go_wp2_with (at_builtin; refine hold ?_)
  refine Lib.hid ?_
  have HT := Lib.hid (fun (v2 : Value) (w2 : World) (hown2 : w2.ownsRow 0 9 1 v2 (n + 1) (ws.map Value.string ++ [.string t])) (hg2 : (w1.alloc (.cells #[.string t] 9)).grownBy w2 (Value.slice ao1 n cap1).ownBlock) (hn2 : ∀ k, v2.ownBlock = some k → (Value.slice ao1 n cap1).ownBlock = some k ∨ (w1.alloc (.cells #[.string t] 9)).heap.size ≤ k) =>
    show ∃ g cap, v2 = .slice (some ⟨g, 0, none⟩) (n + 1) cap ∧ w.heap.size + 2 ≤ g ∧ Row w2 (.slice (some ⟨g, 0, none⟩) (n + 1) cap) 1 (n + 1) (ws.map Value.string ++ [.string t]) ∧ Below w.heap.size w w2 ∧
      w2.heap[w.heap.size]? = some (.cells #[.slice ao n c, .int .i64 m, .int .i64 f', .bool false] 42 (0, 0)) ∧
      w2.heap[w.heap.size + 1]? = some (.cells #[.slice none 0 0, .int .i64 0, .int .i64 0, .bool false] 42 (0, 0)) from by
    obtain ⟨hb1, p0, p1, hr1⟩ := X1.out
    have hs1 := hb1.size
    have l0 := lt_of_block p0
    have l1 := lt_of_block p1
    have hrow := Row.of_own hown2
    have ht2 : Touch (fun k => (Value.slice ao1 n cap1).ownBlock = some k) w1 w2 := ((Touch.refl _ w1).alloc _).grown hg2 (fun k hk => .inl hk)
    have q0 := (ht2.block _ l0 (fun e => by have := hr1 _ e; omega)).trans p0
    have q1 := (ht2.block _ l1 (fun e => by have := hr1 _ e; omega)).trans p1
    have hb2 : Below w.heap.size w w2 := hb1.trans (ht2.below hs1 (fun k hk => by have := hr1 _ hk; omega))
    rcases hown2.2 with ⟨e1, e2⟩ | ⟨g, cap, cur, e1, _⟩
    · omega
    · cases e1
      refine ⟨g, cap, rfl, ?_, hrow, hb2, q0, q1⟩
      exact (hn2 g rfl).elim (fun e => hr1 _ e) (fun e => by simp at e; omega))
  refine wpList_own rfl _ _ 22 rfl 9 i0 _ 1 16 Try.underlying22 hi hz0 hz1 hz2 rfl (by decide) (.slice ao1 n cap1) n (ws.map Value.string) rfl (OWN.out.alloc (.cells #[.string t] 9)) ⟨w1.heap.size, 0, none⟩ 1 1 [.string t] rfl rfl (new_cells _ #[.string t] _) (one_str t) (by unfold maxLen; omega) (by omega) ?_
  intro v2 w2 hown2 hg2 hn2
  obtain ⟨g, cap, rfl, hg, hrow, hb2, q0, q1⟩ := HT.out v2 w2 hown2 hg2 hn2
  clear hown2 hg2 hn2 HT OWN X1
  have c0 : w2.cell? ⟨w.heap.size, 0, none⟩ = some (.slice ao n c) := by simp [World.cell?, q0]
  have c1 : w2.cell? ⟨w.heap.size, 1, none⟩ = some (.int .i64 m) := by simp [World.cell?, q0]
  have c2 : w2.cell? ⟨w.heap.size, 2, none⟩ = some (.int .i64 f') := by simp [World.cell?, q0]
  have c3 : w2.cell? ⟨w.heap.size, 3, none⟩ = some (.bool false) := by simp [World.cell?, q0]
  have d0 : w2.cell? ⟨w.heap.size + 1, 0, none⟩ = some (.slice none 0 0) := by simp [World.cell?, q1]
  have d1 : w2.cell? ⟨w.heap.size + 1, 1, none⟩ = some (.int .i64 0) := by simp [World.cell?, q1]
  have d2 : w2.cell? ⟨w.heap.size + 1, 2, none⟩ = some (.int .i64 0) := by simp [World.cell?, q1]
  have d3 : w2.cell? ⟨w.heap.size + 1, 3, none⟩ = some (.bool false) := by simp [World.cell?, q1]
  have e0 : w2.frozen? ⟨w.heap.size, 0, none⟩ = false := by simp [World.frozen?, q0]
  have f0 : w2.frozen? ⟨w.heap.size + 1, 0, none⟩ = false := by simp [World.frozen?, q1]
  have f1 : w2.frozen? ⟨w.heap.size + 1, 1, none⟩ = false := by simp [World.frozen?, q1]
  have f2 : w2.frozen? ⟨w.heap.size + 1, 2, none⟩ = false := by simp [World.frozen?, q1]
  have f3 : w2.frozen? ⟨w.heap.size + 1, 3, none⟩ = false := by simp [World.frozen?, q1]
  have Q := Lib.hid (And.intro hg (And.intro hrow hb2))
  clear hg hrow hb2 q0 q1
  go_wp2
  refine bodyPost_ret (v := .tuple #[.agg #[.slice (some ⟨g, 0, none⟩) (n + 1) cap, .int .i64 m, .int .i64 f', .bool false], .int .i64 0]) (by simp [results, Try.results29, go_sem, *]) rfl ?_
  obtain ⟨hg, hrow, hb2⟩ := Q.out
  refine ⟨⟨g, 0, none⟩, cap, rfl, ?_, (by show w.heap.size ≤ g; omega), ?_⟩
  · have ht2 := (((((Touch.refl (fun k => k = w.heap.size ∨ k = w.heap.size + 1) w2).setCell (p := ⟨w.heap.size, 0, none⟩) (.inl (.inl rfl)) (.slice (some ⟨g, 0, none⟩) (n + 1) cap)).setCell (p := ⟨w.heap.size + 1, 0, none⟩) (.inl (.inr rfl)) (.slice (some ⟨g, 0, none⟩) (n + 1) cap)).setCell (p := ⟨w.heap.size + 1, 1, none⟩) (.inl (.inr rfl)) (.int .i64 m)).setCell (p := ⟨w.heap.size + 1, 2, none⟩) (.inl (.inr rfl)) (.int .i64 f')).setCell (p := ⟨w.heap.size + 1, 3, none⟩) (.inl (.inr rfl)) (.bool false)
    have := row_touch hrow ht2 (fun a c e _ => by cases e; simp; omega)
    unfold Strs
    rw [List.length_append, ← HN.out, List.map_append]
    exact this
  · exact ((((hb2.setCell (p := ⟨w.heap.size, 0, none⟩) (by simp) _).setCell (p := ⟨w.heap.size + 1, 0, none⟩) (by simp) _).setCell (p := ⟨w.heap.size + 1, 1, none⟩) (by simp) _).setCell (p := ⟨w.heap.size + 1, 2, none⟩) (by simp) _).setCell (p := ⟨w.heap.size + 1, 3, none⟩) (by simp) _

theorem rw_down (w : World) (a : Option Addr) (n c : Nat) (m f : Int) (t : ByteArray) :
    Calls Try.prog 29 #[rfv a n c m f true, .string t] w fun e w' => e = .returned (.tuple #[rfv a n c m f true, .int .i64 14]) ∧ Below w.heap.size w w' := by
  unfold rfv
  go_enter Try.func29, Try.ntmps29
  go_wp2
  refine bodyPost_ret (v := .tuple #[.agg #[.slice a n c, .int .i64 m, .int .i64 f, .bool true], .int .i64 14]) (by simp [results, Try.results29, go_sem]) rfl ⟨rfl, ?_⟩
  exact two_new _ _ _
theorem rw_long (w : World) (a : Option Addr) (n c : Nat) (m f : Int) (t : ByteArray) (ht : 4096 < t.size) :
    Calls Try.prog 29 #[rfv a n c m f false, .string t] w fun e w' => e = .returned (.tuple #[rfv a n c m f false, .int .i64 1]) ∧ Below w.heap.size w w' := by
  have g1 : decide ((4096 : Int) < (t.size : Int)) = true := by simp; omega
  unfold rfv
  go_enter Try.func29, Try.ntmps29
  go_wp2
  refine bodyPost_ret (v := .tuple #[.agg #[.slice a n c, .int .i64 m, .int .i64 f, .bool false], .int .i64 1]) (by simp [results, Try.results29, go_sem]) rfl ⟨rfl, ?_⟩
  exact two_new _ _ _
theorem rw_full (w : World) (a : Option Addr) (n c : Nat) (m f : Int) (t : ByteArray) (ht : t.size ≤ 4096) (hn : 4096 ≤ n) :
    Calls Try.prog 29 #[rfv a n c m f false, .string t] w fun e w' => e = .returned (.tuple #[rfv a n c m f false, .int .i64 7]) ∧ Below w.heap.size w w' := by
  have g1 : decide ((4096 : Int) < (t.size : Int)) = false := by simp; omega
  have g2 : decide ((4096 : Int) ≤ (n : Int)) = true := by simp; omega
  unfold rfv
  go_enter Try.func29, Try.ntmps29
  go_wp2
  refine bodyPost_ret (v := .tuple #[.agg #[.slice a n c, .int .i64 m, .int .i64 f, .bool false], .int .i64 7]) (by simp [results, Try.results29, go_sem]) rfl ⟨rfl, ?_⟩
  exact two_new _ _ _
theorem rw_zero (w : World) (a : Option Addr) (n c : Nat) (m : Int) (t : ByteArray) (ht : t.size ≤ 4096) (hn : n < 4096) :
    Calls Try.prog 29 #[rfv a n c m 0 false, .string t] w fun e w' => e = .returned (.tuple #[rfv a n c m 0 true, .int .i64 14]) ∧ Below w.heap.size w w' := by
  have g1 : decide ((4096 : Int) < (t.size : Int)) = false := by simp; omega
  have g2 : decide ((4096 : Int) ≤ (n : Int)) = false := by simp; omega
  unfold rfv
  go_enter Try.func29, Try.ntmps29
  go_wp2_with (go_at_call 34; go_in)
  refine bodyPost_ret (v := .tuple #[.agg #[.slice a n c, .int .i64 m, .int .i64 0, .bool true], .int .i64 14]) (by simp [results, Try.results29, go_sem]) rfl ⟨rfl, ?_⟩
  exact four_new _ _ _ _ _

theorem rwrite_any (w : World) (m : Value) (s : St) (t : ByteArray) (h : IsRf w m s) (hs : s.Ok) :
    Calls Try.prog 29 #[m, .string t] w fun e w' => ∃ m', e = .returned (.tuple #[m', .int .i64 (s.wr t).2]) ∧ IsRf w' m' (s.wr t).1 ∧ Rk w m m' ∧ Below w.heap.size w w' := by
  obtain ⟨a, c, rfl, h1⟩ := h
  have same : ∀ (d : Bool) (w' : World), Below w.heap.size w w' → IsRf w' (rfv a s.ws.length c s.last s.fu d) { s with down := d } := fun d w' hb => ⟨a, c, rfl, h1.below hb⟩
  by_cases hd : s.down = true
  · rw [show s.wr t = (s, 14) by unfold St.wr; rw [if_pos hd], hd]
    refine (rw_down w a s.ws.length c s.last s.fu t).mono ?_
    rintro e w' ⟨rfl, hb⟩
    refine ⟨_, rfl, ?_, Rk.same (Nat.le_refl _), hb⟩
    have := same true w' hb
    rwa [show ({ s with down := true } : St) = s by cases s; simp_all] at this
  · rw [Bool.not_eq_true] at hd
    by_cases hl : 4096 < t.size
    · rw [show s.wr t = (s, 1) by unfold St.wr; rw [if_neg (by simp [hd]), if_pos hl], hd]
      refine (rw_long w a s.ws.length c s.last s.fu t hl).mono ?_
      rintro e w' ⟨rfl, hb⟩
      refine ⟨_, rfl, ?_, Rk.same (Nat.le_refl _), hb⟩
      have := same false w' hb
      rwa [show ({ s with down := false } : St) = s by cases s; simp_all] at this
    · by_cases hn : 4096 ≤ s.ws.length
      · rw [show s.wr t = (s, 7) by unfold St.wr; rw [if_neg (by simp [hd]), if_neg hl, if_pos hn], hd]
        refine (rw_full w a s.ws.length c s.last s.fu t (by omega) hn).mono ?_
        rintro e w' ⟨rfl, hb⟩
        refine ⟨_, rfl, ?_, Rk.same (Nat.le_refl _), hb⟩
        have := same false w' hb
        rwa [show ({ s with down := false } : St) = s by cases s; simp_all] at this
      · by_cases ha : s.armed = true
        · by_cases hz : s.fuse = 0
          · rw [show s.wr t = ({ s with down := true }, 14) by unfold St.wr; rw [if_neg (by simp [hd]), if_neg hl, if_neg hn, if_pos ha, if_pos hz], hd]
            have hf : s.fu = 0 := by unfold St.fu; rw [if_pos ha]; exact hz
            have same' := same true
            rw [hf] at same' ⊢
            refine (rw_zero w a s.ws.length c s.last t (by omega) (by omega)).mono ?_
            rintro e w' ⟨rfl, hb⟩
            exact ⟨_, rfl, same' w' hb, Rk.same (Nat.le_refl _), hb⟩
          · rw [show s.wr t = ({ s with fuse := s.fuse - 1, ws := s.ws ++ [t] }, 0) by unfold St.wr; rw [if_neg (by simp [hd]), if_neg hl, if_neg hn, if_pos ha, if_neg hz], hd]
            refine (rgrow w a s.ws.length c s.last s.fu (s.fuse - 1) t s.ws rfl h1 (by omega) (by omega) (.inr ⟨by rw [show s.fu = s.fuse from if_pos ha]; have := hs.f0; omega, by rw [show s.fu = s.fuse from if_pos ha]; exact hs.f1, by rw [show s.fu = s.fuse from if_pos ha]⟩)).mono ?_
            rintro e w' ⟨a', c', rfl, h2, h3, hb⟩
            refine ⟨_, rfl, ⟨some a', c', ?_, ?_⟩, (fun k hk => by obtain ⟨_, x, e, rfl⟩ := rblk_some hk; cases e; exact .inr h3), hb⟩
            · simp [St.fu, ha, rfv]
            · show Strs _ (.slice (some a') (s.ws ++ [t]).length c') (s.ws ++ [t])
              rw [List.length_append]; exact h2
        · rw [show s.wr t = ({ s with ws := s.ws ++ [t] }, 0) by unfold St.wr; rw [if_neg (by simp [hd]), if_neg hl, if_neg hn, if_neg ha], hd]
          refine (rgrow w a s.ws.length c s.last s.fu s.fu t s.ws rfl h1 (by omega) (by omega) (.inl ⟨if_neg ha, rfl⟩)).mono ?_
          rintro e w' ⟨a', c', rfl, h2, h3, hb⟩
          refine ⟨_, rfl, ⟨some a', c', ?_, ?_⟩, (fun k hk => by obtain ⟨_, x, e, rfl⟩ := rblk_some hk; cases e; exact .inr h3), hb⟩
          · simp [St.fu, ha, rfv]
          · show Strs _ (.slice (some a') (s.ws ++ [t]).length c') (s.ws ++ [t])
            rw [List.length_append]; exact h2
end Go.Proofs.Ythfddgffanajaaa
