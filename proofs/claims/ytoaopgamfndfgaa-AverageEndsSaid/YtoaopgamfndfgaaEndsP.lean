/-
  Nobody at stake, all given up, nothing lost: plain; and two steps of a drawn region.
-/
import Derived.Test.YtoaopgamfndfgaaLawOrder
import Derived.Test.YtoaopgamfndfgaaLawFair
namespace Go.Proofs.Ytoaopgamfndfgaa
open Go Go.RowKit
set_option linter.unusedVariables false
set_option linter.unusedSimpArgs false

theorem step_call {P : Program} {ops : Array Oper} {o : Oper} {a : Act} {K : Act → World → Prop} {Q : Exit → Act → World → Prop} {E : Prop} {w : World} (hgd : o.guard = none) (f : FuncId) (vals : Array Value) (ho : (execOp a.eval o).run P w = .ok (.enter f vals) w)
    (R : Value → World → Prop) (hc : Calls P f vals w fun e w' => ∃ v, e = .returned v ∧ R v w') (h : ∀ v w', R v w' → K (a.put o.dst v) w') : if Region.wanted o (yielded ops a.tmps) = true then Oper.wp P o a w K Q else E := by
  have hw : Region.wanted o (yielded ops a.tmps) = true := by simp [Region.wanted, hgd]
  rw [if_pos hw]
  unfold Oper.wp
  rw [ho, Oper.upon_enter]
  refine hc.mono ?_
  rintro e w' ⟨v, rfl, hr⟩
  exact h v w' hr

/-- append of a row that came in, nil or not, as one step of a region that draws. -/
theorem step_row {P : Program} {w : World} {ops : Array Oper} {o : Oper} {a : Act} {K : Act → World → Prop} {Q : Exit → Act → World → Prop} {E : Prop} (hgd : o.guard = none) (s x : Operand) (t : TypeId)
    (ho : o.op = .call { callee := .builtin .append, args := #[s, x], argTypes := #[t, t] })
    (e : TypeId) (i : TypeInfo) (z : Value) (sz bytes : Nat) (ht : P.underlying t = some (.slice e)) (hi : P.info? e = some i) (hz : i.zero = some z)
    (hsize : i.size = sz) (hby : i.bytes = bytes) (hzs : z.cells.size = sz) (hsz : 0 < sz)
    (v : Value) (n : Nat) (xs : List Value) (hs : a.eval s = v) (hown : w.ownsRow 0 e sz v n xs)
    (xa : Addr) (m c : Nat) (news : List Value) (hx : a.eval x = .slice (some xa) m c) (hr : Row w (.slice (some xa) m c) sz m news) (h1 : ∀ u ∈ news, u.oneCell' = true)
    (h63 : n + m ≤ maxLen) (hbytes : (n + m) * bytes ≤ 140737488355328)
    (h : ∀ v' w', w'.ownsRow 0 e sz v' (n + m) (xs ++ news) → Touch (fun k => v.ownBlock = some k) w w' → (∀ k, v'.ownBlock = some k → v.ownBlock = some k ∨ w.heap.size ≤ k) → K (a.put o.dst v') w') :
    if Region.wanted o (yielded ops a.tmps) = true then Oper.wp P o a w K Q else E := by
  obtain ⟨l1, ao, cap, e1, l2, l3, l4, l5⟩ := hr
  cases e1
  refine step_own hgd s x t ho e i z sz bytes ht hi hz hsize hby hzs hsz v n xs hs hown xa m c news hx l1 (l5 xa rfl) h1 h63 hbytes ?_
  intro v' w' h2 h3 h4
  exact h v' w' h2 ((Touch.refl _ _).grown h3 (fun k hk => .inl hk)) h4

theorem zeros_get (n k : Nat) : (List.replicate n (0 : Int)).getD k 0 = 0 := by
  simp only [List.getD_eq_getElem?_getD, List.getElem?_replicate]
  split <;> rfl
theorem zeros_sum : ∀ n, (List.replicate n (0 : Int)).sum = 0
  | 0 => rfl
  | n + 1 => by rw [List.replicate_succ, List.sum_cons, zeros_sum n]; rfl
theorem wrong_zero {W : List Nat} (h0 : 0 < W.length) (hl : W.length ≤ 4096) (hb : ∀ x ∈ W, x ≤ 1099511627776) (T : Nat) (hT : T ≤ 1099511627776) (hs : 0 < T → 0 < W.sum) : wrongN (T : Int) (natI W) = 0 := by
  unfold wrongN
  have e1 : (natI W).any is_neg = false := by
    rw [List.any_eq_false]; intro z hz
    obtain ⟨x, _, rfl⟩ := List.mem_map.1 hz
    simp [is_neg]
  have e2 : (natI W).any is_over = false := by
    rw [List.any_eq_false]; intro z hz
    obtain ⟨x, hx, rfl⟩ := List.mem_map.1 hz
    have := hb x hx
    simp [is_over]; omega
  have e3 : natI W ≠ [] := by intro e; have := congrArg List.length e; simp [natI] at this; subst this; simp at h0
  have e4 : (natI W).length = W.length := by simp [natI]
  rw [if_neg (by rw [e1]; simp [e3]), if_neg (by rw [e2, e4]; simp; omega), if_neg]
  rintro ⟨h1, h2⟩
  have h3 : 0 < W.sum := hs (by omega)
  have h4 := (isum_zero (natI W) (fun x hx => by obtain ⟨y, _, rfl⟩ := List.mem_map.1 hx; omega)).2 h2
  rw [isum_nat] at h4
  omega

theorem ends_none {l : List In1} (h : mayB l = true) : ∃ W, WholeOk l (List.replicate l.length 0) 0 0 W := by
  obtain ⟨W, hW, hWb, hWl⟩ := may_nat h
  obtain ⟨h1, h2, -⟩ := (may_iff l).1 h
  have hg : goneB l (List.replicate l.length 0) = true := by
    rw [gone_iff]
    refine ⟨by simp, fun k hk => ?_⟩
    unfold goneAt
    rw [zeros_get]
    have := val_getD h k
    simp only [Bool.and_eq_true, decide_eq_true_eq]; omega
  have hw : wholeN l (List.replicate l.length 0) 0 = 0 := by
    unfold wholeN adjN
    rw [zeros_sum, hW, isum_nat, if_neg (by simp [h, hg]), if_neg (by simp [h]), if_neg (by omega)]
    exact wrong_zero (by omega) (by omega) hWb 0 (by omega) (by omega)
  obtain ⟨T, W', ho⟩ := whole_is hw
  have e := ho.sum
  rw [zeros_sum] at e
  obtain rfl : T = 0 := by omega
  exact ⟨W', ho⟩
theorem ends_all {l : List In1} (h : mayB l = true) : wholeN l (valsL l) 0 = 3 ∨ ∃ T W, WholeOk l (valsL l) 0 T W ∧ T = W.sum := by
  obtain ⟨W, hW, hWb, hWl⟩ := may_nat h
  obtain ⟨h1, h2, -⟩ := (may_iff l).1 h
  have hg : goneB l (valsL l) = true := by
    rw [gone_iff]
    refine ⟨vals_len l, fun k hk => ?_⟩
    unfold goneAt
    rw [vals_get]
    have := val_getD h k
    simp only [Bool.and_eq_true, decide_eq_true_eq]; omega
  have hu : wholeN l (valsL l) 0 = wrongN ((W.sum : Nat) : Int) (natI W) := by
    unfold wholeN adjN
    rw [hW, isum_nat, if_neg (by rw [← hW]; simp [h, hg]), if_neg (by simp [h]), if_neg (by omega)]
    simp
  by_cases hT : W.sum ≤ 1099511627776
  · right
    have hw : wholeN l (valsL l) 0 = 0 := by rw [hu]; exact wrong_zero (by omega) (by omega) hWb W.sum hT (fun h => h)
    obtain ⟨T, W', ho⟩ := whole_is hw
    refine ⟨T, W', ho, ?_⟩
    have e := ho.sum
    rw [ho.vals, isum_nat] at e
    omega
  · left
    rw [hu]
    unfold wrongN
    have e1 : (natI W).any is_neg = false := by
      rw [List.any_eq_false]; intro z hz
      obtain ⟨x, _, rfl⟩ := List.mem_map.1 hz
      simp [is_neg]
    have e3 : natI W ≠ [] := by intro e; have := congrArg List.length e; simp [natI] at this; subst this; simp at hWl; omega
    rw [if_neg (by rw [e1]; simp [e3]), if_pos (.inl (by omega))]
theorem split_nil {W out : List Nat} (h : IsSplit 0 W out) (k : Nat) : out.getD k 0 = 0 := by
  have := split_le h (by omega) k; omega
theorem split_all {T : Nat} {W out : List Nat} (h : IsSplit T W out) (hT : T = W.sum) {k : Nat} (hk : k < W.length) : out.getD k 0 = W.getD k 0 := by
  rcases Nat.eq_zero_or_pos W.sum with h0 | h0
  · have h1 := split_le h (by omega) k
    have h2 := getD_le_sum W k
    omega
  · have h1 := split_near h h0 hk
    rw [hT, Nat.mul_comm, Nat.mul_div_cancel _ h0, Nat.mul_mod_left] at h1
    rcases h1 with h1 | ⟨h1, h2⟩
    · exact h1
    · exact absurd rfl h2
theorem pays_none {l : List In1} {G : List Int} (hG : ∀ j, G.getD j 0 = 0) : ∀ k, payAll l G 0 k = ⟨G, 0, []⟩
  | 0 => by
    rw [payAll]
    exact scan_skip (c := 0) (Nat.zero_le _) (fun j _ _ => .inl (Int.le_refl _))
  | k + 1 => by
    rw [payAll, pays_none hG k]
    show scanTo l _ ⟨G, G.getD k 0, []⟩ l.length = _
    rw [hG k]
    exact scan_skip (c := 0) (Nat.zero_le _) (fun j _ _ => .inl (Int.le_refl _))

theorem Try.infoInterest : (Try.prog.info? 35).map (fun i => (i.zero, i.size, i.bytes)) = some (some (.agg #[.string ⟨#[]⟩, .int .i64 0]), 2, 24) := by kernel_rfl
theorem lit0s (W : World) (e sz n : Nat) (h : n = W.heap.size) : (W.alloc (.cells #[] e)).ownsRow 0 e sz (.slice (some ⟨n, 0, none⟩) 0 0) 0 [] := by
  subst h
  exact ⟨by simp, .inr ⟨W.heap.size, 0, #[], rfl, Nat.zero_le _, heap_alloc_new _ _, Nat.le_refl _, by unfold maxLen; omega, by simp, by simp⟩⟩
theorem in_one (l : List In1) : ∀ u ∈ l.flatMap In1.cells, u.oneCell' = true := by
  intro u hu
  obtain ⟨o, _, ho⟩ := List.mem_flatMap.1 hu
  simp [In1.cells] at ho
  rcases ho with rfl | rfl <;> rfl
theorem int_one (zs : List Int) : ∀ u ∈ zs.map (Value.int .i64), u.oneCell' = true := by
  intro u hu
  obtain ⟨z, _, rfl⟩ := List.mem_map.1 hu
  rfl
theorem news_touch {S : Nat → Prop} {W W' : World} {b : Nat} {us : List Value} (hc : ∀ j u, us[j]? = some u → W.cell? ((⟨b, 0, none⟩ : Addr).add j) = some u) (ht : Touch S W W') (hn : ¬ S b) : ∀ j u, us[j]? = some u → W'.cell? ((⟨b, 0, none⟩ : Addr).add j) = some u := by
  intro j u hu
  have := hc j u hu
  rw [add_in] at this ⊢
  exact cell_touch this ht hn
theorem news_alloc {W : World} {b : Nat} {us : List Value} (o : Obj) (hc : ∀ j u, us[j]? = some u → W.cell? ((⟨b, 0, none⟩ : Addr).add j) = some u) : ∀ j u, us[j]? = some u → (W.alloc o).cell? ((⟨b, 0, none⟩ : Addr).add j) = some u :=
  news_touch hc ((Touch.refl (fun _ => False) W).alloc o) (fun h => h)

/-- What the last Whole tells of one who has nothing at stake. -/
def Last (l : List In1) (n : Nat) (w0 : World) (c z h : Value) (W : World) : Prop :=
  Below w0.heap.size w0 W ∧ ((∃ r : Int, r ≠ 0 ∧ c = .slice none 0 0 ∧ z = .slice none 0 0 ∧ h = .int .i64 r) ∨ (∃ b8 b9, c = .slice (some ⟨b8, 0, none⟩) (n + 1) (n + 1) ∧ z = .slice (some ⟨b9, 0, none⟩) (n + 1) (n + 1) ∧ h = .int .i64 0 ∧ W.cell? ⟨b8, n, none⟩ = some (.int .i64 0) ∧ W.cell? ⟨b9, n, none⟩ = some (.int .i64 0)))
theorem last_any (w0 : World) (l : List In1) (n : Nat) (hn : n = l.length) (t : ByteArray) (ao : Option Addr) (m cap : Nat) (bo : Option Addr) (cap2 : Nat) (s : Int) (W : World) (hb : Below w0.heap.size w0 W) (hm : m = n + 1)
    (h1 : Ins W (.slice ao m cap) (l ++ [⟨t, 0⟩])) (h2 : Ints W (.slice bo m cap2) (List.replicate m 0)) :
    Calls Try.prog 15 #[.slice ao m cap, .slice bo m cap2, .int .i64 s] W fun e w' => ∃ v, e = .returned v ∧ ∃ c z h, v = .tuple #[c, z, h] ∧ Last l n w0 c z h w' := by
  subst hm
  have hlen : n + 1 = (l ++ [(⟨t, 0⟩ : In1)]).length := by simp [hn]
  by_cases hw : wholeN (l ++ [⟨t, 0⟩]) (List.replicate (n + 1) 0) s = 0
  · obtain ⟨T, V, ho⟩ := whole_is hw
    refine (whole_any T V ao bo (n + 1) cap cap2 _ _ s W h1 hlen h2 ho.ok ho.sum ho.vals).mono ?_
    rintro e w' ⟨b1, b2, out, rfl, hs, hk1, hk2, _, _, hb2⟩
    have hv : V.getD n 0 = 0 := by
      have h3 := val_nat ho.vals n
      have h4 : ((l ++ [(⟨t, 0⟩ : In1)]).getD n default).z = 0 := by
        rw [List.getD_eq_getElem?_getD, List.getElem?_append_right (by omega)]
        simp [hn]
      omega
    have ho0 : out.getD n 0 = 0 := by
      have := split_cap hs ho.ss ho.ts (i := n) (by rw [ho.wl, ← hlen]; omega)
      omega
    have q1 := hk1.at (n := n + 1) (k := n) (by simp [natI, hs.len, ho.wl, hn]) (by omega)
    have q2 := hk2.at (n := n + 1) (k := n) (by rw [gets_len]; simp) (by omega)
    rw [natI_getD, ho0] at q1
    rw [gets_get (by simp), zeros_get, ho0] at q2
    exact ⟨_, rfl, _, _, _, rfl, bt hb hb2, .inr ⟨b1, b2, rfl, rfl, rfl, by simpa using q1, by simpa using q2⟩⟩
  · refine (whole_bad ao bo (n + 1) cap (n + 1) cap2 _ _ s W h1 hlen h2 (by simp) hw).mono ?_
    rintro e w' ⟨rfl, hb2⟩
    exact ⟨_, rfl, _, _, _, rfl, bt hb hb2, .inl ⟨_, hw, rfl, rfl, rfl⟩⟩
end Go.Proofs.Ytoaopgamfndfgaa
