/-
  Rows of loads: cloned, sorted; byPlace. (Put together of XSrt, XStb, XByp.)
-/
import Derived.Test.YtllaahdbngjigaaDoorSlay
import Derived.Test.YtllaahdbngjigaaDoorAppRow
import Derived.Sort.LotA
namespace Go.Proofs.YtllaahdbngjigaaDoor
open Go Go.RowKit Go.Sort
set_option linter.unusedVariables false
set_option linter.unusedSimpArgs false

theorem sortW_touch (w : World) (blk off n : Nat) (d : Array Ld) (os : Array Obj) : Touch (fun k => k = blk) w (sortWorldK Ld.cells 7 w blk off n d os) := by
  refine ⟨rfl, rfl, rfl, ?_, fun k hk hn => ?_⟩
  · show w.heap.size ≤ ((w.heap.modify blk _) ++ os).size
    simp
  · show ((w.heap.modify blk _) ++ os)[k]? = _
    rw [Array.getElem?_append_left (by simpa using hk), Array.getElem?_modify, if_neg (fun e => hn e.symm)]
theorem holdsK_lds {w : World} {blk off cap : Nat} {d : Array Ld} (h : HoldsK Ld.cells 7 w blk off d) (h1 : d.size ≤ cap) (h2 : cap ≤ maxLen) (n : Nat) (hn : n = d.size) : Lds w (.slice (some ⟨blk, off, none⟩) n cap) d.toList := by
  subst hn
  have hl := ld_len d.toList
  refine ⟨by rw [hl], some ⟨blk, off, none⟩, cap, by simp, by simpa using h1, h2, (fun h => by cases h), fun a ha j u hu => ?_⟩
  cases ha
  rw [add_at]
  have hj : j < d.toList.length * 7 := by
    have := (List.getElem?_eq_some_iff.1 hu).1
    rwa [hl] at this
  have hi : j / 7 < d.toList.length := by omega
  have hc : j % 7 < 7 := by omega
  have e : j / 7 * 7 + j % 7 = j := by omega
  have f := flat_get (f := Ld.cells) (sz := 7) (fun _ => rfl) d.toList (j / 7) (j % 7) hi hc
  rw [e, hu] at f
  have g := (h.cell (i := j / 7) (c := j % 7) (by simpa using hi) hc).1
  rw [Nat.add_assoc, e] at g
  rw [g, f]
  have e1 : d[j / 7]! = d.toList[j / 7] := by
    rw [getElem!_pos d (j / 7) (by simpa using hi)]
    simp
  rw [e1]
  have e2 : j % 7 < (Ld.cells d.toList[j / 7]).length := hc
  rw [List.getElem?_eq_getElem e2, getElem!_pos (Ld.cells d.toList[j / 7]) (j % 7) e2]
theorem own_holdsK {w : World} {base n g cap : Nat} {l : List Ld} (h : w.ownsRow base 37 7 (.slice (some ⟨g, 0, none⟩) n cap) n (l.flatMap Ld.cells)) (hn : n = l.length) : HoldsK Ld.cells 7 w g 0 l.toArray := by
  obtain ⟨hlen, h⟩ := h
  rcases h with ⟨h1, _⟩ | ⟨g', cap', cur, h1, _, hg, _, _, _, htk⟩
  · cases h1
  · cases h1
    intro j hj
    rw [size_flatK] at hj
    simp only [List.size_toArray] at hj
    have hi : j / 7 < l.length := by omega
    have hc : j % 7 < 7 := by omega
    have e : j / 7 * 7 + j % 7 = j := by omega
    have f := flat_get (f := Ld.cells) (sz := 7) (fun _ => rfl) l (j / 7) (j % 7) hi hc
    rw [e] at f
    have e2 : j % 7 < (Ld.cells l[j / 7]).length := hc
    rw [get_flatK _ _ _ _ (by simpa using hj)]
    have e1 : l.toArray[j / 7]! = l[j / 7] := by
      rw [getElem!_pos l.toArray (j / 7) (by simpa using hi)]
      simp
    rw [e1]
    have e3 : cur[j]? = some ((Ld.cells l[j / 7])[j % 7]!) := by
      rw [List.getElem?_eq_getElem e2] at f
      rw [getElem!_pos (Ld.cells l[j / 7]) (j % 7) e2, ← f, ← htk, List.getElem?_take, if_pos (by omega)]
      simp
    refine ⟨?_, by simp [World.frozen?, hg]⟩
    simp [World.cell?, hg, e3]
theorem own_slice {w : World} {base n : Nat} {v : Value} {cs : List Value} (h : w.ownsRow base 37 7 v n cs) : (v = .slice none 0 0 ∧ n = 0) ∨ ∃ g cap, v = .slice (some ⟨g, 0, none⟩) n cap ∧ base ≤ g ∧ g < w.heap.size ∧ n ≤ cap ∧ cap ≤ maxLen := by
  rcases h.2 with ⟨h1, h2⟩ | ⟨g, cap, cur, h1, h2, h3, h4, h5, _⟩
  · exact .inl ⟨h1, h2⟩
  · exact .inr ⟨g, cap, h1, h2, lt_of_block h3, h4, h5⟩
theorem own_base {w : World} {base base' e sz n : Nat} {v : Value} {cs : List Value} (h : w.ownsRow base e sz v n cs) (hb : ∀ k, v.ownBlock = some k → base' ≤ k) : w.ownsRow base' e sz v n cs := by
  refine ⟨h.1, ?_⟩
  rcases h.2 with h1 | ⟨g, cap, cur, h1, h2, h3⟩
  · exact .inl h1
  · subst h1
    exact .inr ⟨g, cap, cur, rfl, hb g rfl, h3⟩
theorem lit07 (W : World) (n : Nat) (h : n = W.heap.size) : (W.alloc (.cells #[] 37)).ownsRow 0 37 7 (.slice (some ⟨n, 0, none⟩) 0 0) 0 [] := by
  subst h
  refine ⟨by simp, .inr ⟨W.heap.size, 0, #[], rfl, Nat.zero_le _, heap_alloc_new _ _, Nat.le_refl _, by unfold maxLen; omega, rfl, rfl⟩⟩
theorem flat_cell (l : List Ld) : ∀ u ∈ l.flatMap Ld.cells, u.oneCell' = true := by
  intro u hu
  obtain ⟨x, _, hx⟩ := List.mem_flatMap.1 hu
  exact ld_cell x u hx
/-- What Clone leaves. -/
def ClonePost (w : World) (n : Nat) (l : List Ld) (e : Ending) (w' : World) : Prop := ∃ v, e = .returned v ∧ w'.ownsRow w.heap.size 37 7 v n (l.flatMap Ld.cells) ∧ Below w.heap.size w w'
set_option maxRecDepth 20000 in
set_option maxHeartbeats 2000000 in
theorem clone_any (w : World) (ao : Option Addr) (n cap : Nat) (l : List Ld) (h : Lds w (.slice ao n cap) l) (hn : n = l.length) (hl : n ≤ 100) :
    Calls Tryd.prog 91 #[.slice ao n cap] w (ClonePost w n l) := by
  obtain ⟨i0, hi, hz0, hz1, hz2⟩ := info_parts infoLd
  have HN := Lib.hid hn
  have HH := Lib.hid h
  obtain ⟨ao', cap', e, _, _, hnil⟩ := h.shape
  injection e with e1 e2 e3
  subst e1 e3
  clear e2
  cases ao with
  | none =>
    obtain rfl : cap = 0 := hnil rfl
    have HE := Lib.hid (show l = [] by
      obtain ⟨_, _, e, h2, _⟩ := h.shape
      injection e with e1 e2 e3
      exact List.eq_nil_of_length_eq_zero (by omega))
    have e0 : n = 0 := by
      have := HN.out; rw [HE.out] at this; simpa using this
    subst e0
    clear h hn
    have heq0 : (binOp BinOp.eql 28 (.slice none 0 0) (.slice none 0 0)).run Tryd.prog w = .ok (.bool true) w := by kernel_rfl
    go_enter Tryd.func91, Tryd.ntmps91
    go_wp2
    go_ret
    refine ⟨_, rfl, ?_, Below.refl _ _⟩
    rw [HE.out]
    exact World.ownsRow_nil _ _ _ _
  | some a =>
    have HF := Lib.hid (flat_cell l)
    have HR := Lib.hid (h.below ((Below.refl w.heap.size w).alloc (Nat.le_refl _) (.cells #[] 37)))
    have HL := Lib.hid (lit07 w w.heap.size rfl)
    clear h hn hnil
    have heq0 : (binOp BinOp.eql 28 (.slice (some a) n cap) (.slice none 0 0)).run Tryd.prog w = .ok (.bool false) w := by kernel_rfl
    go_enter Tryd.func91, Tryd.ntmps91
    go_wp2_with (at_builtin; refine wpList_row rfl (.tmp 5) (.tmp 6) 28 rfl 37 i0 _ 7 64 Tryd.underlying28 hi hz0 hz1 hz2 rfl (by decide) _ 0 [] rfl HL.out (some a) n cap (l.flatMap Ld.cells) rfl (by have q := HR.out; unfold Lds at q; rw [← HN.out] at q; exact q) HF.out (by unfold maxLen; omega) (by omega) ?_; intro v2 w2 hown2 ht2 hk2; have HO := Lib.hid (And.intro hown2 (And.intro ht2 hk2)); clear hown2 ht2 hk2)
    go_ret
    obtain ⟨h1, h2, h3⟩ := HO.out
    rw [Nat.zero_add, List.nil_append] at h1
    refine ⟨_, rfl, own_base h1 (fun k hk => ?_), ?_⟩
    · rcases h3 k hk with e | e
      · cases e; exact Nat.le_refl _
      · simp at e; omega
    · refine (((Touch.refl (fun _ => False) w).alloc _).trans h2 (fun k e => ?_)).below (Nat.le_refl _) (fun _ e => e.elim)
      cases e
      exact .inr (Nat.le_refl _)


def FB : Value := .func (.func 93) #[] #[]
def StbPost (w : World) (g n : Nat) (l : List Ld) (e : Ending) (w' : World) : Prop :=
  e = .returned (.tuple #[]) ∧ ∃ d' : Array Ld, d'.size = n ∧ d'.toList.Perm l ∧ SortedIn (ltOf cmB) 0 n d' ∧ HoldsK Ld.cells 7 w' g 0 d' ∧ Touch (fun k => k = g) w w'
theorem permIn_all {d d' : Array Ld} {n : Nat} (h : PermIn 0 n d d') (hn : d.size = n) : d'.toList.Perm d.toList := by
  obtain ⟨h1, _, h2⟩ := h
  subst hn
  have e : List.take d.size d'.toList = d'.toList := List.take_of_length_le (by simp [h1])
  simpa [e] using h2
theorem permIn_none {d d' : Array Ld} {n : Nat} (h : PermIn n n d d') : d' = d := by
  obtain ⟨h1, h2, _⟩ := h
  refine Array.ext h1 (fun i hi1 hi2 => ?_)
  have := h2 i (by omega)
  rw [getElem!_pos d' i hi1, getElem!_pos d i hi2] at this
  exact this
theorem sortW_holds {w : World} {g n : Nat} {d d2 : Array Ld} {os : Array Obj} (h : HoldsK Ld.cells 7 w g 0 d) (hg : g < w.heap.size) (hs : d2.size = d.size) : HoldsK Ld.cells 7 (sortWorldK Ld.cells 7 w g 0 n d2 os) g 0 d2 :=
  SWK.holds (w0 := w) (dk := d2) ⟨n, os, rfl⟩ hg h hs
/-- One part sorted: what stands then. -/
def InsPost (w : World) (g a b : Nat) (d : Array Ld) (e : Ending) (w' : World) : Prop :=
  e = .returned (.tuple #[]) ∧ ∃ d' : Array Ld, PermIn a b d d' ∧ SortedIn (ltOf cmB) a b d' ∧ HoldsK Ld.cells 7 w' g 0 d' ∧ Touch (fun k => k = g) w w'
theorem insP (g cap a b n : Nat) (d : Array Ld) (w : World) (hH : HoldsK Ld.cells 7 w g 0 d) (hg : g < w.heap.size) (hab : a ≤ b) (hb : b ≤ n) (hn : d.size = n) (hn2 : n ≤ 20) :
    Calls Tryd.prog 111 #[.slice (some ⟨g, 0, none⟩) n cap, .int .i64 a, .int .i64 b, .func (.func 93) #[] #[]] w (InsPost w g a b d) := by
  subst hn
  refine (insL_any g 0 cap a b d w hH hg hab hb (by omega)).mono ?_
  rintro e w' ⟨rfl, n, os, rfl⟩
  obtain ⟨h1, h2⟩ := insertionSort_holds (lt := ltOf cmB) cmB_ok.swo d a b hab hb
  exact ⟨rfl, _, h1, h2, sortW_holds hH hg h1.1, sortW_touch _ _ _ _ _ _⟩
set_option maxHeartbeats 4000000 in
theorem stab_any (w : World) (g n cap : Nat) (d : Array Ld) (h : HoldsK Ld.cells 7 w g 0 d) (hg : g < w.heap.size) (hn : d.size = n) (h20 : n ≤ 20) :
    Calls Tryd.prog 109 #[.slice (some ⟨g, 0, none⟩) n cap, .int .i64 (n : Int), .func (.func 93) #[] #[]] w (StbPost w g n d.toList) := by
  have H := Lib.hid h
  have HN := Lib.hid hn
  have HG := Lib.hid hg
  clear h hn hg
  by_cases e : n = 20
  · subst e
    have HI := Lib.hid (insP g cap 0 20 20 d w H.out HG.out (by decide) (by decide) HN.out (by decide))
    go_enter Tryd.func109, Tryd.ntmps109
    go_wp2
    refine wp_loop_rounds 2 ?_
    rw [rounds_succ]
    go_wp2_with fail
    refine HI.out.mono ?_
    rintro e w1 ⟨rfl, d1, h1, h2, h3, h4⟩
    have hs1 := h1.1.trans HN.out
    have HI2 := Lib.hid (insP g cap 20 20 20 d1 w1 h3 (Nat.lt_of_lt_of_le HG.out h4.size) (by decide) (by decide) hs1 (by decide))
    have HQ := Lib.hid (And.intro h1 (And.intro h2 (And.intro h3 h4)))
    clear h1 h2 h3 h4 hs1
    go_wp2
    rw [rounds_succ]
    go_wp2_with fail
    refine HI2.out.mono ?_
    rintro e w2 ⟨rfl, d2, k1, k2, k3, k4⟩
    have HQ2 := Lib.hid (And.intro k1 (And.intro k2 (And.intro k3 k4)))
    clear k1 k2 k3 k4
    go_wp2
    refine wp_loop_rounds 1 ?_
    rw [rounds_succ]
    go_wp2
    go_end0
    obtain ⟨h1, h2, h3, h4⟩ := HQ.out
    obtain ⟨k1, k2, k3, k4⟩ := HQ2.out
    obtain rfl := permIn_none k1
    exact ⟨rfl, d2, h1.1.trans HN.out, permIn_all h1 HN.out, h2, k3, h4.trans k4 (fun x hx => .inl hx)⟩
  · have l1 : decide ((20 : Int) ≤ (n : Int)) = false := by rw [decide_eq_false_iff_not]; omega
    have l2 : decide ((20 : Int) < (n : Int)) = false := by rw [decide_eq_false_iff_not]; omega
    have HI := Lib.hid (insP g cap 0 n n d w H.out HG.out (Nat.zero_le _) (Nat.le_refl _) HN.out h20)
    go_enter Tryd.func109, Tryd.ntmps109
    go_wp2
    refine wp_loop_rounds 1 ?_
    rw [rounds_succ]
    go_wp2_with fail
    refine HI.out.mono ?_
    rintro e w1 ⟨rfl, d1, h1, h2, h3, h4⟩
    have HQ := Lib.hid (And.intro h1 (And.intro h2 (And.intro h3 h4)))
    clear h1 h2 h3 h4
    go_wp2
    refine wp_loop_rounds 1 ?_
    rw [rounds_succ]
    go_wp2
    go_end0
    obtain ⟨h1, h2, h3, h4⟩ := HQ.out
    exact ⟨rfl, d1, h1.1.trans HN.out, permIn_all h1 HN.out, h2, h3, h4⟩


theorem cmB_tier {x y : Ld} (h : ltOf cmB y x = false) : x.t ≤ y.t := by
  unfold ltOf cmB cm2 cmI at h
  by_cases hlt : y.t < x.t
  · simp [hlt] at h
  · omega
theorem sorted_list {d : Array Ld} {n : Nat} {R : Ld → Ld → Prop} (hn : d.size = n) (h : ∀ i j, i < j → j < n → R d[i]! d[j]!) : d.toList.Pairwise R := by
  rw [List.pairwise_iff_getElem]
  intro i j hi hj hij
  have hi' : i < d.size := by simpa using hi
  have hj' : j < d.size := by simpa using hj
  have := h i j hij (by omega)
  rw [getElem!_pos d i hi', getElem!_pos d j hj'] at this
  simpa using this
theorem insN (w : World) : Calls Tryd.prog 111 #[.slice none 0 0, .int .i64 0, .int .i64 0, .func (.func 93) #[] #[]] w fun e w' => e = .returned (.tuple #[]) ∧ w = w' := by
  go_enter Tryd.func111, Tryd.ntmps111
  go_wp2
  refine wp_loop_rounds 1 ?_
  rw [rounds_succ]
  go_wp2
  go_end0
  exact ⟨rfl, rfl⟩
theorem stabN (w : World) : Calls Tryd.prog 109 #[.slice none 0 0, .int .i64 0, .func (.func 93) #[] #[]] w fun e w' => e = .returned (.tuple #[]) ∧ w = w' := by
  have HI := Lib.hid (insN w)
  go_enter Tryd.func109, Tryd.ntmps109
  go_wp2
  refine wp_loop_rounds 1 ?_
  rw [rounds_succ]
  go_wp2_with fail
  refine HI.out.mono ?_
  rintro e w1 ⟨rfl, rfl⟩
  go_wp2
  refine wp_loop_rounds 1 ?_
  rw [rounds_succ]
  go_wp2
  go_end0
  exact ⟨rfl, rfl⟩
theorem sortS_any (w : World) (v : Value) (n : Nat) (ao : Option Addr) (cap : Nat) (hm : n ≤ 20) (G : Ending → World → Prop) (hc : Calls Tryd.prog 109 #[.slice ao n cap, .int .i64 (n : Int), .func (.func 93) #[] #[]] w fun e w' => e = .returned (.tuple #[]) ∧ G e w') :
    Calls Tryd.prog 92 #[.slice ao n cap, .func (.func 93) #[] #[]] w fun e w' => e = .returned (.tuple #[]) ∧ G e w' := by
  have HC := Lib.hid hc
  clear hc
  go_enter Tryd.func92, Tryd.ntmps92
  go_wp2_with fail
  refine HC.out.mono ?_
  rintro e w1 ⟨rfl, hG⟩
  have HG := Lib.hid hG
  clear hG
  go_wp2
  go_end0
  exact ⟨rfl, HG.out⟩
/-- A slice whose cells, if any, lie in a block made since. -/
def Fresh (w : World) (v : Value) : Prop := ∀ a m cap, v = .slice (some a) m cap → w.heap.size ≤ a.block
theorem fresh_nil (w : World) : Fresh w (.slice none 0 0) := fun a m cap h => by cases h
theorem fresh_at (w : World) (g m cap : Nat) (h : w.heap.size ≤ g) : Fresh w (.slice (some ⟨g, 0, none⟩) m cap) := fun a m2 cap2 e => by cases e; exact h
/-- What byPlace tells. -/
def ByPost (w : World) (l : List Ld) (e : Ending) (w' : World) : Prop := ∃ v ls, e = .returned v ∧ Lds w' v ls ∧ ls.Perm l ∧ ls.Pairwise (fun x y => x.t ≤ y.t) ∧ Below w.heap.size w w' ∧ Fresh w v
set_option maxHeartbeats 2000000 in
theorem byPlace_any (w : World) (ao : Option Addr) (n cap : Nat) (l : List Ld) (h : Lds w (.slice ao n cap) l) (hn : n = l.length) (hl : n ≤ 20) :
    Calls Tryd.prog 70 #[.slice ao n cap] w (ByPost w l) := by
  have HC := Lib.hid (clone_any w ao n cap l h hn (by omega))
  have HN := Lib.hid hn
  clear h hn
  go_enter Tryd.func70, Tryd.ntmps70
  go_wp2_with fail
  refine HC.out.mono ?_
  rintro e w1 ⟨v, rfl, hown, hb⟩
  have HB := Lib.hid hb
  clear hb HC
  rcases own_slice hown with ⟨rfl, h0⟩ | ⟨g, cap2, rfl, h1, h2, h3, h4⟩
  · have HS := Lib.hid (sortS_any w1 (.slice none 0 0) 0 none 0 (by decide) (fun e w' => w1 = w') (stabN w1))
    have HL := Lib.hid (show l = [] from List.eq_nil_of_length_eq_zero (by have := HN.out; omega))
    clear hown h0
    go_wp2_with fail
    refine HS.out.mono ?_
    rintro e w2 ⟨rfl, rfl⟩
    go_wp2
    go_ret
    exact ⟨_, [], rfl, Row.nil _ _, by rw [HL.out], by simp, HB.out, fresh_nil _⟩
  · have HH := own_holdsK hown HN.out
    have HS := Lib.hid (sortS_any w1 (.slice (some ⟨g, 0, none⟩) n cap2) n _ cap2 hl (fun e w' => StbPost w1 g n l e w') ((stab_any w1 g n cap2 l.toArray HH h2 (by simpa using HN.out.symm) hl).mono fun e w' hh => ⟨hh.1, by simpa using hh⟩))
    have HG := Lib.hid (And.intro h1 (And.intro h2 (And.intro h3 h4)))
    clear hown HH h1 h2 h3 h4
    go_wp2_with fail
    refine HS.out.mono ?_
    rintro e w2 ⟨rfl, -, d', k1, k2, k3, k4, k5⟩
    have HK := Lib.hid (And.intro k1 (And.intro k2 (And.intro k3 (And.intro k4 k5))))
    clear k1 k2 k3 k4 k5 HS
    go_wp2
    go_ret
    obtain ⟨k1, k2, k3, k4, k5⟩ := HK.out
    obtain ⟨h1, h2, h3, h4⟩ := HG.out
    refine ⟨_, d'.toList, rfl, holdsK_lds k4 (by omega) h4 n k1.symm, k2, sorted_list k1 (fun i j hij hj => cmB_tier (k3 i j (Nat.zero_le _) hij hj)), HB.out.trans (k5.below HB.out.size (fun x hx => hx ▸ h1)), fresh_at _ _ _ _ h1⟩
end Go.Proofs.YtllaahdbngjigaaDoor
