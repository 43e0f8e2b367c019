/-
  trim. (Put together of XTrm, XTsm, XMrg.)
-/
import Derived.Test.YtllaahdbngjigaaDoorShip
import Derived.StillTailTactics
namespace Go.Proofs.YtllaahdbngjigaaDoor
open Go Go.RowKit Go.Maps
set_option linter.unusedVariables false
set_option linter.unusedSimpArgs false

def absZ (n : Int) : Int := max n (-n)
theorem tsize_any (n : Int) (h : -1000000 ≤ n ∧ n ≤ 1000000) (w : World) : Calls Tryd.prog 69 #[.int .i64 n] w fun e w' => e = .returned (.int .i64 (absZ n)) ∧ w = w' := by
  unfold absZ
  go_enter Tryd.func69, Tryd.ntmps69
  go_wp2
  all_goals
    go_ret
    refine ⟨?_, rfl⟩
    first
      | (show Ending.returned (.int .i64 (-n)) = Ending.returned (.int .i64 (max n (-n))); rw [show max n (-n) = -n by omega])
      | (show Ending.returned (.int .i64 n) = Ending.returned (.int .i64 (max n (-n))); rw [show max n (-n) = n by omega])
set_option maxRecDepth 20000 in
set_option maxHeartbeats 2000000 in
theorem isOn_ok (s : Shp) (x : Ld) (hx : x.fine) (ho : hasB s x = true) (w : World) :
    Calls Tryd.prog 68 #[.agg #[.string ⟨#[115, 104, 105, 112]⟩, .int .i64 s.bays, .int .i64 s.rows, .int .i64 s.tiers, .int .i64 s.stack, .int .i64 40, .int .i64 40, .int .i64 60, .int .i64 s.most], .agg #[.int .i64 x.b, .int .i64 x.r, .int .i64 x.t]] w fun e w' => e = .returned (.bool true) ∧ Below w.heap.size w w' := by
  have m1 := hx.b.1
  have m2 := hx.r.1
  have m3 := hx.t.1
  simp [hasB] at ho
  obtain ⟨⟨o1, o2⟩, o3⟩ := ho
  have d1 : decide (0 ≤ x.b) = true := by simp; omega
  have d2 : decide (x.b < s.bays) = true := by simp; omega
  have d3 : decide (0 ≤ x.r) = true := by simp; omega
  have d4 : decide (x.r < s.rows) = true := by simp; omega
  have d5 : decide (0 ≤ x.t) = true := by simp; omega
  have d6 : decide (x.t < s.tiers) = true := by simp; omega
  clear hx o1 o2 o3 m1 m2 m3
  go_enter Tryd.func68, Tryd.ntmps68
  go_wp2
  go_ret
  exact ⟨rfl, ((Below.refl _ _).alloc (Nat.le_refl _) _).alloc (by simp) _⟩


def keyT (x : Ld) : Value × Value := (slotV x.b x.r x.t, .bool true)
theorem keysT {L : List Ld} (hL : ∀ x ∈ L, x.fine) : KeysAt Tryd.prog 35 (L.map keyT) := by
  intro p hp
  obtain ⟨x, hx, rfl⟩ := List.mem_map.1 hp
  have h := hL x hx
  exact slot_key (by have := h.b; omega) (by have := h.r; omega) (by have := h.t; omega)
theorem bool_zero (w : World) : (zeroValue 4).run Tryd.prog w = .ok (.bool false) w := by kernel_rfl
set_option maxRecDepth 20000 in
/-- A slot that isn't taken. -/
theorem free_look {w : World} {b : Nat} {L : List Ld} {x : Ld} (h : MP w b (L.map keyT)) (hL : ∀ x ∈ L, x.fine) (hx : x.fine) (hn : ∀ y ∈ L, slotNe y x) : (Instr.lookup 130 (.map (some b)) (.agg #[.int .i64 x.b, .int .i64 x.r, .int .i64 x.t]) false).run Tryd.prog w = .ok (.bool false) w := by
  obtain ⟨l, hl⟩ := slot_key (b := x.b) (r := x.r) (t := x.t) (by have := hx.b; omega) (by have := hx.r; omega) (by have := hx.t; omega)
  rcases mp_look slotK Tryd.underlying130 h (keysT hL) hl (bool_zero w) false with ⟨v, hv, e⟩ | ⟨_, e⟩
  · obtain ⟨y, hy, e2⟩ := List.mem_map.1 hv
    unfold keyT at e2
    injection e2 with e2 e3
    exact absurd (slot_inj e2) (hn y hy)
  · exact e
set_option maxRecDepth 20000 in
theorem free_set {w : World} {b : Nat} {L : List Ld} {x : Ld} (h : MP w b (L.map keyT)) (hL : ∀ x ∈ L, x.fine) (hx : x.fine) (hn : ∀ y ∈ L, slotNe y x) :
    ∃ w', (Instr.mapUpdate 130 (.map (some b)) (.agg #[.int .i64 x.b, .int .i64 x.r, .int .i64 x.t]) (.bool true)).run Tryd.prog w = .ok () w' ∧ MP w' b ((L ++ [x]).map keyT) ∧ Touch (fun k => k = b) w w' := by
  obtain ⟨l, hl⟩ := slot_key (b := x.b) (r := x.r) (t := x.t) (by have := hx.b; omega) (by have := hx.r; omega) (by have := hx.t; omega)
  obtain ⟨w', r, m, t⟩ := mp_new slotK Tryd.underlying130 h (keysT hL) hl (by
    intro p hp e
    obtain ⟨y, hy, rfl⟩ := List.mem_map.1 hp
    exact hn y hy (slot_inj e)) (.bool true)
  exact ⟨w', r, by rw [List.map_append]; exact m, t⟩

def lonT (s : Shp) (x : Ld) : Int := x.wt * (2 * x.b - s.bays + 1)
def croT (s : Shp) (x : Ld) : Int := x.wt * (2 * x.r - s.rows + 1)
def uppT (x : Ld) : Int := x.wt * x.t
def sumB (f : Ld → Int) (L : List Ld) : Int := (L.map f).sum
theorem sumB_take (f : Ld → Int) {L : List Ld} {k : Nat} {x : Ld} (h : L[k]? = some x) : sumB f (L.take (k + 1)) = sumB f (L.take k) + f x := by
  obtain ⟨hk, e⟩ := List.getElem?_eq_some_iff.1 h
  rw [List.take_succ_eq_append_getElem hk, e]
  simp [sumB, List.sum_append_int]
theorem sumB_bd (f : Ld → Int) (B : Int) : ∀ (L : List Ld), (∀ x ∈ L, -B ≤ f x ∧ f x ≤ B) → -(L.length * B) ≤ sumB f L ∧ sumB f L ≤ L.length * B
  | [], _ => by simp [sumB]
  | x :: L, h => by
    have h1 := sumB_bd f B L (fun y hy => h y (by simp [hy]))
    have h2 := h x (by simp)
    have e : sumB f (x :: L) = f x + sumB f L := by simp [sumB]
    have e2 : ((x :: L).length : Int) * B = L.length * B + B := by
      show ((L.length + 1 : Nat) : Int) * B = _
      rw [Int.natCast_succ, Int.add_mul, Int.one_mul]
    rw [e, e2]
    omega
theorem prod_bd {a b : Int} (ha : 1 ≤ a ∧ a ≤ 256) (hb : -4 ≤ b ∧ b ≤ 8) : -4096 ≤ a * b ∧ a * b ≤ 4096 := by
  have h1 : a * b ≤ a * 8 := Int.mul_le_mul_of_nonneg_left hb.2 (by omega)
  have h2 : a * (-4) ≤ a * b := Int.mul_le_mul_of_nonneg_left hb.1 (by omega)
  omega
theorem lonT_bd {s : Shp} {x : Ld} (hs : s.fine) (hx : x.fine) : -4096 ≤ lonT s x ∧ lonT s x ≤ 4096 := prod_bd hx.wt (by have := hs.bays; have := hx.b; omega)
theorem croT_bd {s : Shp} {x : Ld} (hs : s.fine) (hx : x.fine) : -4096 ≤ croT s x ∧ croT s x ≤ 4096 := prod_bd hx.wt (by have := hs.rows; have := hx.r; omega)
theorem uppT_bd {x : Ld} (hx : x.fine) : -4096 ≤ uppT x ∧ uppT x ≤ 4096 := prod_bd hx.wt (by have := hx.t; omega)

/-- Loads that fit the ship. -/
structure Fit (s : Shp) (L : List Ld) : Prop where
  on : ∀ x ∈ L, hasB s x = true
  ne : L.Pairwise slotNe
  fine : ∀ x ∈ L, x.fine
  len : L.length ≤ 20
/-- The state of sum's loop. -/
structure SumI (w w1 wr : World) (M T : Nat) (s : Shp) (L : List Ld) (k : Nat) : Prop where
  m : wr.heap[M]? = some (.cells #[.int .i64 (sumB (lonT s) (L.take k)), .int .i64 (sumB (croT s) (L.take k)), .int .i64 (sumB uppT (L.take k)), .int .i64 (wsum (L.take k))] 86 (0, 0))
  t : MP wr T ((L.take k).map keyT)
  r : wr.heap[w.heap.size + 1]? = some (.cells #[.int .i64 0, .int .i64 0, .int .i64 0, .int .i64 0] 86 (0, 0))
  q : ShAt wr w.heap.size s
  below : Below w.heap.size w wr
theorem sum_step {w w1 wr w3 : World} {M T : Nat} {s : Shp} {L : List Ld} {k : Nat} {x : Ld} (h : SumI w w1 wr M T s L k) (hx : L[k]? = some x) (hb : w.heap.size + 1 < M) (hMT : M < T) (hT : T < wr.heap.size)
    (ht : Touch (fun b => b = T) wr w3) (hm : MP w3 T ((L.take k ++ [x]).map keyT)) :
    SumI w w1 ((((w3.setCell ⟨M, 0, none⟩ (.int .i64 (sumB (lonT s) (L.take k) + lonT s x))).setCell ⟨M, 1, none⟩ (.int .i64 (sumB (croT s) (L.take k) + croT s x))).setCell ⟨M, 2, none⟩ (.int .i64 (sumB uppT (L.take k) + uppT x))).setCell ⟨M, 3, none⟩ (.int .i64 (wsum (L.take k) + x.wt))) M T s L (k + 1) := by
  obtain ⟨hk, ek⟩ := List.getElem?_eq_some_iff.1 hx
  have et : L.take (k + 1) = L.take k ++ [x] := by rw [List.take_succ_eq_append_getElem hk, ek]
  have t4 : ∀ (W : World) (b : Nat) (v0 v1 v2 v3 : Value), Touch (fun j => j = b) W ((((W.setCell ⟨b, 0, none⟩ v0).setCell ⟨b, 1, none⟩ v1).setCell ⟨b, 2, none⟩ v2).setCell ⟨b, 3, none⟩ v3) := fun W b v0 v1 v2 v3 =>
    ((((Touch.refl (fun j => j = b) W).setCell (p := ⟨b, 0, none⟩) (.inl rfl) v0).setCell (p := ⟨b, 1, none⟩) (.inl rfl) v1).setCell (p := ⟨b, 2, none⟩) (.inl rfl) v2).setCell (p := ⟨b, 3, none⟩) (.inl rfl) v3
  have hm3 : w3.heap[M]? = _ := (ht.block M (by omega) (by omega)).trans h.m
  have tt := t4 w3 M (.int .i64 (sumB (lonT s) (L.take k) + lonT s x)) (.int .i64 (sumB (croT s) (L.take k) + croT s x)) (.int .i64 (sumB uppT (L.take k) + uppT x)) (.int .i64 (wsum (L.take k) + x.wt))
  have t5 : Touch (fun b => b = T ∨ b = M) wr _ := (ht.mono (S' := fun b => b = T ∨ b = M) (fun b e => .inl e)).trans tt (fun b e => .inl (.inr e))
  refine ⟨?_, ?_, ?_, ?_, ?_⟩
  · rw [hs_set (hs_set (hs_set (hs_set hm3))), sumB_take _ hx, sumB_take _ hx, sumB_take _ hx, wsum_take hx]
    rfl
  · rw [et]; exact hm.touch tt (by omega)
  · exact (t5.block _ (by omega) (by omega)).trans h.r
  · have e : ∀ j v, wr.cell? ⟨w.heap.size, j, none⟩ = some v → ((((w3.setCell ⟨M, 0, none⟩ (.int .i64 (sumB (lonT s) (L.take k) + lonT s x))).setCell ⟨M, 1, none⟩ (.int .i64 (sumB (croT s) (L.take k) + croT s x))).setCell ⟨M, 2, none⟩ (.int .i64 (sumB uppT (L.take k) + uppT x))).setCell ⟨M, 3, none⟩ (.int .i64 (wsum (L.take k) + x.wt))).cell? ⟨w.heap.size, j, none⟩ = some v := fun j v hv =>
      cell_touch hv t5 (by show ¬ (w.heap.size = T ∨ w.heap.size = M); omega)
    exact ⟨e _ _ h.q.c0, e _ _ h.q.c1, e _ _ h.q.c2, e _ _ h.q.c3, e _ _ h.q.c4, e _ _ h.q.c5, e _ _ h.q.c6, e _ _ h.q.c7, e _ _ h.q.c8⟩
  · exact h.below.trans (t5.below h.below.size (fun b e => by rcases e with e | e <;> omega))
/-- What sum tells. -/
def SumPost (w : World) (s : Shp) (L : List Ld) (e : Ending) (w' : World) : Prop :=
  e = .returned (.tuple #[.agg #[.int .i64 (sumB (lonT s) L), .int .i64 (sumB (croT s) L), .int .i64 (sumB uppT L), .int .i64 (wsum L)], .bool true]) ∧ Below w.heap.size w w'
set_option maxRecDepth 100000 in
set_option maxHeartbeats 8000000 in
theorem sum_fit (w : World) (s : Shp) (hs : s.fine) (ao : Option Addr) (n cap : Nat) (L : List Ld) (h : Lds w (.slice ao n cap) L) (hn : n = L.length) (hf : Fit s L) :
    Calls Tryd.prog 40 #[.agg #[.string ⟨#[115, 104, 105, 112]⟩, .int .i64 s.bays, .int .i64 s.rows, .int .i64 s.tiers, .int .i64 s.stack, .int .i64 40, .int .i64 40, .int .i64 60, .int .i64 s.most], .slice ao n cap] w (SumPost w s L) := by
  have HM := Lib.hid (fun W => shipMay_ok s hs W)
  have HN := Lib.hid hn
  have HF := Lib.hid hf
  have HS := Lib.hid hs
  have hn20 : n ≤ 20 := by rw [hn]; exact hf.len
  have d20 : decide ((4096 : Int) < (n : Int)) = false := by rw [decide_eq_false_iff_not]; omega
  have hmm := @run_makeMap Tryd.prog
  obtain ⟨c0, c1, c2, c3, c4, c5, c6, c7, c8⟩ := (boxS_at w s).below ((Below.refl _ _).alloc (Nat.le_refl _) (.cells #[.int .i64 0, .int .i64 0, .int .i64 0, .int .i64 0] 86))
  have HH := Lib.hid h
  clear h hn hf hs
  unfold Shp.val at HM
  unfold boxS at c0 c1 c2 c3 c4 c5 c6 c7 c8
  go_enter Tryd.func40, Tryd.ntmps40
  go_wp2_with fail
  refine (HM.out _).mono ?_
  rintro e w1 ⟨rfl, hb⟩
  have HB := Lib.hid hb
  clear hb c0 c1 c2 c3 c4 c5 c6 c7 c8
  go_wp2
  go_loopw [23] (fun i wr => ∃ k : Nat, k ≤ n ∧ i = .int .i64 (k : Int) ∧ Hid (SumI w w1 wr w1.heap.size (w1.heap.size + 1) s L k ∧ w1.heap.size + 1 < wr.heap.size)) (fun i _ => n - (intOf i).toNat)
  case atStart =>
    have hbA : Below (w.heap.size + 2) ((boxS w s).alloc (.cells #[.int .i64 0, .int .i64 0, .int .i64 0, .int .i64 0] 86)) w1 := by
      have e : ((boxS w s).alloc (.cells #[.int .i64 0, .int .i64 0, .int .i64 0, .int .i64 0] 86)).heap.size = w.heap.size + 2 := by simp [boxS]
      rw [← e]; exact HB.out
    have hsz : w.heap.size + 2 ≤ w1.heap.size := by have := hbA.size; simpa [boxS] using this
    have hbB : Below w1.heap.size w1 ((w1.alloc (.cells #[.int .i64 0, .int .i64 0, .int .i64 0, .int .i64 0] 86)).alloc (.map #[] 0)) := ((Below.refl _ _).alloc (Nat.le_refl _) _).alloc (by simp) _
    have e1 : (boxS w s).heap.size = w.heap.size + 1 := by simp [boxS]
    have e2 : (w1.alloc (.cells #[.int .i64 0, .int .i64 0, .int .i64 0, .int .i64 0] 86)).heap.size = w1.heap.size + 1 := by simp
    refine ⟨0, Nat.zero_le _, rfl, Lib.hid ⟨⟨?_, ?_, ?_, ?_, ?_⟩, by simp⟩⟩
    · rw [Below.heap_alloc _ _ _ (by simp)]
      exact heap_alloc_new w1 _
    · have := MP.new (w1.alloc (.cells #[.int .i64 0, .int .i64 0, .int .i64 0, .int .i64 0] 86))
      rw [e2] at this
      simpa using this
    · rw [hbB.block _ (by omega), hbA.block _ (by omega), ← e1]
      exact heap_alloc_new _ _
    · exact (((boxS_at w s).below ((Below.refl _ _).alloc (Nat.le_refl _) _)).below HB.out).below hbB
    · exact btw (btw (btw (boxS_below w s) ((Below.refl _ _).alloc (Nat.le_refl _) _)) HB.out) hbB
  case round =>
    obtain ⟨k, hk, rfl, HI⟩ := hrel
    by_cases hlt : k < n
    · have l1 : (k : Int) < (n : Int) := by omega
      have l0 : (0 : Int) ≤ (k : Int) := by omega
      obtain ⟨ab, aoff, rfl, hab, hat⟩ := HH.out.get HN.out (by omega)
      obtain ⟨x, hx⟩ : ∃ x, L[k]? = some x := ⟨_, List.getElem?_eq_getElem (by rw [← HN.out]; exact hlt)⟩
      have hsz : w.heap.size + 2 ≤ w1.heap.size := by have := HB.out.size; simpa [boxS] using this
      obtain ⟨y0, y1, y2, y3, y4, y5, y6⟩ := (hat k x hx).below HI.out.1.below
      have hxm := List.mem_of_getElem? hx
      have hfx := HF.out.fine x hxm
      have hne : ∀ y ∈ L.take k, slotNe y x := by
        obtain ⟨hkl, ek⟩ := List.getElem?_eq_some_iff.1 hx
        intro y hy
        obtain ⟨i, hi, rfl⟩ := List.mem_iff_getElem.1 hy
        have hik : i < k := by simp at hi; omega
        have := List.pairwise_iff_getElem.1 HF.out.ne i k (by omega) hkl hik
        rw [ek] at this
        simpa using this
      have hbx := (Below.refl wr.heap.size wr).alloc (Nat.le_refl _) (.cells #[.int .i64 x.b, .int .i64 x.r, .int .i64 x.t, .string x.nm, .int .i64 x.wt, .int .i64 x.cl, .int .i64 x.pt] 37)
      obtain ⟨g0, g1, g2, g3, g4, g5, g6, g7, g8⟩ := HI.out.1.q.below hbx
      have HOn := Lib.hid (isOn_ok s x hfx (HF.out.on x hxm) (wr.alloc (.cells #[.int .i64 x.b, .int .i64 x.r, .int .i64 x.t, .string x.nm, .int .i64 x.wt, .int .i64 x.cl, .int .i64 x.pt] 37)))
      have HX := Lib.hid hx
      have HFx := Lib.hid hfx
      have HNe := Lib.hid hne
      have HBx := Lib.hid hbx
      clear hat hx hxm hne hfx hbx
      go_wp2_with fail
      refine HOn.out.mono ?_
      rintro e w2 ⟨rfl, hb2⟩
      obtain ⟨hI, hTlt⟩ := HI.out
      have hT2 := (hI.t.below HBx.out).below hb2
      have hLt : ∀ y ∈ L.take k, y.fine := fun y hy => HF.out.fine y (List.mem_of_mem_take hy)
      have hlk := free_look hT2 hLt HFx.out HNe.out
      obtain ⟨w3, hst, hm3, ht3⟩ := free_set hT2 hLt HFx.out HNe.out
      have bx2 := (LdAt.of_block (x := x) (heap_alloc_new wr (.cells #[.int .i64 x.b, .int .i64 x.r, .int .i64 x.t, .string x.nm, .int .i64 x.wt, .int .i64 x.cl, .int .i64 x.pt] 37))).below hb2
      have q2 := (hI.q.below HBx.out).below hb2
      have hnT1 : ¬ wr.heap.size = w1.heap.size + 1 := by omega
      have hnT2 : ¬ w.heap.size = w1.heap.size + 1 := by omega
      have hnT3 : ¬ w1.heap.size = w1.heap.size + 1 := by omega
      obtain ⟨a0, a1, a2, -, a4, -, -⟩ := bx2
      have b0 := cell_touch a0 ht3 hnT1
      have b1 := cell_touch a1 ht3 hnT1
      have b2 := cell_touch a2 ht3 hnT1
      have b4 := cell_touch a4 ht3 hnT1
      have r1 := cell_touch q2.c1 ht3 hnT2
      have r2 := cell_touch q2.c2 ht3 hnT2
      have hM2 := (hb2.block w1.heap.size (by simp; omega)).trans ((Below.heap_alloc _ _ w1.heap.size (by omega)).trans hI.m)
      have hM3 := (ht3.block w1.heap.size (lt_of_block hM2) hnT3).trans hM2
      have hx := HFx.out
      have hs := HS.out
      have bl := sumB_bd (lonT s) 4096 (L.take k) (fun y hy => lonT_bd hs (hLt y hy))
      have bc := sumB_bd (croT s) 4096 (L.take k) (fun y hy => croT_bd hs (hLt y hy))
      have bu := sumB_bd uppT 4096 (L.take k) (fun y hy => uppT_bd (hLt y hy))
      have bw := wsum_bd (L.take k) hLt
      have hlen : (L.take k).length ≤ 20 := by simp; omega
      have HSt := Lib.hid (sum_step (w3 := w3) hI HX.out (by omega) (by omega) hTlt ((Touch.of_below (HBx.out.trans (hb2.mono HBx.out.size))).trans ht3 (fun b e => .inl e)) (by rw [List.map_append] at hm3 ⊢; exact hm3))
      have HSz := Lib.hid (show w1.heap.size + 1 < w3.heap.size by have := ht3.size; have := lt_of_block hM2; have := hT2.lt; omega)
      obtain ⟨lo, hlo⟩ : ∃ z, z = sumB (lonT s) (L.take k) := ⟨_, rfl⟩
      obtain ⟨cr, hcr⟩ : ∃ z, z = sumB (croT s) (L.take k) := ⟨_, rfl⟩
      obtain ⟨up, hup⟩ : ∃ z, z = sumB uppT (L.take k) := ⟨_, rfl⟩
      obtain ⟨wt, hwt⟩ : ∃ z, z = wsum (L.take k) := ⟨_, rfl⟩
      rw [← hlo, ← hcr, ← hup, ← hwt] at hM3 HSt
      rw [← hlo] at bl
      rw [← hcr] at bc
      rw [← hup] at bu
      rw [← hwt] at bw
      have M0 : w3.cell? ⟨w1.heap.size, 0, none⟩ = some (.int .i64 lo) := by simp [World.cell?, hM3]
      have M1 : w3.cell? ⟨w1.heap.size, 1, none⟩ = some (.int .i64 cr) := by simp [World.cell?, hM3]
      have M2 : w3.cell? ⟨w1.heap.size, 2, none⟩ = some (.int .i64 up) := by simp [World.cell?, hM3]
      have M3 : w3.cell? ⟨w1.heap.size, 3, none⟩ = some (.int .i64 wt) := by simp [World.cell?, hM3]
      have F0 : ∀ j, w3.frozen? ⟨w1.heap.size, j, none⟩ = false := fun j => by simp [World.frozen?, hM3]
      have f0 := F0 0
      have f1 := F0 1
      have f2 := F0 2
      have f3 := F0 3
      have p1b := lonT_bd hs hx
      have p2b := croT_bd hs hx
      have p3b := uppT_bd hx
      obtain ⟨p1, hp1⟩ : ∃ z, z = lonT s x := ⟨_, rfl⟩
      obtain ⟨p2, hp2⟩ : ∃ z, z = croT s x := ⟨_, rfl⟩
      obtain ⟨p3, hp3⟩ : ∃ z, z = uppT x := ⟨_, rfl⟩
      rw [← hp1] at p1b HSt
      rw [← hp2] at p2b HSt
      rw [← hp3] at p3b HSt
      have e1 : x.wt * (2 * x.b - s.bays + 1) = p1 := hp1.symm
      have e2 : x.wt * (2 * x.r - s.rows + 1) = p2 := hp2.symm
      have e3 : x.wt * x.t = p3 := hp3.symm
      have k1 := hx.b
      have k2 := hx.r
      have k3 := hx.t
      have k4 := hx.wt
      have k5 := hs.bays
      have k6 := hs.rows
      have cl : -100000 ≤ lo ∧ lo ≤ 100000 := by omega
      have cc : -100000 ≤ cr ∧ cr ≤ 100000 := by omega
      have cu : -100000 ≤ up ∧ up ≤ 100000 := by omega
      have cw : 0 ≤ wt ∧ wt ≤ 100000 := by omega
      have d1 : decide (x.wt < 1) = false := by rw [decide_eq_false_iff_not]; omega
      have d2 : decide (1048576 < x.wt) = false := by rw [decide_eq_false_iff_not]; omega
      have n1 : ¬ w1.heap.size = wr.heap.size := by omega
      have n2 : ¬ wr.heap.size = w1.heap.size := by omega
      have n3 : ¬ w.heap.size = w1.heap.size := by omega
      have n4 : ¬ w1.heap.size = w.heap.size := by omega
      clear hI hT2 hLt hm3 ht3 hb2 q2 hnT1 hnT2 hnT3 hM2 hM3 hx hs bl bc bu bw hlen hlo hcr hup hwt F0 hp1 hp2 hp3 y0 y1 y2 y3 y4 y5 y6 g0 g1 g2 g3 g4 g5 g6 g7 g8 hsz
      go_wp2
      go_roundw
      case rel => exact ⟨k + 1, by omega, by go_num, Lib.hid ⟨HSt.out, by simpa [World.setCell] using HSz.out⟩⟩
      case measure => simp [intOf]; omega
    · obtain rfl : k = n := by omega
      obtain ⟨hI, hTlt⟩ := HI.out
      have hsz : w.heap.size + 2 ≤ w1.heap.size := by have := HB.out.size; simpa [boxS] using this
      have hM := hI.m
      have hR := hI.r
      rw [List.take_of_length_le (by rw [← HN.out]; exact Nat.le_refl _)] at hM
      have HBl := Lib.hid hI.below
      obtain ⟨lo, hlo⟩ : ∃ z, z = sumB (lonT s) L := ⟨_, rfl⟩
      obtain ⟨cr, hcr⟩ : ∃ z, z = sumB (croT s) L := ⟨_, rfl⟩
      obtain ⟨up, hup⟩ : ∃ z, z = sumB uppT L := ⟨_, rfl⟩
      obtain ⟨wt, hwt⟩ : ∃ z, z = wsum L := ⟨_, rfl⟩
      rw [← hlo, ← hcr, ← hup, ← hwt] at hM
      have HE := Lib.hid (show SumPost w s L = fun e w' => e = .returned (.tuple #[.agg #[.int .i64 lo, .int .i64 cr, .int .i64 up, .int .i64 wt], .bool true]) ∧ Below w.heap.size w w' by rw [hlo, hcr, hup, hwt]; rfl)
      have M0 : wr.cell? ⟨w1.heap.size, 0, none⟩ = some (.int .i64 lo) := by simp [World.cell?, hM]
      have M1 : wr.cell? ⟨w1.heap.size, 1, none⟩ = some (.int .i64 cr) := by simp [World.cell?, hM]
      have M2 : wr.cell? ⟨w1.heap.size, 2, none⟩ = some (.int .i64 up) := by simp [World.cell?, hM]
      have M3 : wr.cell? ⟨w1.heap.size, 3, none⟩ = some (.int .i64 wt) := by simp [World.cell?, hM]
      have R0 : wr.cell? ⟨w.heap.size + 1, 0, none⟩ = some (.int .i64 0) := by simp [World.cell?, hR]
      have R1 : wr.cell? ⟨w.heap.size + 1, 1, none⟩ = some (.int .i64 0) := by simp [World.cell?, hR]
      have R2 : wr.cell? ⟨w.heap.size + 1, 2, none⟩ = some (.int .i64 0) := by simp [World.cell?, hR]
      have R3 : wr.cell? ⟨w.heap.size + 1, 3, none⟩ = some (.int .i64 0) := by simp [World.cell?, hR]
      have F0 : ∀ j, wr.frozen? ⟨w.heap.size + 1, j, none⟩ = false := fun j => by simp [World.frozen?, hR]
      have f0 := F0 0
      have f1 := F0 1
      have f2 := F0 2
      have f3 := F0 3
      clear hI hTlt hM hR hlo hcr hup hwt F0 HI
      go_wp2
      rw [HE.out]
      refine bodyPost_ret (v := .tuple #[.agg #[.int .i64 lo, .int .i64 cr, .int .i64 up, .int .i64 wt], .bool true]) ?_ rfl ?_
      · simp [results, Tryd.results40, go_sem, R0, R1, R2, R3]
      · refine ⟨rfl, ?_⟩
        exact (((HBl.out.setCell (p := ⟨w.heap.size + 1, 0, none⟩) (by show w.heap.size ≤ w.heap.size + 1; omega) _).setCell (p := ⟨w.heap.size + 1, 1, none⟩) (by show w.heap.size ≤ w.heap.size + 1; omega) _).setCell (p := ⟨w.heap.size + 1, 2, none⟩) (by show w.heap.size ≤ w.heap.size + 1; omega) _).setCell (p := ⟨w.heap.size + 1, 3, none⟩) (by show w.heap.size ≤ w.heap.size + 1; omega) _


/-- What margins tells. -/
def MrgPost (w : World) (m1 m2 m3 m4 : Int) (e : Ending) (w' : World) : Prop :=
  e = .returned (.agg #[.string ⟨#[116, 114, 105, 109]⟩, .int .i64 m1, .string ⟨#[108, 105, 115, 116]⟩, .int .i64 m2, .string ⟨#[117, 112]⟩, .int .i64 m3, .string ⟨#[109, 111, 115, 116]⟩, .int .i64 m4]) ∧ Below w.heap.size w w'
set_option maxRecDepth 100000 in
set_option maxHeartbeats 8000000 in
theorem margins_any (w : World) (s : Shp) (hs : s.fine) (lo cr up wt : Int) (h1 : -100000 ≤ lo ∧ lo ≤ 100000) (h2 : -100000 ≤ cr ∧ cr ≤ 100000) (h3 : -100000 ≤ up ∧ up ≤ 100000) (h4 : 0 ≤ wt ∧ wt ≤ 100000) :
    Calls Tryd.prog 41 #[.agg #[.string ⟨#[115, 104, 105, 112]⟩, .int .i64 s.bays, .int .i64 s.rows, .int .i64 s.tiers, .int .i64 s.stack, .int .i64 40, .int .i64 40, .int .i64 60, .int .i64 s.most], .agg #[.int .i64 lo, .int .i64 cr, .int .i64 up, .int .i64 wt]] w (MrgPost w (40 * wt - absZ lo) (40 * wt - absZ cr) (60 * wt - up) (s.most - wt)) := by
  have k5 := hs.most
  have a1 : 0 ≤ absZ lo ∧ absZ lo ≤ 100000 := by unfold absZ; omega
  have a2 : 0 ≤ absZ cr ∧ absZ cr ≤ 100000 := by unfold absZ; omega
  have HT := Lib.hid (fun n (h : -1000000 ≤ n ∧ n ≤ 1000000) w => tsize_any n h w)
  have HT1 := Lib.hid (fun w => HT.out lo (by omega) w)
  have HT2 := Lib.hid (fun w => HT.out cr (by omega) w)
  obtain ⟨z1, hz1⟩ : ∃ z, z = absZ lo := ⟨_, rfl⟩
  obtain ⟨z2, hz2⟩ : ∃ z, z = absZ cr := ⟨_, rfl⟩
  rw [← hz1] at a1 HT1
  rw [← hz2] at a2 HT2
  rw [← hz1, ← hz2]
  obtain ⟨mo, hmo⟩ : ∃ z, z = s.most := ⟨_, rfl⟩
  have v1 : IntKind.i64.wrap (40 * wt) = 40 * wt := IntWalk.i64_in _ (by omega)
  have v2 : IntKind.i64.wrap (40 * wt - z1) = 40 * wt - z1 := IntWalk.i64_in _ (by omega)
  have v3 : IntKind.i64.wrap (40 * wt - z2) = 40 * wt - z2 := IntWalk.i64_in _ (by omega)
  have v4 : IntKind.i64.wrap (60 * wt) = 60 * wt := IntWalk.i64_in _ (by omega)
  have v5 : IntKind.i64.wrap (60 * wt - up) = 60 * wt - up := IntWalk.i64_in _ (by omega)
  have v6 : IntKind.i64.wrap (s.most - wt) = s.most - wt := IntWalk.i64_in _ (by omega)
  obtain ⟨W1, hW1⟩ : ∃ W1, W1 = ((boxS w s).alloc (.cells #[.int .i64 lo, .int .i64 cr, .int .i64 up, .int .i64 wt] 86)).alloc (.cells #[.string ⟨#[]⟩, .int .i64 0, .string ⟨#[]⟩, .int .i64 0, .string ⟨#[]⟩, .int .i64 0, .string ⟨#[]⟩, .int .i64 0] 91) := ⟨_, rfl⟩
  have e1 : (boxS w s).heap.size = w.heap.size + 1 := by simp [boxS]
  have e2 : ((boxS w s).alloc (.cells #[.int .i64 lo, .int .i64 cr, .int .i64 up, .int .i64 wt] 86)).heap.size = w.heap.size + 2 := by simp [boxS]
  obtain ⟨c0, c1, c2, c3, c4, c5, c6, c7, c8⟩ : ShAt W1 w.heap.size s := by
    rw [hW1]
    exact ((boxS_at w s).below ((Below.refl _ _).alloc (Nat.le_refl _) _)).below ((Below.refl _ _).alloc (Nat.le_refl _) _)
  have hm : W1.heap[w.heap.size + 1]? = some (.cells #[.int .i64 lo, .int .i64 cr, .int .i64 up, .int .i64 wt] 86 (0, 0)) := by
    rw [hW1, Below.heap_alloc _ _ _ (by omega), ← e1]
    exact heap_alloc_new _ _
  have hr : W1.heap[w.heap.size + 2]? = some (.cells #[.string ⟨#[]⟩, .int .i64 0, .string ⟨#[]⟩, .int .i64 0, .string ⟨#[]⟩, .int .i64 0, .string ⟨#[]⟩, .int .i64 0] 91 (0, 0)) := by
    rw [hW1, ← e2]
    exact heap_alloc_new _ _
  have m0 : W1.cell? ⟨w.heap.size + 1, 0, none⟩ = some (.int .i64 lo) := by simp [World.cell?, hm]
  have m1 : W1.cell? ⟨w.heap.size + 1, 1, none⟩ = some (.int .i64 cr) := by simp [World.cell?, hm]
  have m2 : W1.cell? ⟨w.heap.size + 1, 2, none⟩ = some (.int .i64 up) := by simp [World.cell?, hm]
  have m3 : W1.cell? ⟨w.heap.size + 1, 3, none⟩ = some (.int .i64 wt) := by simp [World.cell?, hm]
  have HBl := Lib.hid (show Below w.heap.size w W1 by
    rw [hW1]
    exact btw (btw (boxS_below w s) ((Below.refl _ _).alloc (Nat.le_refl _) _)) ((Below.refl _ _).alloc (Nat.le_refl _) _))
  have HW := Lib.hid hW1
  have HR := Lib.hid hr
  unfold boxS at HW
  clear hW1 e1 e2 hm hr hs k5 h1 h2 h3 h4 a1 a2 hz1 hz2 hmo HT
  go_enter Tryd.func41, Tryd.ntmps41
  go_wp2_with fail
  rw [← HW.out]
  refine wp_region_still_tail 36 (by kernel_rfl) (by kernel_rfl) ?_
  simp only [List.take_succ_cons, List.take_zero, List.drop_succ_cons, List.drop_zero]
  change wpStill _ _ W1.drew _ _ _
  repeat still_step
  still_call ((HT1.out _).mono fun e w' h => ⟨h.1, h.2.symm⟩)
  repeat still_step
  still_call ((HT2.out _).mono fun e w' h => ⟨h.1, h.2.symm⟩)
  repeat still_step
  refine wpStill_nil ?_
  change wpList _ _ _ _ _ W1.drew
  have R : ∀ j v, (#[.string ⟨#[]⟩, .int .i64 0, .string ⟨#[]⟩, .int .i64 0, .string ⟨#[]⟩, .int .i64 0, .string ⟨#[]⟩, .int .i64 0] : Array Value)[j]? = some v → W1.cell? ⟨w.heap.size + 2, j, none⟩ = some v := fun j v hv => by simp only [World.cell?, HR.out]; exact hv
  have R0 := R 0 _ rfl
  have R1 := R 1 _ rfl
  have R2 := R 2 _ rfl
  have R3 := R 3 _ rfl
  have R4 := R 4 _ rfl
  have R5 := R 5 _ rfl
  have R6 := R 6 _ rfl
  have R7 := R 7 _ rfl
  have F : ∀ j, W1.frozen? ⟨w.heap.size + 2, j, none⟩ = false := fun j => by simp only [World.frozen?, HR.out]; rfl
  have f0 := F 0
  have f1 := F 1
  have f2 := F 2
  have f3 := F 3
  have f4 := F 4
  have f5 := F 5
  have f6 := F 6
  have f7 := F 7
  clear R F m0 m1 m2 m3 c0 c1 c2 c3 c4 c5 c6 c7 c8 v1 v2 v3 v4 v5 v6
  go_wp2
  refine bodyPost_ret (v := .agg #[.string ⟨#[116, 114, 105, 109]⟩, .int .i64 (40 * wt - z1), .string ⟨#[108, 105, 115, 116]⟩, .int .i64 (40 * wt - z2), .string ⟨#[117, 112]⟩, .int .i64 (60 * wt - up), .string ⟨#[109, 111, 115, 116]⟩, .int .i64 (s.most - wt)]) ?_ rfl ?_
  · simp [results, Tryd.results41, go_sem, R0, R1, R2, R3, R4, R5, R6, R7]
  · refine ⟨rfl, ?_⟩
    refine Below.drew ?_
    iterate 8 (refine Below.setCell ?_ (by show w.heap.size ≤ w.heap.size + 1 + 1; omega) _)
    exact HBl.out

/-- What Safe tells of loads that fit. -/
def safeM (m1 m2 m3 m4 : Int) : Int := if m4 < 0 then 7 else if m1 < 0 then 3 else if m2 < 0 then 3 else if m3 < 0 then 3 else 0
def safeV (s : Shp) (L : List Ld) : Int := safeM (40 * wsum L - absZ (sumB (lonT s) L)) (40 * wsum L - absZ (sumB (croT s) L)) (60 * wsum L - sumB uppT L) (s.most - wsum L)
theorem idxM (a b c d : ByteArray) (i j k l : Int) (w : World) :
    (Instr.index 91 (.agg #[.string a, .int .i64 i, .string b, .int .i64 j, .string c, .int .i64 k, .string d, .int .i64 l]) (.int .i64 0)).run Tryd.prog w = .ok (.agg #[.string a, .int .i64 i]) w ∧
    (Instr.index 91 (.agg #[.string a, .int .i64 i, .string b, .int .i64 j, .string c, .int .i64 k, .string d, .int .i64 l]) (.int .i64 1)).run Tryd.prog w = .ok (.agg #[.string b, .int .i64 j]) w ∧
    (Instr.index 91 (.agg #[.string a, .int .i64 i, .string b, .int .i64 j, .string c, .int .i64 k, .string d, .int .i64 l]) (.int .i64 2)).run Tryd.prog w = .ok (.agg #[.string c, .int .i64 k]) w ∧
    (Instr.index 91 (.agg #[.string a, .int .i64 i, .string b, .int .i64 j, .string c, .int .i64 k, .string d, .int .i64 l]) (.int .i64 3)).run Tryd.prog w = .ok (.agg #[.string d, .int .i64 l]) w := ⟨by kernel_rfl, by kernel_rfl, by kernel_rfl, by kernel_rfl⟩
def SafePost (w : World) (v : Int) (e : Ending) (w' : World) : Prop := e = .returned (.int .i64 v) ∧ Below w.heap.size w w'
set_option maxRecDepth 100000 in
set_option maxHeartbeats 8000000 in
theorem safe_any (w : World) (s : Shp) (hs : s.fine) (ao : Option Addr) (n cap : Nat) (L : List Ld) (h : Lds w (.slice ao n cap) L) (hn : n = L.length) (hf : Fit s L) :
    Calls Tryd.prog 10 #[.agg #[.string ⟨#[115, 104, 105, 112]⟩, .int .i64 s.bays, .int .i64 s.rows, .int .i64 s.tiers, .int .i64 s.stack, .int .i64 40, .int .i64 40, .int .i64 60, .int .i64 s.most], .slice ao n cap] w (SafePost w (safeV s L)) := by
  have HSm := Lib.hid (sum_fit (boxS w s) s hs ao n cap L (h.below (boxS_below w s)) hn hf)
  have hlen := hf.len
  have bl := sumB_bd (lonT s) 4096 L (fun y hy => lonT_bd hs (hf.fine y hy))
  have bc := sumB_bd (croT s) 4096 L (fun y hy => croT_bd hs (hf.fine y hy))
  have bu := sumB_bd uppT 4096 L (fun y hy => uppT_bd (hf.fine y hy))
  have bw := wsum_bd L hf.fine
  have HMg := Lib.hid (fun W => margins_any W s hs (sumB (lonT s) L) (sumB (croT s) L) (sumB uppT L) (wsum L) (by omega) (by omega) (by omega) (by omega))
  have HV := Lib.hid (show safeV s L = safeM (40 * wsum L - absZ (sumB (lonT s) L)) (40 * wsum L - absZ (sumB (croT s) L)) (60 * wsum L - sumB uppT L) (s.most - wsum L) from rfl)
  obtain ⟨V, hV⟩ : ∃ V, V = safeV s L := ⟨_, rfl⟩
  rw [← hV] at HV ⊢
  unfold SumPost at HSm
  obtain ⟨m1, hm1⟩ : ∃ z, z = 40 * wsum L - absZ (sumB (lonT s) L) := ⟨_, rfl⟩
  obtain ⟨m2, hm2⟩ : ∃ z, z = 40 * wsum L - absZ (sumB (croT s) L) := ⟨_, rfl⟩
  obtain ⟨m3, hm3⟩ : ∃ z, z = 60 * wsum L - sumB uppT L := ⟨_, rfl⟩
  obtain ⟨m4, hm4⟩ : ∃ z, z = s.most - wsum L := ⟨_, rfl⟩
  rw [← hm1, ← hm2, ← hm3, ← hm4] at HMg HV
  generalize sumB (lonT s) L = lo at *
  generalize sumB (croT s) L = cr at *
  generalize sumB uppT L = up at *
  generalize wsum L = wt at *
  have HSh := Lib.hid (boxS_at w s)
  have HBS := Lib.hid (boxS_below w s)
  have hix := fun W => idxM ⟨#[116, 114, 105, 109]⟩ ⟨#[108, 105, 115, 116]⟩ ⟨#[117, 112]⟩ ⟨#[109, 111, 115, 116]⟩ m1 m2 m3 m4 W
  obtain ⟨c0, c1, c2, c3, c4, c5, c6, c7, c8⟩ := boxS_at w s
  unfold boxS at HSm HSh HBS c0 c1 c2 c3 c4 c5 c6 c7 c8
  clear h hn hf hs hlen bl bc bu bw hm1 hm2 hm3 hm4 hV
  go_enter Tryd.func10, Tryd.ntmps10
  go_wp2_with fail
  refine HSm.out.mono ?_
  rintro e w1 ⟨rfl, hb1⟩
  have HB1 := Lib.hid (btw HBS.out hb1)
  obtain ⟨d0, d1, d2, d3, d4, d5, d6, d7, d8⟩ := (HSh.out.below hb1).below ((Below.refl _ _).alloc (Nat.le_refl _) (.cells #[.int .i64 lo, .int .i64 cr, .int .i64 up, .int .i64 wt] 86))
  clear c0 c1 c2 c3 c4 c5 c6 c7 c8 hb1
  go_wp2_with fail
  refine (HMg.out _).mono ?_
  rintro e w2 ⟨rfl, hb2⟩
  have HB2 := Lib.hid (btw (btw HB1.out ((Below.refl _ _).alloc (Nat.le_refl _) _)) hb2)
  clear d0 d1 d2 d3 d4 d5 d6 d7 d8 hb2
  cases g4 : decide (m4 < 0) with
  | true =>
    have HE := Lib.hid (show V = 7 by rw [HV.out]; unfold safeM; rw [if_pos (by simpa using g4)])
    go_wp2
    go_ret
    exact ⟨by rw [HE.out]; rfl, btw HB2.out ((Below.refl _ _).alloc (Nat.le_refl _) _)⟩
  | false =>
    have HV2 := Lib.hid (show V = if m1 < 0 then 3 else if m2 < 0 then 3 else if m3 < 0 then 3 else 0 by rw [HV.out]; unfold safeM; rw [if_neg (by simpa using g4)])
    have hz := HB2.out.size
    cases g1 : decide (m1 < 0) with
    | true =>
      have HE := Lib.hid (show V = 3 by rw [HV2.out, if_pos (by simpa using g1)])
      go_wp2
      refine wp_loop_rounds 1 ?_
      rw [rounds_succ]
      go_wp2
      go_ret
      exact ⟨by rw [HE.out]; rfl, by repeat (first | exact HB2.out | refine Below.alloc ?_ (by first | omega | (simp; done) | (simp; omega)) _)⟩
    | false =>
      cases g2 : decide (m2 < 0) with
      | true =>
        have HE := Lib.hid (show V = 3 by rw [HV2.out, if_neg (by simpa using g1), if_pos (by simpa using g2)])
        go_wp2
        refine wp_loop_rounds 2 ?_
        rw [rounds_succ]
        go_wp2
        rw [rounds_succ]
        go_wp2
        go_ret
        exact ⟨by rw [HE.out]; rfl, by repeat (first | exact HB2.out | refine Below.alloc ?_ (by first | omega | (simp; done) | (simp; omega)) _)⟩
      | false =>
        cases g3 : decide (m3 < 0) with
        | true =>
          have HE := Lib.hid (show V = 3 by rw [HV2.out, if_neg (by simpa using g1), if_neg (by simpa using g2), if_pos (by simpa using g3)])
          go_wp2
          refine wp_loop_rounds 3 ?_
          rw [rounds_succ]
          go_wp2
          rw [rounds_succ]
          go_wp2
          rw [rounds_succ]
          go_wp2
          go_ret
          exact ⟨by rw [HE.out]; rfl, by repeat (first | exact HB2.out | refine Below.alloc ?_ (by first | omega | (simp; done) | (simp; omega)) _)⟩
        | false =>
          have HE := Lib.hid (show V = 0 by rw [HV2.out, if_neg (by simpa using g1), if_neg (by simpa using g2), if_neg (by simpa using g3)])
          go_wp2
          refine wp_loop_rounds 5 ?_
          rw [rounds_succ]
          go_wp2
          rw [rounds_succ]
          go_wp2
          rw [rounds_succ]
          go_wp2
          rw [rounds_succ]
          go_wp2
          rw [rounds_succ]
          go_wp2
          go_ret
          exact ⟨by rw [HE.out]; rfl, by repeat (first | exact HB2.out | refine Below.alloc ?_ (by first | omega | (simp; done) | (simp; omega)) _)⟩
end Go.Proofs.YtllaahdbngjigaaDoor
