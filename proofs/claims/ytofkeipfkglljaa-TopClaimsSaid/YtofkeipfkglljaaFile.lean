/-
  A file of claims: how it lies in memory; claim.New, Paid, left, out.
-/
import Derived.Test.YtofkeipfkglljaaPPays
import Derived.Test.YtofkeipfkglljaaClaimP
import Derived.OwnWalk
import Derived.Deep.RegionLaw
import Derived.Deep.DeepCutAuto
namespace Go.Proofs.Ytofkeipfkglljaa
open Go Go.RowKit
set_option linter.unusedVariables false
set_option linter.unusedSimpArgs false

def Fi.cells (f : Fi) (v : Value) : Array Value := #[.int .i64 f.loss, .int .i64 f.value, v, .int .i64 f.own]
/-- Block b is the file f; its payments lie in the row v. -/
structure IsFi (w : World) (b : Nat) (v : Value) (f : Fi) : Prop where
  blk : w.heap[b]? = some (.cells (f.cells v) 60 (0, 0))
  row : w.ownsRow 0 64 3 v f.L.length (f.L.flatMap Pm.cells)
  ne : v.ownBlock ≠ some b
  ok : FileOk f
  len : f.L.length ≤ 100
  v0 : 1 ≤ f.value
theorem IsFi.cell {w : World} {b : Nat} {v : Value} {f : Fi} (h : IsFi w b v f) (i : Nat) : w.cell? ⟨b, i, none⟩ = (f.cells v)[i]? := by simp [World.cell?, h.blk]
theorem IsFi.free {w : World} {b : Nat} {v : Value} {f : Fi} (h : IsFi w b v f) (i : Nat) : w.frozen? ⟨b, i, none⟩ = false := by simp [World.frozen?, h.blk]
theorem IsFi.lt {w : World} {b : Nat} {v : Value} {f : Fi} (h : IsFi w b v f) : b < w.heap.size := lt_of_block h.blk
/-- What a method may write. -/
def Fp (b : Nat) (v : Value) : Nat → Prop := fun k => k = b ∨ v.ownBlock = some k
/-- A method's frame: only its own blocks are written; the row stays, or moves to a new block. -/
structure Keep (b : Nat) (v : Value) (w : World) (v' : Value) (w' : World) : Prop where
  touch : Touch (Fp b v) w w'
  row : ∀ k, v'.ownBlock = some k → v.ownBlock = some k ∨ w.heap.size ≤ k
theorem Keep.refl (b : Nat) (v : Value) (w : World) : Keep b v w v w := ⟨Touch.refl _ _, fun _ h => .inl h⟩
theorem Keep.of_below {b : Nat} {v : Value} {w w' : World} (h : Below w.heap.size w w') : Keep b v w v w' := ⟨Touch.of_below h, fun _ h => .inl h⟩
theorem Keep.trans {b : Nat} {v v1 v2 : Value} {w w1 w2 : World} (h : Keep b v w v1 w1) (k : Keep b v1 w1 v2 w2) : Keep b v w v2 w2 :=
  ⟨h.touch.trans k.touch (fun x hx => hx.elim (fun e => .inl (.inl e)) (fun e => (h.row x e).elim (fun e => .inl (.inr e)) .inr)),
   fun x hx => (k.row x hx).elim (h.row x) (fun e => .inr (Nat.le_trans h.touch.size e))⟩
theorem Keep.below {b : Nat} {v v1 : Value} {w w1 w2 : World} (h : Keep b v w v1 w1) (k : Below w1.heap.size w1 w2) : Keep b v w v1 w2 := h.trans (Keep.of_below k)
theorem IsFi.kept {w w' : World} {b : Nat} {v : Value} {f : Fi} {S : Nat → Prop} (h : IsFi w b v f) (ht : Touch S w w') (hb : ¬ S b) (hv : ∀ k, v.ownBlock = some k → ¬ S k) : IsFi w' b v f :=
  ⟨(ht.block b h.lt hb).trans h.blk, own_touch h.row ht hv, h.ne, h.ok, h.len, h.v0⟩
theorem IsFi.below {w w' : World} {b : Nat} {v : Value} {f : Fi} (h : IsFi w b v f) (ht : Below w.heap.size w w') : IsFi w' b v f :=
  h.kept (S := fun _ => False) (Touch.of_below ht) id (fun _ _ => id)
theorem IsFi.drew {w : World} {b : Nat} {v : Value} {f : Fi} (h : IsFi w b v f) : IsFi w.drew b v f := h.below ((Below.refl w.heap.size w).drew)

def Fi.new (loss value : Int) : Fi := ⟨loss, value, [], 0⟩
def newB (loss value : Int) : Bool := decide (1 ≤ value) && (decide (value ≤ 1099511627776) && (decide (0 ≤ loss) && decide (loss ≤ value)))

theorem new_bad (loss value : Int) (w : World) (h : newB loss value = false) :
    Calls Try.prog 6 #[.int .i64 loss, .int .i64 value] w fun e w' => e = .returned (.tuple #[.pointer none, .int .i64 1]) ∧ w' = w := by
  by_cases h1 : value < 1
  · have d1 : decide (value < 1) = true := by rw [decide_eq_true_iff]; omega
    clear h
    go_enter Try.func6, Try.ntmps6
    go_wp2
    go_ret2
    exact ⟨rfl, rfl⟩
  · have d1 : decide (value < 1) = false := by rw [decide_eq_false_iff_not]; omega
    by_cases h2 : 1099511627776 < value
    · have d2 : decide (1099511627776 < value) = true := by rw [decide_eq_true_iff]; omega
      clear h
      go_enter Try.func6, Try.ntmps6
      go_wp2
      go_ret2
      exact ⟨rfl, rfl⟩
    · have d2 : decide (1099511627776 < value) = false := by rw [decide_eq_false_iff_not]; omega
      by_cases h3 : loss < 0
      · have d3 : decide (loss < 0) = true := by rw [decide_eq_true_iff]; omega
        clear h
        go_enter Try.func6, Try.ntmps6
        go_wp2
        go_ret2
        exact ⟨rfl, rfl⟩
      · have d3 : decide (loss < 0) = false := by rw [decide_eq_false_iff_not]; omega
        have d4 : decide (value < loss) = true := by
          rw [decide_eq_true_iff]
          rcases Int.lt_or_le value loss with g | g
          · exact g
          · rw [newB, decide_eq_true (show 1 ≤ value by omega), decide_eq_true (show value ≤ 1099511627776 by omega), decide_eq_true (show 0 ≤ loss by omega), decide_eq_true g] at h
            cases h
        clear h
        go_enter Try.func6, Try.ntmps6
        go_wp2
        go_ret2
        exact ⟨rfl, rfl⟩

theorem new_ok (loss value : Int) (w : World) (h : newB loss value = true) :
    Calls Try.prog 6 #[.int .i64 loss, .int .i64 value] w fun e w' => e = .returned (.tuple #[.pointer (some ⟨w.heap.size, 0, none⟩), .int .i64 0]) ∧ IsFi w' w.heap.size (.slice none 0 0) (Fi.new loss value) ∧ Below w.heap.size w w' := by
  simp only [newB, Bool.and_eq_true, decide_eq_true_eq] at h
  obtain ⟨h1, h2, h3, h4⟩ := h
  have d1 : decide (value < 1) = false := by rw [decide_eq_false_iff_not]; omega
  have d2 : decide (1099511627776 < value) = false := by rw [decide_eq_false_iff_not]; omega
  have d3 : decide (loss < 0) = false := by rw [decide_eq_false_iff_not]; omega
  have d4 : decide (value < loss) = false := by rw [decide_eq_false_iff_not]; omega
  have HF := Lib.hid (show FileOk (Fi.new loss value) from ⟨by simp [Fi.new], Int.le_refl _, by simp [Fi.new, paidF]; omega, h3, h4, h2⟩)
  have HV := Lib.hid h1
  clear h1 h2 h3 h4
  go_enter Try.func6, Try.ntmps6
  go_wp2
  go_ret2
  refine ⟨rfl, ⟨heap_alloc_new _ _, World.ownsRow_nil _ _ _ _, by simp [Value.ownBlock], HF.out, by simp [Fi.new], HV.out⟩, (Below.refl _ _).alloc (Nat.le_refl _) _⟩

/-- Payments in a row. -/
def Pms (w : World) (v : Value) (L : List Pm) : Prop := Row w v 3 L.length (L.flatMap Pm.cells)
theorem Pms.get {w : World} {ao : Option Addr} {n cap : Nat} {L : List Pm} (h : Pms w (.slice ao n cap) L) (hn : n = L.length) (hp : 0 < n) : ∃ b off, ao = some ⟨b, off, none⟩ ∧ b < w.heap.size ∧ ∀ k, k < n →
    w.cell? ⟨b, off + k * 3, none⟩ = some (.string (L.getD k default).t) ∧
    w.cell? ⟨b, off + k * 3 + 1, none⟩ = some (.int .i64 (L.getD k default).p) ∧
    w.cell? ⟨b, off + k * 3 + 2, none⟩ = some (.int .i64 (L.getD k default).b) := by
  have hl : (L.flatMap Pm.cells).length = L.length * 3 := flat_len (f := Pm.cells) (sz := 3) (fun _ => rfl) L
  obtain ⟨b, off, cap', e, h2, h3, h4, h5⟩ := Row.at h (by omega)
  cases e
  refine ⟨b, off, rfl, h4, fun k hk => ?_⟩
  rw [List.getD_eq_getElem?_getD, List.getElem?_eq_getElem (show k < L.length by omega)]
  have g : ∀ j, j < 3 → w.cell? ⟨b, off + (k * 3 + j), none⟩ = (Pm.cells L[k])[j]? := fun j hj => by
    have e := flat_get (f := Pm.cells) (sz := 3) (fun _ => rfl) L k j (by omega) hj
    rw [← e, h5 (k * 3 + j) (by rw [hl]; omega), ← List.getElem?_eq_getElem]
  exact ⟨by have := g 0 (by omega); simpa [Pm.cells] using this, by rw [Nat.add_assoc]; have := g 1 (by omega); simpa [Pm.cells] using this, by rw [Nat.add_assoc]; have := g 2 (by omega); simpa [Pm.cells] using this⟩
theorem IsFi.pms {w : World} {b : Nat} {v : Value} {f : Fi} (h : IsFi w b v f) : Pms w v f.L := Row.of_own h.row
theorem IsFi.shape {w : World} {b : Nat} {v : Value} {f : Fi} (h : IsFi w b v f) : ∃ ao cap, v = .slice ao f.L.length cap ∧ f.L.length ≤ cap ∧ cap ≤ maxLen := by
  obtain ⟨_, ao, cap, h1, h2, h3, _⟩ := h.pms
  exact ⟨ao, cap, h1, h2, h3⟩

theorem isum_step {xs : List Int} {k : Nat} (h : k < xs.length) : (xs.take (k + 1)).sum = (xs.take k).sum + xs.getD k 0 := by
  rw [List.take_succ_eq_append_getElem h, List.sum_append, List.getD_eq_getElem?_getD, List.getElem?_eq_getElem h]
  simp
theorem isum_nonneg : ∀ {xs : List Int}, (∀ x ∈ xs, 0 ≤ x) → 0 ≤ xs.sum
  | [], _ => Int.le_refl _
  | x :: xs, h => by
    have h1 := h x (by simp)
    have h2 := isum_nonneg (xs := xs) (fun y hy => h y (by simp [hy]))
    rw [List.sum_cons]; omega
theorem isum_take {xs : List Int} (h : ∀ x ∈ xs, 0 ≤ x) (k : Nat) : 0 ≤ (xs.take k).sum ∧ (xs.take k).sum ≤ xs.sum := by
  have e : (xs.take k ++ xs.drop k).sum = xs.sum := by rw [List.take_append_drop]
  rw [List.sum_append] at e
  have h1 := isum_nonneg (xs := xs.take k) (fun x hx => h x (List.mem_of_mem_take hx))
  have h2 := isum_nonneg (xs := xs.drop k) (fun x hx => h x (List.mem_of_mem_drop hx))
  omega
def pL (L : List Pm) : List Int := L.map fun o => o.p
def oL (L : List Pm) : List Int := L.map fun o => o.p - o.b
theorem pL_get {L : List Pm} {k : Nat} (h : k < L.length) : (pL L).getD k 0 = (L.getD k default).p := by simp [pL, List.getD_eq_getElem?_getD, h]
theorem oL_get {L : List Pm} {k : Nat} (h : k < L.length) : (oL L).getD k 0 = (L.getD k default).p - (L.getD k default).b := by simp [oL, List.getD_eq_getElem?_getD, h]
theorem ok_p {f : Fi} (h : FileOk f) : ∀ x ∈ pL f.L, 0 ≤ x := by
  intro x hx
  simp only [pL, List.mem_map] at hx
  obtain ⟨o, ho, rfl⟩ := hx
  have := h.each o ho; omega
theorem ok_o {f : Fi} (h : FileOk f) : ∀ x ∈ oL f.L, 0 ≤ x := by
  intro x hx
  simp only [oL, List.mem_map] at hx
  obtain ⟨o, ho, rfl⟩ := hx
  have := h.each o ho; omega
theorem open_le : ∀ {L : List Pm}, (∀ o ∈ L, 0 ≤ o.b ∧ o.b ≤ o.p) → openF L ≤ (pL L).sum
  | [], _ => Int.le_refl _
  | o :: L, h => by
    have h1 := h o (by simp)
    have h2 := open_le (L := L) (fun x hx => h x (by simp [hx]))
    unfold openF pL at *
    rw [List.map_cons, List.map_cons, List.sum_cons, List.sum_cons]; omega
theorem ok_bd {f : Fi} (h : FileOk f) : 0 ≤ paidF f ∧ paidF f ≤ 1099511627776 ∧ 0 ≤ leftF f ∧ leftF f ≤ 1099511627776 ∧ 0 ≤ f.own ∧ f.own ≤ 1099511627776 ∧ 0 ≤ f.loss ∧ f.loss ≤ 1099511627776 ∧ 0 ≤ openF f.L ∧ openF f.L ≤ 1099511627776 ∧ 1 ≤ 1 + f.value ∧ f.value ≤ 1099511627776 := by
  have h1 := isum_nonneg (ok_p h)
  have h2 := openF_nonneg h.each
  have h3 := open_le h.each
  have h4 : paidF f = (pL f.L).sum := rfl
  have h5 := h.own; have h6 := h.all; have h7 := h.l0; have h8 := h.l1; have h9 := h.v1
  unfold leftF
  omega

set_option maxHeartbeats 2000000 in
theorem paid_any (w : World) (b : Nat) (v : Value) (f : Fi) (h : IsFi w b v f) :
    Calls Try.prog 8 #[.pointer (some ⟨b, 0, none⟩)] w fun e w' => e = .returned (.int .i64 (paidF f)) ∧ Below w.heap.size w w' := by
  have HP := Lib.hid h.pms
  obtain ⟨ao, cap, e, q1, q2⟩ := h.shape
  subst e
  have k2 : w.cell? ⟨b, 2, none⟩ = some (.slice ao f.L.length cap) := h.cell 2
  obtain ⟨n, hn⟩ : ∃ n, n = f.L.length := ⟨_, rfl⟩
  rw [← hn] at k2 HP q1
  have HN := Lib.hid hn
  have hcap : n ≤ 9223372036854775807 := by unfold maxLen at q2; omega
  have hok := ok_bd h.ok
  have HT := Lib.hid (fun k => isum_take (ok_p h.ok) k)
  have HS := Lib.hid (show (pL f.L).sum = paidF f from rfl)
  have HB0 := Lib.hid (Below.refl w.heap.size w)
  have HPb := Lib.hid (show paidF f ≤ 1099511627776 by omega)
  clear h hn hok q1 q2
  go_enter Try.func8, Try.ntmps8
  go_wp2
  go_loopw [3, 11] (fun s i wr => ∃ (k : Nat) (z : Int), k ≤ n ∧ i = .int .i64 (k : Int) ∧ s = .int .i64 z ∧ Hid (z = ((pL f.L).take k).sum) ∧ Hid (Below w.heap.size w wr)) (fun _ i _ => n - (intOf i).toNat)
  case atStart => exact ⟨0, 0, Nat.zero_le _, rfl, rfl, Lib.hid (by simp), HB0⟩
  case round =>
    obtain ⟨k, z, hk, rfl, rfl, hz, hb⟩ := hrel
    by_cases hlt : k < n
    · have l1 : (k : Int) < (n : Int) := by omega
      have l0 : (0 : Int) ≤ (k : Int) := by omega
      have hp2 : Pms wr (.slice ao n cap) f.L := Row.below HP.out hb.out
      obtain ⟨bl, off, rfl, hbl, hc⟩ := hp2.get HN.out (by omega)
      obtain ⟨c0, c1, c2⟩ := hc k hlt
      have HSt := Lib.hid (isum_step (xs := pL f.L) (k := k) (by simp [pL]; rw [← HN.out]; exact hlt))
      rw [pL_get (by rw [← HN.out]; exact hlt)] at HSt
      have ht0 := HT.out k
      have ht1 := HT.out (k + 1)
      rw [HS.out] at ht0 ht1
      have hpb := HPb.out
      generalize f.L.getD k default = o at *
      obtain ⟨ot, op, ob⟩ := o
      dsimp only at c0 c1 c2 HSt
      rw [HSt.out] at ht1
      rw [← hz.out] at ht0 ht1
      have v1 : IntKind.i64.wrap (z + op) = z + op := IntWalk.i64_in _ (by omega)
      have HZ := Lib.hid (show z + op = ((pL f.L).take (k + 1)).sum by rw [HSt.out, hz.out])
      have HB1 := Lib.hid (hb.out.alloc hb.out.size (.cells #[.string ot, .int .i64 op, .int .i64 ob] 64))
      clear ht0 ht1 hpb hc hp2
      go_wp2
      go_roundw
      case rel => exact ⟨k + 1, z + op, by omega, by go_num, rfl, HZ, HB1⟩
      case measure => simp [intOf]; omega
    · obtain rfl : k = n := by omega
      have HR := Lib.hid (show z = paidF f by
        have := hz.out
        rw [List.take_of_length_le (by simp [pL]; rw [← HN.out]; exact Nat.le_refl _), HS.out] at this
        exact this)
      go_wp2
      go_ret
      exact ⟨by rw [HR.out]; rfl, hb.out⟩

set_option maxHeartbeats 2000000 in
theorem left_any (w : World) (b : Nat) (v : Value) (f : Fi) (h : IsFi w b v f) :
    Calls Try.prog 17 #[.pointer (some ⟨b, 0, none⟩)] w fun e w' => e = .returned (.int .i64 (leftF f)) ∧ Below w.heap.size w w' := by
  have HP := Lib.hid (fun w h => paid_any w b v f h)
  have k0 : w.cell? ⟨b, 0, none⟩ = some (.int .i64 f.loss) := h.cell 0
  have k3 : w.cell? ⟨b, 3, none⟩ = some (.int .i64 f.own) := h.cell 3
  have hok := ok_bd h.ok
  have HL := Lib.hid (show leftF f = f.loss - paidF f - f.own from rfl)
  have H := Lib.hid h
  have v1 : IntKind.i64.wrap (f.loss - paidF f) = f.loss - paidF f := IntWalk.i64_in _ (by omega)
  have v2 : IntKind.i64.wrap (f.loss - paidF f - f.own) = f.loss - paidF f - f.own := IntWalk.i64_in _ (by omega)
  rw [HL.out]
  generalize paidF f = P at *
  clear h hok HL
  go_enter Try.func17, Try.ntmps17
  go_wp2
  go_region_with (go_at_call 8; refine (HP.out _ H.out.drew).mono ?_; rintro e w5 ⟨rfl, hb5⟩; have c0 := cell_later hb5 k0; have c3 := cell_later hb5 k3; have HB5 := Lib.hid (bt ((Below.refl w.heap.size w).drew) hb5); clear hb5)
  all_goals
    go_wp2
    go_ret
    exact ⟨rfl, HB5.out⟩

set_option maxHeartbeats 2000000 in
theorem out_any (w : World) (b : Nat) (v : Value) (f : Fi) (h : IsFi w b v f) :
    Calls Try.prog 18 #[.pointer (some ⟨b, 0, none⟩)] w fun e w' => e = .returned (.int .i64 (outF f)) ∧ Below w.heap.size w w' := by
  have HL := Lib.hid (left_any w b v f h)
  have H := Lib.hid h
  obtain ⟨ao, cap, e, q1, q2⟩ := h.shape
  subst e
  obtain ⟨n, hn⟩ : ∃ n, n = f.L.length := ⟨_, rfl⟩
  have HN := Lib.hid hn
  have hcap : n ≤ 9223372036854775807 := by unfold maxLen at q2; omega
  have hok := ok_bd h.ok
  have HOk := Lib.hid (show 0 ≤ leftF f ∧ leftF f ≤ 1099511627776 ∧ openF f.L ≤ 1099511627776 by omega)
  have HT := Lib.hid (fun k => isum_take (ok_o h.ok) k)
  have HS := Lib.hid (show (oL f.L).sum = openF f.L from rfl)
  have HEa := Lib.hid (show ∀ k, k < n → 0 ≤ (f.L.getD k default).b ∧ (f.L.getD k default).b ≤ (f.L.getD k default).p ∧ (f.L.getD k default).p ≤ 1099511627776 from fun k hk => by
    have hk' : k < f.L.length := by omega
    have h1 := h.ok.each f.L[k] (List.getElem_mem hk')
    have h2 := isum_take (ok_p h.ok) k
    have h3 := isum_take (ok_p h.ok) (k + 1)
    rw [isum_step (by simp [pL]; omega), pL_get hk'] at h3
    have h4 : paidF f = (pL f.L).sum := rfl
    rw [List.getD_eq_getElem?_getD, List.getElem?_eq_getElem hk'] at h3 ⊢
    dsimp only [Option.getD] at h3 ⊢
    omega)
  clear h hn hok q1 q2
  go_enter Try.func18, Try.ntmps18
  go_wp2_with fail
  refine HL.out.mono ?_
  rintro e w1 ⟨rfl, hb⟩
  have HB1 := Lib.hid hb
  have h1 := H.out.below hb
  have k2 : w1.cell? ⟨b, 2, none⟩ = some (.slice ao f.L.length cap) := h1.cell 2
  rw [← HN.out] at k2
  have HP := Lib.hid h1.pms
  rw [← HN.out] at HP
  clear hb h1 HL
  go_wp2
  go_loopw [3, 13] (fun s i wr => ∃ (k : Nat) (z : Int), k ≤ n ∧ i = .int .i64 (k : Int) ∧ s = .int .i64 z ∧ Hid (z = leftF f + ((oL f.L).take k).sum) ∧ Hid (Below w1.heap.size w1 wr)) (fun _ i _ => n - (intOf i).toNat)
  case atStart => exact ⟨0, leftF f, Nat.zero_le _, rfl, rfl, Lib.hid (by simp), Lib.hid (Below.refl _ _)⟩
  case round =>
    obtain ⟨k, z, hk, rfl, rfl, hz, hb⟩ := hrel
    by_cases hlt : k < n
    · have l1 : (k : Int) < (n : Int) := by omega
      have l0 : (0 : Int) ≤ (k : Int) := by omega
      have hp2 : Pms wr (.slice ao n cap) f.L := Row.below HP.out hb.out
      obtain ⟨bl, off, rfl, hbl, hc⟩ := hp2.get HN.out (by omega)
      obtain ⟨c0, c1, c2⟩ := hc k hlt
      have HSt := Lib.hid (isum_step (xs := oL f.L) (k := k) (by simp [oL]; rw [← HN.out]; exact hlt))
      rw [oL_get (by rw [← HN.out]; exact hlt)] at HSt
      have ht0 := HT.out k
      have ht1 := HT.out (k + 1)
      rw [HS.out] at ht0 ht1
      have hpb := HOk.out
      have hea := HEa.out k hlt
      generalize f.L.getD k default = o at *
      obtain ⟨ot, op, ob⟩ := o
      dsimp only at c0 c1 c2 HSt hea
      rw [HSt.out] at ht1
      have hz1 := hz.out
      generalize ((oL f.L).take k).sum = T at *
      generalize leftF f = LF at *
      generalize openF f.L = OF at *
      have v0 : IntKind.i64.wrap (op - ob) = op - ob := IntWalk.i64_in _ (by omega)
      have v1 : IntKind.i64.wrap (z + (op - ob)) = z + (op - ob) := IntWalk.i64_in _ (by omega)
      have HZ := Lib.hid (show z + (op - ob) = LF + ((oL f.L).take (k + 1)).sum by rw [HSt.out, hz1]; omega)
      have HB2 := Lib.hid (hb.out.alloc hb.out.size (.cells #[.string ot, .int .i64 op, .int .i64 ob] 64))
      clear ht0 ht1 hpb hc hp2 hea hz1
      go_wp2
      go_roundw
      case rel => exact ⟨k + 1, z + (op - ob), by omega, by go_num, rfl, HZ, HB2⟩
      case measure => simp [intOf]; omega
    · obtain rfl : k = n := by omega
      have HR := Lib.hid (show z = outF f by
        have := hz.out
        rw [List.take_of_length_le (by simp [oL]; rw [← HN.out]; exact Nat.le_refl _), HS.out] at this
        exact this)
      go_wp2
      go_ret
      exact ⟨by rw [HR.out]; rfl, bt HB1.out hb.out⟩
end Go.Proofs.Ytofkeipfkglljaa
