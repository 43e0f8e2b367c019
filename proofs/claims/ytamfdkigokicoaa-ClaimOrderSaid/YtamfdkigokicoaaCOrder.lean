/-
  ClaimOrder: two files, claimed of in both orders.
-/
import Derived.Test.YtamfdkigokicoaaCWhole
import Derived.Test.YtamfdkigokicoaaClaimQ
namespace Go.Proofs.Ytamfdkigokicoaa
open Go Go.RowKit
set_option linter.unusedVariables false
set_option linter.unusedSimpArgs false

/-- Claimed of one behind the other. -/
def claimsF (f : Fi) : List Po → Fi
  | [] => f
  | o :: l => claimsF (f.claim o.i o).1 l
theorem claimsF_app (f : Fi) : ∀ (a b : List Po), claimsF f (a ++ b) = claimsF (claimsF f a) b := by
  intro a
  induction a generalizing f with
  | nil => intro b; rfl
  | cons o a ih => intro b; exact ih _ b
def payL (loss value : Int) (o : Po) : ByteArray × Int := (o.i, (o.paysN loss.toNat value.toNat : Int))
theorem claims_adds : ∀ (l : List Po) (f : Fi), (∀ o ∈ l, hasF f.L o.i = false) → l.Pairwise (fun a b => a.i ≠ b.i) → claimsF f l = addsF f ((l.filter Po.may).map (payL f.loss f.value))
  | [], f, _, _ => rfl
  | o :: l, f, hh, hp => by
    obtain ⟨hp1, hp2⟩ := List.pairwise_cons.1 hp
    have h0 := hh o (by simp)
    cases hm : o.may with
    | false =>
      have e : (f.claim o.i o).1 = f := by unfold Fi.claim; rw [if_pos hm]
      rw [claimsF, e, List.filter_cons_of_neg (by rw [hm]; simp)]
      exact claims_adds l f (fun x hx => hh x (by simp [hx])) hp2
    | true =>
      have e : (f.claim o.i o).1 = addF f o.i (o.paysN f.loss.toNat f.value.toNat : Int) := by
        unfold Fi.claim; rw [if_neg (by rw [hm]; simp), if_neg (by simp), if_neg (by rw [h0]; simp)]
      rw [claimsF, e, List.filter_cons_of_pos hm, List.map_cons, addsF]
      exact claims_adds l _ (fun x hx => by
        have h1 := hh x (by simp [hx])
        unfold hasF at h1 ⊢
        show ((f.L ++ [_]).any _) = false
        rw [List.any_append, h1]
        simp
        exact hp1 x hx) hp2
theorem claims_len : ∀ (l : List Po) (f : Fi), (claimsF f l).L.length ≤ f.L.length + l.length
  | [], f => Nat.le_refl _
  | o :: l, f => by
    have h1 : (f.claim o.i o).1.L.length ≤ f.L.length + 1 := by
      unfold Fi.claim
      repeat' split
      all_goals simp [addF]
    have := claims_len l (f.claim o.i o).1
    rw [claimsF, List.length_cons]; omega
/-- Whoever pays first, all together is the same, and at most the loss. -/
theorem claims_order {l : List Po} {loss value : Int} (hp : l.Pairwise (fun a b => a.i ≠ b.i)) (h0 : 0 ≤ loss) : paidF (claimsF (Fi.new loss value) l) = paidF (claimsF (Fi.new loss value) l.reverse) ∧ paidF (claimsF (Fi.new loss value) l) ≤ loss := by
  have e1 := claims_adds l (Fi.new loss value) (fun _ _ => rfl) hp
  have e2 := claims_adds l.reverse (Fi.new loss value) (fun _ _ => rfl) (List.pairwise_reverse.2 (hp.imp fun h => h.symm))
  rw [List.filter_reverse, List.map_reverse] at e2
  have h := paid_order ((l.filter Po.may).map (payL loss value)) (Fi.new loss value) (fun x hx => by
    obtain ⟨o, _, rfl⟩ := List.mem_map.1 hx
    show (0 : Int) ≤ ((o.paysN loss.toNat value.toNat : Nat) : Int); omega) (by show (0 : Int) + 0 ≤ loss; omega)
  have e3 : (Fi.new loss value).own = 0 := rfl
  have e4 : (Fi.new loss value).loss = loss := rfl
  have e5 : (Fi.new loss value).value = value := rfl
  rw [e4, e5] at e1 e2
  rw [e3, e4] at h
  rw [e1, e2]
  exact ⟨h.1, by have := h.2; omega⟩

/-- Two files that lie apart. -/
structure Two (w0 w : World) (ba : Nat) (va : Value) (bb : Nat) (vb : Value) (fa fb : Fi) : Prop where
  a : IsFi w ba va fa
  b : IsFi w bb vb fb
  ab : ba ≠ bb
  n1 : va.ownBlock ≠ some bb
  n2 : vb.ownBlock ≠ some ba
  n3 : ∀ k, va.ownBlock = some k → vb.ownBlock ≠ some k
  la : w0.heap.size ≤ ba
  lb : w0.heap.size ≤ bb
  lva : ∀ k, va.ownBlock = some k → w0.heap.size ≤ k
  lvb : ∀ k, vb.ownBlock = some k → w0.heap.size ≤ k
  below : Below w0.heap.size w0 w
theorem Two.later {w0 w w' : World} {ba bb : Nat} {va vb : Value} {fa fb : Fi} (h : Two w0 w ba va bb vb fa fb) (hb : Below w.heap.size w w') : Two w0 w' ba va bb vb fa fb := by
  obtain ⟨a, b, ab, n1, n2, n3, la, lb, lva, lvb, below⟩ := h
  exact ⟨a.below hb, b.below hb, ab, n1, n2, n3, la, lb, lva, lvb, bt below hb⟩
theorem Two.swap {w0 w : World} {ba bb : Nat} {va vb : Value} {fa fb : Fi} (h : Two w0 w ba va bb vb fa fb) : Two w0 w bb vb ba va fb fa := by
  obtain ⟨a, b, ab, n1, n2, n3, la, lb, lva, lvb, below⟩ := h
  exact ⟨b, a, fun e => ab e.symm, n2, n1, fun k h1 h2 => n3 k h2 h1, lb, la, lvb, lva, below⟩
theorem Two.stepA {w0 w w' : World} {ba bb : Nat} {va vb va' : Value} {fa fb fa' : Fi} (h : Two w0 w ba va bb vb fa fb) (hf : IsFi w' ba va' fa') (hk : Keep ba va w va' w') : Two w0 w' ba va' bb vb fa' fb := by
  obtain ⟨a, b, ab, n1, n2, n3, la, lb, lva, lvb, below⟩ := h
  have hs := below.size
  refine ⟨hf, b.kept hk.touch ?_ ?_, ab, ?_, n2, ?_, la, lb, ?_, lvb, below.trans (hk.touch.below hs ?_)⟩
  · rintro (e | e)
    · exact ab e.symm
    · exact n1 e
  · rintro k hv (e | e)
    · subst e; exact n2 hv
    · exact n3 k e hv
  · intro e
    rcases hk.row _ e with e | e
    · exact n1 e
    · have := b.lt; omega
  · intro k e hv
    rcases hk.row _ e with e | e
    · exact n3 k e hv
    · have := own_lt b.row hv; omega
  · intro k e
    rcases hk.row _ e with e | e
    · exact lva k e
    · omega
  · rintro x (e | e)
    · subst e; exact la
    · exact lva x e
theorem Two.stepB {w0 w w' : World} {ba bb : Nat} {va vb vb' : Value} {fa fb fb' : Fi} (h : Two w0 w ba va bb vb fa fb) (hf : IsFi w' bb vb' fb') (hk : Keep bb vb w vb' w') : Two w0 w' ba va bb vb' fa fb' :=
  (h.swap.stepA hf hk).swap

namespace claimOrder
set_option maxHeartbeats 1000000 in
theorem skip (a0 a1 : Int) (ao : Option Addr) (n cap : Nat) (l : List Po) (w : World) (h : Pos w (.slice ao n cap) l) (hn : n = l.length) (hcap : n ≤ maxLen) (hf : fewP l = false) :
    Calls Try.prog 6 #[.int .i64 a0, .int .i64 a1, .slice ao n cap] w fun e w' => e = .returned (.bool true) ∧ Below w.heap.size w w' := by
  have HF := Lib.hid (fun w h => few44_any ao n cap l w h hn hcap)
  rw [hf] at HF
  have H := Lib.hid h
  clear h hn hcap hf
  go_enter Try.func6, Try.ntmps6
  go_wp2_with fail
  refine (awake44_any _).mono ?_
  rintro e w1 ⟨rfl, hb1⟩
  have HB1 := Lib.hid hb1
  clear hb1
  go_wp2_with fail
  refine (HF.out _ (H.out.below HB1.out)).mono ?_
  rintro e w2 ⟨rfl, rfl⟩
  go_wp2_with fail
  refine (awake44_any _).mono ?_
  rintro e w3 ⟨rfl, hb3⟩
  have HB3 := Lib.hid (bt HB1.out hb3)
  clear hb3
  go_wp2
  go_ret
  exact ⟨rfl, HB3.out⟩

set_option maxRecDepth 100000 in
set_option maxHeartbeats 1000000 in
theorem bad (a0 a1 : Int) (ao : Option Addr) (n cap : Nat) (l : List Po) (w : World) (h : Pos w (.slice ao n cap) l) (hn : n = l.length) (hcap : n ≤ maxLen) (hf : fewP l = true) (hs : newB a0 a1 = false) :
    Calls Try.prog 6 #[.int .i64 a0, .int .i64 a1, .slice ao n cap] w fun e w' => e = .returned (.bool true) ∧ Below w.heap.size w w' := by
  have HF := Lib.hid (fun w h => few44_any ao n cap l w h hn hcap)
  rw [hf] at HF
  have HS := Lib.hid (fun w => new_bad a0 a1 w hs)
  have H := Lib.hid h
  clear h hn hcap hf hs
  go_enter Try.func6, Try.ntmps6
  go_wp2_with fail
  refine (awake44_any _).mono ?_
  rintro e w1 ⟨rfl, hb1⟩
  have HB1 := Lib.hid hb1
  clear hb1
  go_wp2_with fail
  refine (HF.out _ (H.out.below HB1.out)).mono ?_
  rintro e w2 ⟨rfl, rfl⟩
  go_wp2_with fail
  refine (HS.out _).mono ?_
  rintro e w3 ⟨rfl, rfl⟩
  go_wp2_with fail
  refine (HS.out _).mono ?_
  rintro e w4 ⟨rfl, rfl⟩
  go_wp2
  go_ret
  exact ⟨rfl, HB1.out⟩

theorem take_rev {l : List Po} {n k : Nat} (hn : n = l.length) (hk : k < n) : l.reverse.take (k + 1) = l.reverse.take k ++ [l.getD (n - 1 - k) default] := by
  have h1 : k < l.reverse.length := by rw [List.length_reverse]; omega
  rw [List.take_succ_eq_append_getElem h1, List.getElem_reverse, List.getD_eq_getElem?_getD, List.getElem?_eq_getElem (show n - 1 - k < l.length by omega)]
  subst hn
  rfl
theorem take_fwd {l : List Po} {k : Nat} (hk : k < l.length) : l.take (k + 1) = l.take k ++ [l.getD k default] := by
  rw [List.take_succ_eq_append_getElem hk, List.getD_eq_getElem?_getD, List.getElem?_eq_getElem hk]
  rfl

set_option maxRecDepth 100000 in
set_option maxHeartbeats 8000000 in
theorem good (a0 a1 : Int) (ao : Option Addr) (n cap : Nat) (l : List Po) (w : World) (h : Pos w (.slice ao n cap) l) (hn : n = l.length) (hcap : n ≤ maxLen) (hf : fewP l = true) (hs : newB a0 a1 = true) :
    Calls Try.prog 6 #[.int .i64 a0, .int .i64 a1, .slice ao n cap] w fun e w' => e = .returned (.bool true) ∧ Below w.heap.size w w' := by
  have HF := Lib.hid (fun w h => few44_any ao n cap l w h hn hcap)
  rw [hf] at HF
  have h12 : n ≤ 12 := by rw [hn]; exact ((fewP_iff l).1 hf).1
  have HS := Lib.hid (fun w => new_ok a0 a1 w hs)
  have hl0 : 0 ≤ a0 := by simp only [newB, Bool.and_eq_true, decide_eq_true_eq] at hs; exact hs.2.2.1
  have HPd := Lib.hid (fun w b v f h => paid_any w b v f h)
  have HCl := Lib.hid (fun w b v f u o h hl hi => claim_any w b v f u o h hl hi)
  have H := Lib.hid h
  have HN := Lib.hid hn
  have HL0 := Lib.hid hl0
  have HLe := Lib.hid (fun m => claims_len (l.take m) (Fi.new a0 a1))
  have HLr := Lib.hid (fun m => claims_len (l.reverse.take m) (Fi.new a0 a1))
  obtain ⟨F0, hF0⟩ : ∃ F, F = Fi.new a0 a1 := ⟨_, rfl⟩
  rw [← hF0] at HS HLe HLr
  have HF0 := Lib.hid hF0
  have HL00 := Lib.hid (show F0.L.length = 0 by rw [hF0]; rfl)
  clear h hn hcap hf hs hl0 hF0
  go_enter Try.func6, Try.ntmps6
  go_wp2_with fail
  refine (awake44_any _).mono ?_
  rintro e w1 ⟨rfl, hb1⟩
  have HB1 := Lib.hid hb1
  clear hb1
  go_wp2_with fail
  refine (HF.out _ (H.out.below HB1.out)).mono ?_
  rintro e w2 ⟨rfl, rfl⟩
  go_wp2_with fail
  refine (HS.out _).mono ?_
  rintro e w3 ⟨rfl, hf3, hb3⟩
  have HF3 := Lib.hid hf3
  have HB3 := Lib.hid hb3
  clear hf3 hb3
  go_wp2_with fail
  refine (HS.out _).mono ?_
  rintro e w4 ⟨rfl, hf4, hb4⟩
  have HT4 := Lib.hid (show Two w w4 w2.heap.size (.slice none 0 0) w3.heap.size (.slice none 0 0) F0 F0 from
    ⟨HF3.out.below hb4, hf4, by have := HF3.out.lt; omega, by simp [Value.ownBlock], by simp [Value.ownBlock], by simp [Value.ownBlock], HB1.out.size, Nat.le_trans HB1.out.size HB3.out.size, by simp [Value.ownBlock], by simp [Value.ownBlock], bt (bt HB1.out HB3.out) hb4⟩)
  obtain ⟨ba, hba⟩ : ∃ b, b = w2.heap.size := ⟨_, rfl⟩
  obtain ⟨bb, hbb⟩ : ∃ b, b = w3.heap.size := ⟨_, rfl⟩
  rw [← hba, ← hbb] at HT4
  rw [← hba, ← hbb]
  clear hf4 hb4 HF3 HB3 HB1 HF HS hba hbb
  go_wp2_with fail
  go_loopw [53] (fun i wr => ∃ k : Nat, k ≤ n ∧ i = .int .i64 (k : Int) ∧ Hid (∀ i, i < k → ∀ j, j < i → (l.getD i default).i ≠ (l.getD j default).i) ∧ Hid (∃ q, wr = w4.drewN q)) (fun i _ => n - (intOf i).toNat)
  case atStart => exact ⟨0, Nat.zero_le _, rfl, Lib.hid (fun i hi => by omega), Lib.hid ⟨0, rfl⟩⟩
  case round =>
    obtain ⟨k, hk, rfl, hd, hw⟩ := hrel
    by_cases hlt : k < n
    · have l1 : (k : Int) < (n : Int) := by omega
      have l0 : (0 : Int) ≤ (k : Int) := by omega
      go_wp2_with fail
      go_loopw [57] (fun j wr => ∃ m : Nat, m ≤ k ∧ j = .int .i64 (m : Int) ∧ Hid (∀ j, j < m → (l.getD k default).i ≠ (l.getD j default).i) ∧ Hid (∃ q, wr = w4.drewN q)) (fun j _ => k - (intOf j).toNat)
      case atStart => exact ⟨0, Nat.zero_le _, rfl, Lib.hid (fun i hi => by omega), hw⟩
      case round =>
        obtain ⟨m, hm, rfl, hdm, hwm⟩ := hrel
        by_cases hml : m < k
        · have m1 : (m : Int) < (k : Int) := by omega
          have m0 : (0 : Int) ≤ (m : Int) := by omega
          have m2 : (m : Int) < (n : Int) := by omega
          obtain ⟨bl, off, rfl, hbl, hc⟩ := H.out.get HN.out (by omega)
          have hcw : ∀ j, j < n → ∀ wr, (∃ q, wr = w4.drewN q) → wr.cell? ⟨bl, off + j * 9, none⟩ = some (.string (l.getD j default).i) := fun j hj wr hq => by
            obtain ⟨q, e⟩ := hq
            rw [e, (below_drewN HT4.out.below q).cell (by show bl < _; omega)]
            exact hc j hj 0 (by omega)
          have c1 := hcw k hlt _ hwm.out
          have c2 := hcw m (by omega) _ hwm.out
          obtain ⟨x, hx⟩ : ∃ x, x = (l.getD k default).i := ⟨_, rfl⟩
          obtain ⟨y, hy⟩ : ∃ y, y = (l.getD m default).i := ⟨_, rfl⟩
          have HX := Lib.hid hx
          have HY := Lib.hid hy
          rw [← hx] at c1
          rw [← hy] at c2
          clear hx hy hcw hc
          by_cases g : x = y
          · have HBq := Lib.hid (show ∀ q, Below w.heap.size w (w4.drewN q) from fun q => below_drewN HT4.out.below q)
            subst g
            go_wp2_with fail
            go_quiet (fail)
            go_wp2
            go_ret
            exact ⟨rfl, by obtain ⟨q, e⟩ := hwm.out; rw [e, World.drewN_drewN]; exact HBq.out _⟩
          · have b1 : (x.toList == y.toList) = false := (Lib.bytes_beq_false_iff _ _).2 g
            have HD2 := Lib.hid (show ∀ j, j < m + 1 → (l.getD k default).i ≠ (l.getD j default).i from fun j hj => by
              by_cases e : j = m
              · subst e; rw [← HX.out, ← HY.out]; exact g
              · exact hdm.out j (by omega))
            go_wp2_with fail
            go_quiet (fail)
            go_wp2
            go_roundw
            case rel => exact ⟨m + 1, by omega, by go_num, HD2, Lib.hid (by obtain ⟨q, e⟩ := hwm.out; exact ⟨q + nq, by rw [e, World.drewN_drewN]⟩)⟩
            case measure => simp [intOf]; omega
        · obtain rfl : m = k := by omega
          have HD2 := Lib.hid (show ∀ i, i < m + 1 → ∀ j, j < i → (l.getD i default).i ≠ (l.getD j default).i from fun i hi j hj => by
            by_cases e : i = m
            · subst e; exact hdm.out j hj
            · exact hd.out i (by omega) j hj)
          go_wp2
          go_roundw
          case rel => exact ⟨m + 1, by omega, by go_num, HD2, hwm⟩
          case measure => simp [intOf]; omega
    · obtain rfl : k = n := by omega
      have HPw := Lib.hid (show l.Pairwise (fun a b => a.i ≠ b.i) from by
        rw [List.pairwise_iff_getElem]
        intro i j hi hj hij
        have h1 := hd.out j (by rw [HN.out]; exact hj) i hij
        rw [List.getD_eq_getElem?_getD, List.getElem?_eq_getElem hj, List.getD_eq_getElem?_getD, List.getElem?_eq_getElem hi] at h1
        exact fun e => h1 e.symm)
      have HT5 := Lib.hid (HT4.out.later (w' := wr) (by obtain ⟨q, e⟩ := hw.out; rw [e]; exact below_drewN (Below.refl _ _) q))
      clear HT4 hd
      go_wp2_with fail
      go_loopw [75] (fun i wr => ∃ (j : Nat) (va vb : Value), j ≤ k ∧ i = .int .i64 (j : Int) ∧ Hid (Two w wr ba va bb vb (claimsF F0 (l.take j)) (claimsF F0 (l.reverse.take j)))) (fun i _ => k - (intOf i).toNat)
      case atStart => exact ⟨0, _, _, Nat.zero_le _, rfl, by rw [List.take_zero, List.take_zero]; exact HT5⟩
      case round =>
        clear HT5 hw
        obtain ⟨j, va, vb, hj, rfl, hT⟩ := hrel
        by_cases hlt : j < k
        · have l1 : (j : Int) < (k : Int) := by omega
          have l0 : (0 : Int) ≤ (j : Int) := by omega
          obtain ⟨m, hm⟩ : ∃ m, m = k - 1 - j := ⟨_, rfl⟩
          have HM := Lib.hid hm
          have v1 : IntKind.i64.wrap ((k : Int) - 1) = (k : Int) - 1 := IntWalk.i64_in _ (by omega)
          have v2 : IntKind.i64.wrap ((k : Int) - 1 - (j : Int)) = (m : Int) := by rw [show (k : Int) - 1 - (j : Int) = (m : Int) by omega]; exact IntWalk.i64_in _ (by omega)
          have m1 : (m : Int) < (k : Int) := by omega
          have m0 : (0 : Int) ≤ (m : Int) := by omega
          have hmk : m < k := by omega
          clear hm
          obtain ⟨bl, off, rfl, hbl, hc⟩ := H.out.get HN.out (by omega)
          have HCm := Lib.hid (fun wr (hb : Below w.heap.size w wr) => Pos.one (w := wr) hmk hc hbl hb (H.out.mem (by rw [← HN.out]; exact hmk)))
          obtain ⟨i, f, t, sum, own, a, mz, cap', zs, first, last, share, e, hmm, hc1, hc2, hi, k0, k1, k2, k3, k4, k5, k6, k7, k8⟩ := Pos.one hlt hc hbl hT.out.below (H.out.mem (by rw [← HN.out]; exact hlt))
          have HCA := Lib.hid (HCl.out _ ba va (claimsF F0 (l.take j)) (l.getD j default).i (l.getD j default) hT.out.a.drew (by have h1 := HLe.out j; have h2 := HL00.out; rw [List.length_take] at h1; omega) (by rw [e]; exact Ints.below hi ((Below.refl _ _).drew)))
          have HTk := Lib.hid (show ((claimsF F0 (l.take j)).claim (l.getD j default).i (l.getD j default)).1 = claimsF F0 (l.take (j + 1)) from by rw [take_fwd (by rw [← HN.out]; exact hlt), claimsF_app]; rfl)
          rw [HTk.out] at HCA
          rw [e] at HCA
          unfold Po.val Po.cells at HCA
          dsimp only at HCA
          clear hc e hi hc1 hc2 hmm HTk
          go_upto_region 20 with fail
          go_cut [] from 78 to 88 (fun wx => ∃ va', Hid (Two w wx ba va' bb vb (claimsF F0 (l.take (j + 1))) (claimsF F0 (l.reverse.take j))))
          case first =>
            go_region_with (go_at_call 19; refine HCA.out.mono ?_; rintro e w6 ⟨va6, rfl, h6, hk6⟩; have HX6 := Lib.hid ((hT.out.later ((Below.refl _ _).drew)).stepA h6 hk6); clear h6 hk6)
            all_goals
              dsimp only [Exit.then]
              apply_assumption
              go_meet
              exact ⟨_, HX6⟩
          case rest =>
            obtain ⟨va6, hT6⟩ := hcut
            clear k0 k1 k2 k3 k4 k5 k6 k7 k8 HCA
            obtain ⟨i, f, t, sum, own, a, mz, cap', zs, first, last, share, e, hmm, hc1, hc2, hi, k0, k1, k2, k3, k4, k5, k6, k7, k8⟩ := HCm.out _ hT6.out.below
            have HCB := Lib.hid (HCl.out _ bb vb (claimsF F0 (l.reverse.take j)) (l.getD m default).i (l.getD m default) hT6.out.b.drew (by have h1 := HLr.out j; have h2 := HL00.out; rw [List.length_take] at h1; omega) (by rw [e]; exact Ints.below hi ((Below.refl _ _).drew)))
            have HTk := Lib.hid (show ((claimsF F0 (l.reverse.take j)).claim (l.getD m default).i (l.getD m default)).1 = claimsF F0 (l.reverse.take (j + 1)) from by rw [take_rev HN.out hlt, claimsF_app, ← HM.out]; rfl)
            rw [HTk.out] at HCB
            rw [e] at HCB
            unfold Po.val Po.cells at HCB
            dsimp only at HCB
            clear e hi hc1 hc2 hmm HTk HCm
            go_wp2_with fail
            go_region_with (go_at_call 19; refine HCB.out.mono ?_; rintro e w7 ⟨vb7, rfl, h7, hk7⟩; have HX7 := Lib.hid ((hT6.out.later ((Below.refl _ _).drew)).stepB h7 hk7); clear h7 hk7)
            all_goals
              go_wp2
              go_roundw
              case rel => exact ⟨j + 1, _, _, by omega, by go_num, HX7⟩
              case measure => simp [intOf]; omega
        · obtain rfl : j = k := by omega
          have ho := claims_order (l := l) (loss := a0) (value := a1) HPw.out HL0.out
          rw [← HF0.out] at ho
          have e1 : l.take j = l := List.take_of_length_le (by rw [HN.out]; exact Nat.le_refl _)
          have e2 : l.reverse.take j = l.reverse := List.take_of_length_le (by rw [List.length_reverse, HN.out]; exact Nat.le_refl _)
          rw [e1, e2] at hT
          have HE := Lib.hid ho.1
          have d1 : decide (paidF (claimsF F0 l) ≤ a0) = true := by rw [decide_eq_true_iff]; exact ho.2
          have HA := Lib.hid (fun w' h => HPd.out w' ba va (claimsF F0 l) h)
          have HBp := Lib.hid (fun w' h => HPd.out w' bb vb (claimsF F0 l.reverse) h)
          rw [← HE.out] at HBp
          have hEq : (paidF (claimsF F0 l) == paidF (claimsF F0 l)) = true := by simp
          clear ho e1 e2 HE HPd
          generalize paidF (claimsF F0 l) = P at *
          go_wp2_with fail
          refine (HA.out _ hT.out.a).mono ?_
          rintro e w8 ⟨rfl, hb8⟩
          have HT8 := Lib.hid (hT.out.later hb8)
          clear hb8
          go_wp2_with fail
          refine (HBp.out _ HT8.out.b).mono ?_
          rintro e w9 ⟨rfl, hb9⟩
          have HT9 := Lib.hid (HT8.out.later hb9)
          clear hb9
          go_wp2_with fail
          refine (HA.out _ HT9.out.a).mono ?_
          rintro e wa ⟨rfl, hba⟩
          have HTa := Lib.hid (HT9.out.later hba)
          clear hba
          go_wp2
          go_ret
          exact ⟨rfl, HTa.out.below⟩

theorem walk (a0 a1 : Int) (v2 : Value) (w : World) (w0 : (Lit.int .i64 a0).wf = true) (w1 : (Lit.int .i64 a1).wf = true) (w2 : Is22 w v2) :
    Calls Try.prog 6 #[.int .i64 a0, .int .i64 a1, v2] w fun e w' => e = .returned (.bool true) ∧ Below w.heap.size w w' := by
  obtain ⟨l, h, -⟩ := w2
  obtain ⟨ao, cap, rfl, h1, h2, _⟩ := h.shape
  cases hf : fewP l with
  | false => exact skip a0 a1 ao l.length cap l w h rfl (by omega) hf
  | true =>
    cases hs : newB a0 a1 with
    | false => exact bad a0 a1 ao l.length cap l w h rfl (by omega) hf hs
    | true => exact good a0 a1 ao l.length cap l w h rfl (by omega) hf hs
end claimOrder
end Go.Proofs.Ytamfdkigokicoaa
