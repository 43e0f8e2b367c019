/-
  TopBooks: the walk.
-/
import Derived.Test.YtllaahdbngjigaaDoorBkP
import Derived.Test.YtllaahdbngjigaaDoorCnt
import Derived.Test.YtllaahdbngjigaaDoorArgS
import Derived.Test.YtllaahdbngjigaaDoorArgB
namespace Go.Proofs.YtllaahdbngjigaaDoor
open Go Go.RowKit
set_option linter.unusedVariables false
set_option linter.unusedSimpArgs false
/-- The state of the writing loop. -/
structure TbI (w w' : World) (bb bs : Nat) (rv sv : Value) (st : St) (vs : List ByteArray) (k L : Nat) : Prop where
  bk : BS w' bb bs rv sv st (lkS (lsN vs k) k) k
  ws : st.ws = (lsN vs k).map textB
  last : st.last = L
  armed : st.armed = false
  down : st.down = false
  le : L ≤ k
  sz : ∀ i, i < k → (vAt vs i).size ≤ 300
  below : Below w.heap.size w w'
  b1 : w.heap.size ≤ bb
  b2 : w.heap.size ≤ bs
  b3 : ∀ x, rv.ownBlock = some x → w.heap.size ≤ x
  b4 : ∀ x, sv.ownBlock = some x → w.heap.size ≤ x
theorem TbI.wlen {w w' : World} {bb bs : Nat} {rv sv : Value} {st : St} {vs : List ByteArray} {k L : Nat} (h : TbI w w' bb bs rv sv st vs k L) : st.ws.length = k := by
  rw [h.ws, List.length_map, lsN_len]
theorem TbI.later {w w1 w2 : World} {bb bs : Nat} {rv sv : Value} {st : St} {vs : List ByteArray} {k L : Nat} (h : TbI w w1 bb bs rv sv st vs k L) (hb : Below w1.heap.size w1 w2) : TbI w w2 bb bs rv sv st vs k L :=
  ⟨h.bk.later hb, h.ws, h.last, h.armed, h.down, h.le, h.sz, h.below.trans (hb.mono h.below.size), h.b1, h.b2, h.b3, h.b4⟩
theorem tb_add {w w1 w2 : World} {bb bs : Nat} {rv sv rv' sv' : Value} {st : St} {vs : List ByteArray} {k L : Nat} (h : TbI w w1 bb bs rv sv st vs k L) (hv : (vAt vs k).size ≤ 300)
    (h1 : BS w2 bb bs rv' sv' { st with ws := st.ws ++ [textB (wholeL k (lkS (lsN vs k) k) [recF (vAt vs k)])] } (lkB ⟨#[97]⟩ (textL (wholeL k (lkS (lsN vs k) k) [recF (vAt vs k)]))) (k + 1))
    (ht : Touch (fun x => (x = bb ∨ rv.ownBlock = some x) ∨ (x = bs ∨ sv.ownBlock = some x)) w1 w2) (hr : ∀ x, rv'.ownBlock = some x → rv.ownBlock = some x ∨ w1.heap.size ≤ x) (hs : ∀ x, sv'.ownBlock = some x → sv.ownBlock = some x ∨ w1.heap.size ≤ x) :
    TbI w w2 bb bs rv' sv' { st with ws := st.ws ++ [textB (wholeL k (lkS (lsN vs k) k) [recF (vAt vs k)])] } vs (k + 1) L := by
  have e : lkS (lsN vs (k + 1)) (k + 1) = lkB ⟨#[97]⟩ (textL (wholeL k (lkS (lsN vs k) k) [recF (vAt vs k)])) := by
    show lkB _ (textL ((lsN vs (k + 1)).getD k [])) = _
    rw [lsN_get vs (k + 1) k (by omega)]
  have hbs := h.below.size
  refine ⟨by rw [e]; exact h1, ?_, h.last, h.armed, h.down, Nat.le_succ_of_le h.le, fun i hi => ?_, h.below.trans (ht.below hbs (fun x hx => ?_)), h.b1, h.b2, fun x hx => (hr x hx).elim (h.b3 x) (fun e => by omega), fun x hx => (hs x hx).elim (h.b4 x) (fun e => by omega)⟩
  · show st.ws ++ [_] = _
    rw [h.ws]; simp [lsN]
  · by_cases e : i = k
    · subst e; exact hv
    · exact h.sz i (by omega)
  · rcases hx with (rfl | hx) | (rfl | hx)
    · exact h.b1
    · exact h.b3 x hx
    · exact h.b2
    · exact h.b4 x hx
theorem tb_flush {w w1 w2 : World} {bb bs : Nat} {rv sv : Value} {st : St} {vs : List ByteArray} {k L : Nat} (h : TbI w w1 bb bs rv sv st vs k L) (hI : IsSt w2 bs sv st.sy.1) (hk : Keep bs sv w1 sv w2) : st.sy.2 = 0 ∧ TbI w w2 bb bs rv sv st.sy.1 vs k k := by
  have e : st.sy = ({ st with last := st.ws.length }, 0) := by
    unfold St.sy
    rw [if_neg (by rw [h.down]; simp), if_neg (by rw [h.armed]; simp)]
  have hl := h.wlen
  rw [e] at hI ⊢
  have hbs := h.below.size
  obtain ⟨vals, hvl, hbk⟩ := h.bk.bk
  refine ⟨rfl, ⟨⟨⟨vals, hvl, hbk.touch hk.touch (fun e => e.elim h.bk.n1 h.bk.n3) (fun x hx e => e.elim (fun e2 => h.bk.n2 (e2 ▸ hx)) (h.bk.n4 x hx))⟩, hI, h.bk.n1, h.bk.n2, h.bk.n3, h.bk.n4⟩, h.ws, hl, h.armed, h.down, Nat.le_refl _, h.sz, h.below.trans (hk.touch.below hbs (fun x hx => hx.elim (fun e => e ▸ h.b2) (h.b4 x))), h.b1, h.b2, h.b3, h.b4⟩⟩

/-- The state of the spoiling loop. -/
structure SpI (wN w' : World) (bt : Nat) (tv : Value) (vs : List ByteArray) (m q i : Nat) : Prop where
  ist : IsSt w' bt tv ⟨((spL vs m q).take i).map textB, 0, false, 0, false⟩
  below : Below wN.heap.size wN w'
  tb : wN.heap.size ≤ bt
  tvb : ∀ x, tv.ownBlock = some x → wN.heap.size ≤ x
  ne : q < i → ¬ (lkB ⟨#[97]⟩ (textL (wholeL q (lkS (lsN vs q) q) [recF (vAt vs q)]))).toList = (lkB ⟨#[97]⟩ (textL (spE vs q))).toList
theorem sp_take (vs : List ByteArray) (m q i : Nat) (h : i < m) : ((spL vs m q).take (i + 1)).map textB = ((spL vs m q).take i).map textB ++ [textB ((spL vs m q).getD i [])] := by
  have hl : i < (spL vs m q).length := by rw [spL_len]; exact h
  rw [List.take_succ_eq_append_getElem hl, List.map_append]
  simp [List.getD_eq_getElem?_getD, List.getElem?_eq_getElem hl]
theorem sp_write {wN w1 w2 : World} {bt : Nat} {tv tv' : Value} {vs : List ByteArray} {m q i : Nat} (h : SpI wN w1 bt tv vs m q i) (hi : i < m) (hne : q < i + 1 → ¬ (lkB ⟨#[97]⟩ (textL (wholeL q (lkS (lsN vs q) q) [recF (vAt vs q)]))).toList = (lkB ⟨#[97]⟩ (textL (spE vs q))).toList)
    (hI : IsSt w2 bt tv' ⟨((spL vs m q).take i).map textB ++ [textB ((spL vs m q).getD i [])], 0, false, 0, false⟩) (hk : Keep bt tv w1 tv' w2) : SpI wN w2 bt tv' vs m q (i + 1) :=
  ⟨by rw [sp_take vs m q i hi]; exact hI, h.below.trans (hk.touch.below h.below.size (fun x hx => hx.elim (fun e => e ▸ h.tb) (h.tvb x))), h.tb, fun x hx => (hk.row x hx).elim (h.tvb x) (fun e => Nat.le_trans h.below.size e), hne⟩
theorem dig_lk (tb : ByteArray) : digF ((⟨#[97, 10]⟩ : ByteArray) ++ tb).data.toList = lkB ⟨#[97]⟩ tb.data.toList := by unfold lkB; congr 1
theorem dig_lk2 (tb : ByteArray) : digF ((⟨#[97, 10]⟩ : ByteArray) ++ tb ++ ⟨#[120, 61, 49, 10]⟩).data.toList = lkB ⟨#[97]⟩ (tb ++ ⟨#[120, 61, 49, 10]⟩).data.toList := by unfold lkB; congr 1
namespace topBooks
set_option maxRecDepth 100000 in
set_option maxHeartbeats 16000000 in
theorem core (a0 : Option Addr) (n cap : Nat) (vs : List ByteArray) (f0 : Option Addr) (nf fcap : Nat) (fs : List Bool) (keep spoil : Int) (w : World) (hv : Strs w (.slice a0 n cap) vs) (hn : n = vs.length) (hf : Bools w (.slice f0 nf fcap) fs) (hnf : nf = fs.length) (hn24 : n ≤ 24) (hnf0 : 0 < nf) (hnfm : nf ≤ maxLen)
    (hk : 0 ≤ keep ∧ keep ≤ 255) (hs : 0 ≤ spoil ∧ spoil ≤ 255) :
    Calls Tryd.prog 4 #[.slice a0 n cap, .slice f0 nf fcap, .int .u8 keep, .int .u8 spoil] w fun e w' => e = .returned (.bool true) ∧ Below w.heap.size w w' := by
  have HV := Lib.hid hv
  have HN := Lib.hid hn
  have HF := Lib.hid hf
  have HNF := Lib.hid hnf
  have HC := Lib.hid (fun w => counts_any w)
  have HNew := Lib.hid (fun w => new_any w)
  have HFw := Lib.hid hnfm
  clear hv hn hf hnf hnfm
  go_enter Tryd.func4, Tryd.ntmps4
  go_wp2_with fail
  refine (HC.out _).mono ?_
  rintro e w1 ⟨rfl, hb1⟩
  have HB1 := Lib.hid hb1
  clear hb1
  go_wp2_with fail
  refine (HNew.out _).mono ?_
  rintro e w2 ⟨bs, rfl, his, hbs, hb2⟩
  have HI2 := Lib.hid his
  have HB2 := Lib.hid (HB1.out.trans (hb2.mono HB1.out.size))
  have HBs := Lib.hid (show w.heap.size ≤ bs from Nat.le_trans HB1.out.size hbs)
  have HOp := Lib.hid (open_ok w2 bs (.slice none 0 0) St.new [] his rfl rfl (by decide) (by intro i hi; cases hi))
  clear his hbs hb2
  go_wp2_with fail
  refine HOp.out.mono ?_
  rintro e w3 ⟨bb, rv, vals, rfl, h3⟩
  rw [if_pos rfl]
  have H3 := Lib.hid (show TbI w w3 bb bs rv (.slice none 0 0) St.new vs 0 0 from by
    obtain ⟨hbk, hrc, hvl, h1, h2, h4, h5⟩ := h3
    have hlt := HI2.out.lt
    refine ⟨⟨⟨vals, hvl, hbk⟩, HI2.out.kept (S := fun _ => False) (Touch.of_below h5) id (fun _ _ => id), by omega, fun e => by have := h2 _ e; omega, (fun e => by cases e), (fun x _ e => by cases e)⟩, rfl, rfl, rfl, rfl, Nat.le_refl _, by omega, HB2.out.trans (h5.mono HB2.out.size), by have := HB2.out.size; omega, HBs.out, fun x hx => by have := h2 x hx; have := HB2.out.size; omega, (fun x hx => by cases hx)⟩)
  clear h3 HOp HI2 HB2 HBs HB1
  go_wp2_with fail
  go_loopw [12, 55] (fun ll i wr => ∃ (k L : Nat) (rv sv : Value) (st : St), ll = .int .i64 (L : Int) ∧ i = .int .i64 (k : Int) ∧ k ≤ n ∧ Hid (TbI w wr bb bs rv sv st vs k L)) (fun _ i _ => n - (intOf i).toNat)
  case atStart => exact ⟨0, 0, rv, .slice none 0 0, St.new, rfl, rfl, Nat.zero_le _, H3⟩
  case round =>
    clear H3
    obtain ⟨k, L, rv, sv, st, rfl, rfl, hkn, HT⟩ := hrel
    by_cases hlt : k < n
    · have l1 : (k : Int) < (n : Int) := by omega
      have l0 : (0 : Int) ≤ (k : Int) := by omega
      have hkv : k < vs.length := by rw [← HN.out]; exact hlt
      obtain ⟨vb, voff, vcap, ev, _, _, hvb, hvc⟩ := HV.out.at (by omega)
      rw [← HN.out] at ev
      obtain ⟨rfl, rfl⟩ : a0 = some ⟨vb, voff, none⟩ ∧ cap = vcap := by
        injection ev with e1 e2 e3
        exact ⟨e1, e3⟩
      have c0 := (HT.out.below.cell (p := ⟨vb, voff + k, none⟩) hvb).trans (hvc k hkv)
      rw [show vs[k] = vAt vs k by simp [vAt, List.getD_eq_getElem?_getD, List.getElem?_eq_getElem hkv]] at c0
      obtain ⟨v, hv⟩ : ∃ v, v = vAt vs k := ⟨_, rfl⟩
      rw [← hv] at c0
      have HVk := Lib.hid hv
      clear hvc hv ev
      by_cases hsz : 300 < v.size
      · have d1 : decide ((300 : Int) < (v.size : Int)) = true := by rw [decide_eq_true_iff]; omega
        go_wp2_with fail
        refine (HC.out _).mono ?_
        rintro e w5 ⟨rfl, hb5⟩
        have HB5 := Lib.hid (HT.out.below.trans (hb5.mono HT.out.below.size))
        clear hb5
        go_wp2
        go_ret
        exact ⟨rfl, HB5.out⟩
      · have d1 : decide ((300 : Int) < (v.size : Int)) = false := by rw [decide_eq_false_iff_not]; omega
        have hA := (Below.refl wr.heap.size wr).alloc (Nat.le_refl _) (.cells #[.string ⟨#[118]⟩, .string v] 54)
        have hFl : Flds (wr.alloc (.cells #[.string ⟨#[118]⟩, .string v] 54)) (.slice (some ⟨wr.heap.size, 0, none⟩) 1 1) [recF v] := Row.of_own (own_lit02 wr #[.string ⟨#[118]⟩, .string v] 54 1 rfl)
        have HTA := Lib.hid (HT.out.later hA)
        have hlk := lkS_size (lsN vs k) k
        have HAd := Lib.hid (add_ok _ bb bs rv sv st (lkS (lsN vs k) k) k [recF v] (some ⟨wr.heap.size, 0, none⟩) 1 1 HTA.out.bk hFl (fun x hx => by
            have h2 : some wr.heap.size = some x := hx
            injection h2 with h2
            have h3 := HT.out.bk.ist.lt
            exact ⟨by omega, fun e => by have := own_lt HT.out.bk.ist.row e; omega⟩) rfl (by omega) (by omega) (by intro f hf; simp at hf; subst hf; exact ok_v (by omega)) (by omega) (by omega)
            (by have := whole_size (k := k) (lk := lkS (lsN vs k) k) (v := v) (by omega) hlk (by omega); omega) HT.out.down HT.out.armed (by rw [HT.out.wlen]; omega))
        clear hA hFl hlk
        go_wp2_with fail
        refine HAd.out.mono ?_
        rintro e w5 ⟨rv5, sv5, rfl, h1, h2, h3, h4⟩
        have HT5 := Lib.hid (tb_add HTA.out (by rw [← HVk.out]; omega) (by rw [← HVk.out]; exact h1) h2 h3 h4)
        clear h1 h2 h3 h4 HAd
        obtain ⟨q, hq⟩ : ∃ q, q = k % nf := ⟨_, rfl⟩
        have hqlt : q < nf := by rw [hq]; exact Nat.mod_lt _ hnf0
        have m1 : (k : Int) % (nf : Int) = (q : Int) := by rw [hq]; exact (Int.natCast_emod k nf).symm
        have m2 : Int.tmod (k : Int) (nf : Int) = (q : Int) := by rw [Int.tmod_eq_emod_of_nonneg (by omega)]; exact m1
        have q0 : (0 : Int) ≤ (q : Int) := by omega
        have q1 : (q : Int) < (nf : Int) := by omega
        have q2 : (0 : Int) < (nf : Int) := by omega
        have hqf : q < fs.length := by rw [← HNF.out]; exact hqlt
        obtain ⟨fb, foff, fcap2, ef, _, _, hfb, hfc⟩ := HF.out.at (by rw [← HNF.out]; exact hnf0)
        rw [← HNF.out] at ef
        obtain ⟨rfl, rfl⟩ : f0 = some ⟨fb, foff, none⟩ ∧ fcap = fcap2 := by
          injection ef with e1 e2 e3
          exact ⟨e1, e3⟩
        have f1 := (HT5.out.below.cell (p := ⟨fb, foff + q, none⟩) hfb).trans (hfc q hqf)
        generalize fs[q] = fv at *
        clear hq hfc ef c0 hqf
        have hnm := HFw.out
        unfold maxLen at hnm
        cases fv with
        | true =>
          have HFl := Lib.hid (show Calls Tryd.prog 17 #[.pointer (some ⟨bb, 0, none⟩)] w5 _ from by
            obtain ⟨vals5, _, hb5⟩ := HT5.out.bk.bk
            exact flush_ok w5 bb bs _ rv5 vals5 sv5 _ hb5 HT5.out.bk.ist)
          go_wp2_with fail
          refine HFl.out.mono ?_
          rintro e w6 ⟨rfl, h1, h2⟩
          have HT6 := Lib.hid (tb_flush HT5.out h1 h2)
          rw [HT6.out.1]
          clear h1 h2 HFl f1
          go_wp2
          go_roundw
          case rel => exact ⟨k + 1, k + 1, rv5, sv5, _, by go_num, by go_num, by omega, Lib.hid HT6.out.2⟩
          case measure => simp [intOf]; omega
        | false =>
          go_wp2
          go_roundw
          case rel => exact ⟨k + 1, L, rv5, sv5, _, rfl, by go_num, by omega, HT5⟩
          case measure => simp [intOf]; omega
    · obtain rfl : k = n := by omega
      obtain ⟨m, hm1, hm2, hm3⟩ := crash_nums st keep k HT.out.wlen (by rw [HT.out.last]; exact HT.out.le)
      rw [HT.out.last] at hm1
      have HCr := Lib.hid (crash_any wr bs sv st keep HT.out.bk.ist)
      rw [hm3] at HCr
      clear hm3
      go_wp2_with fail
      refine HCr.out.mono ?_
      rintro e w5 ⟨sv5, rfl, hi5, hk5⟩
      have hB5 : Below w.heap.size w w5 := HT.out.below.trans (hk5.touch.below HT.out.below.size (fun x hx => hx.elim (fun e => e ▸ HT.out.b2) (HT.out.b4 x)))
      have hws : st.ws.take m = (lsN vs m).map textB := by rw [HT.out.ws, ← List.map_take, lsN_take vs k m hm2]
      rw [hws] at hi5
      have hsv : ∀ i, i < m → (vAt vs i).size ≤ 300 := fun i hi => HT.out.sz i (by omega)
      have hlen := lsN_len vs m
      have hOp := open_ok w5 bs sv5 ⟨(lsN vs m).map textB, m, false, 0, false⟩ (lsN vs m) hi5 rfl rfl (by omega) (by rw [hlen]; exact fine_lsN (by omega) hsv)
      rw [hlen] at hOp
      have HOp2 := Lib.hid hOp
      have HI5 := Lib.hid hi5
      have HB5 := Lib.hid hB5
      have HSv := Lib.hid hsv
      have HSB := Lib.hid (show w.heap.size ≤ bs from HT.out.b2)
      clear hi5 hk5 hB5 hws hsv hlen hOp HCr HT
      go_wp2_with fail
      refine HOp2.out.mono ?_
      rintro e w6 ⟨b2, rv2, vals2, rfl, hb2, hr2, hv2, _, _, _, hbe⟩
      rw [if_pos rfl]
      have HB6 := Lib.hid (HB5.out.trans (hbe.mono HB5.out.size))
      have HI6 := Lib.hid (HI5.out.kept (S := fun _ => False) (Touch.of_below hbe) id (fun _ _ => id))
      have HLn := Lib.hid (show ∀ wx, Below w6.heap.size w6 wx → Calls Tryd.prog 19 #[.pointer (some ⟨b2, 0, none⟩)] wx fun e w' => e = .returned (.int .i64 (m : Int)) ∧ wx = w' from fun wx hx => by
        have := blen_ok wx b2 bs _ rv2 vals2 (hb2.touch (S := fun _ => False) (Touch.of_below hx) id (fun _ _ => id))
        rw [hv2] at this
        exact this)
      have hrl : (((lsN vs m).take m).map (·.drop 2)).length = m := by rw [List.length_map, List.length_take, lsN_len]; omega
      have HAl := Lib.hid (all_ok w6 b2 bs _ rv2 vals2 _ hb2 hr2 (by rw [hrl]; omega) (fun i hi => by rw [hrl] at hi; rw [recs_lsN vs m i hi]; exact ⟨by simp, by simp⟩))
      clear hb2 hr2 hv2 hbe HOp2 HI5
      go_wp2_with fail
      refine (HLn.out w6 (Below.refl _ _)).mono ?_
      rintro e w7 ⟨rfl, rfl⟩
      go_wp2_with fail
      refine (HLn.out w6 (Below.refl _ _)).mono ?_
      rintro e w7 ⟨rfl, rfl⟩
      go_wp2_with fail
      refine HAl.out.mono ?_
      rintro e w8 ⟨ao8, cap8, us, rfl, hrow, hul, huf, hb8⟩
      rw [hrl] at hrow hul huf ⊢
      have HB8 := Lib.hid (HB6.out.trans (hb8.mono HB6.out.size))
      have HI8 := Lib.hid (HI6.out.kept (S := fun _ => False) (Touch.of_below hb8) id (fun _ _ => id))
      have HBl8 := Lib.hid hb8
      have HUf := Lib.hid (show ∀ i, i < m → Flds w8 (us.getD i .nilIface) [recF (vAt vs i)] from fun i hi => by have := huf i hi; rw [recs_lsN vs m i hi] at this; exact this)
      have HRow := Lib.hid hrow
      have HUl := Lib.hid hul
      clear hrow hul huf hb8 hrl HAl HI6 HB6
      go_wp2_with fail
      go_loopw [123] (fun i wr => ∃ (j : Nat), i = .int .i64 (j : Int) ∧ j ≤ m ∧ Hid (wr.heap = w8.heap ∧ Below w8.heap.size w8 wr)) (fun i _ => m - (intOf i).toNat)
      case atStart => exact ⟨0, rfl, Nat.zero_le _, Lib.hid ⟨rfl, Below.refl _ _⟩⟩
      case round =>
        obtain ⟨j, rfl, hj, HW⟩ := hrel
        by_cases hlt2 : j < m
        · have l1 : (j : Int) < (m : Int) := by omega
          have l0 : (0 : Int) ≤ (j : Int) := by omega
          have l2 : (j : Int) < (k : Int) := by omega
          obtain ⟨ub, uoff, ucap, eu, _, _, _, huc⟩ := Row.at HRow.out (by rw [HUl.out]; omega)
          obtain ⟨rfl, rfl⟩ : ao8 = some ⟨ub, uoff, none⟩ ∧ cap8 = ucap := by
            injection eu with e1 e2 e3
            exact ⟨e1, e3⟩
          have u0 := huc j (by rw [HUl.out]; exact hlt2)
          have hf := HUf.out j hlt2
          have e1 : us[j]'(by rw [HUl.out]; exact hlt2) = us.getD j .nilIface := by
            simp [List.getD_eq_getElem?_getD, List.getElem?_eq_getElem (show j < us.length by rw [HUl.out]; exact hlt2)]
          rw [e1] at u0
          generalize us.getD j .nilIface = uj at *
          obtain ⟨ja, jc, rfl, _⟩ := hf.shape
          obtain ⟨jb, joff, rfl, _, hjc⟩ := Flds.get hf rfl (by simp)
          have j1 := (hjc 0 (by simp)).2
          simp only [List.getElem_cons_zero, Nat.zero_mul, Nat.add_zero] at j1
          have hkv : j < vs.length := by rw [← HN.out]; omega
          obtain ⟨vb, voff, vcap, ev, _, _, hvb, hvc⟩ := HV.out.at (by omega)
          rw [← HN.out] at ev
          obtain ⟨rfl, rfl⟩ : a0 = some ⟨vb, voff, none⟩ ∧ cap = vcap := by
            injection ev with e1 e2 e3
            exact ⟨e1, e3⟩
          have c0 := (HB8.out.cell (p := ⟨vb, voff + j, none⟩) hvb).trans (hvc j hkv)
          rw [show vs[j] = vAt vs j by simp [vAt, List.getD_eq_getElem?_getD, List.getElem?_eq_getElem hkv]] at c0
          have u0 : wr.cell? ⟨ub, uoff + j, none⟩ = some (.slice (some ⟨jb, joff, none⟩) 1 jc) := (heap_cell (by rw [HW.out.1])).trans u0
          have j1 : wr.cell? ⟨jb, joff + 1, none⟩ = some (.string (vAt vs j)) := (heap_cell (by rw [HW.out.1])).trans j1
          have c0 : wr.cell? ⟨vb, voff + j, none⟩ = some (.string (vAt vs j)) := (heap_cell (by rw [HW.out.1])).trans c0
          generalize vAt vs j = v at *
          clear huc hf e1 hjc hvc ev eu
          go_wp2_with fail
          go_quiet (fail)
          clear u0 j1 c0
          go_wp2
          go_roundw
          case rel => exact ⟨j + 1, by go_num, by omega, Lib.hid ⟨HW.out.1, below_drewN HW.out.2 nq⟩⟩
          case measure => simp [intOf]; omega
        · obtain rfl : j = m := by omega
          have HB9 := Lib.hid (HB8.out.trans (HW.out.2.mono HB8.out.size))
          have HI9 := Lib.hid (HI8.out.kept (S := fun _ => False) (Touch.of_below HW.out.2) id (fun _ _ => id))
          have HBl9 := Lib.hid (HBl8.out.trans (HW.out.2.mono HBl8.out.size))
          obtain ⟨z, rfl⟩ : ∃ z : Nat, spoil = z := ⟨spoil.toNat, by omega⟩
          clear HUf HRow HUl HI8 HB8 HW
          go_wp2_with fail
          refine (HLn.out wr HBl9.out).mono ?_
          rintro e w10 ⟨rfl, rfl⟩
          by_cases hm0 : j = 0
          · subst hm0
            go_wp2
            go_ret
            exact ⟨rfl, HB9.out⟩
          · have e0 : ((j : Int) == 0) = false := by rw [beq_eq_false_iff_ne]; omega
            obtain ⟨q, hq⟩ : ∃ q, q = z % j := ⟨_, rfl⟩
            have hqlt : q < j := by rw [hq]; exact Nat.mod_lt _ (by omega)
            have r1 : (z : Int) % (j : Int) = (q : Int) := by rw [hq]; exact (Int.natCast_emod z j).symm
            have r2 : Int.tmod (z : Int) (j : Int) = (q : Int) := by rw [Int.tmod_eq_emod_of_nonneg (by omega)]; exact r1
            have r3 : (0 : Int) < (j : Int) := by omega
            have HLen := Lib.hid (len_any wr bs sv5 _ HI9.out)
            clear hq hm0
            go_wp2_with fail
            refine (HLn.out wr HBl9.out).mono ?_
            rintro e w10 ⟨rfl, rfl⟩
            go_wp2_with fail
            refine (HNew.out wr).mono ?_
            rintro e w11 ⟨bt, rfl, hit, hbt, hb11⟩
            have HSp := Lib.hid (show SpI wr w11 bt (.slice none 0 0) vs j q 0 from ⟨hit, hb11, hbt, (fun x hx => by cases hx), fun h => by omega⟩)
            have HLen := Lib.hid (len_any w11 bs sv5 _ (HI9.out.kept (S := fun _ => False) (Touch.of_below hb11) id (fun _ _ => id)))
            rw [show ((⟨(lsN vs j).map textB, j, false, 0, false⟩ : St).ws.length) = j by simp [lsN_len]] at HLen
            clear hit hbt hb11 r1 r2
            go_wp2_with fail
            refine HLen.out.mono ?_
            rintro e w12 ⟨rfl, rfl⟩
            go_wp2_with fail
            obtain ⟨wN, rfl⟩ : ∃ wN, wN = wr := ⟨_, rfl⟩
            clear HLen
            go_loopw [154] (fun i wr => ∃ (i2 : Nat) (tv : Value), i = .int .i64 (i2 : Int) ∧ i2 ≤ j ∧ Hid (SpI wN wr bt tv vs j q i2)) (fun i _ => j - (intOf i).toNat)
            case atStart => exact ⟨0, _, rfl, Nat.zero_le _, HSp⟩
            case round =>
              clear HSp
              obtain ⟨i, tv, rfl, hij, HS⟩ := hrel
              by_cases hlt3 : i < j
              · have l1 : (i : Int) < (j : Int) := by omega
                have l0 : (0 : Int) ≤ (i : Int) := by omega
                have HRd := Lib.hid (read_any wr bs sv5 _ (i : Int) (HI9.out.kept (S := fun _ => False) (Touch.of_below HS.out.below) id (fun _ _ => id)))
                rw [show rdV ((⟨(lsN vs j).map textB, j, false, 0, false⟩ : St).rd (i : Int)) = .tuple #[.string (textB ((lsN vs j).getD i [])), .int .i64 0] from by
                  have hk2 : i < (lsN vs j).length := by rw [lsN_len]; exact hlt3
                  unfold rdV St.rd
                  rw [if_neg (by simp), if_neg (by simp only [List.length_map]; omega)]
                  simp [List.getD_eq_getElem?_getD, List.getElem?_eq_getElem hk2]] at HRd
                have hsz : (textB ((lsN vs j).getD i [])).size ≤ 700 := by
                  rw [lsN_get vs j i hlt3]
                  exact whole_size (by omega) (lkS_size _ _) (HSv.out i hlt3)
                obtain ⟨tb, htb⟩ : ∃ tb, tb = textB ((lsN vs j).getD i []) := ⟨_, rfl⟩
                rw [← htb] at HRd hsz
                have HTb := Lib.hid htb
                clear htb
                go_wp2_with fail
                refine HRd.out.mono ?_
                rintro e w13 ⟨rfl, rfl⟩
                have HWr := Lib.hid (fun (w' : World) (tb' : ByteArray) (hI : IsSt w' bt tv ⟨((spL vs j q).take i).map textB, 0, false, 0, false⟩) (hz : tb'.size ≤ 4096) => show Calls Tryd.prog 24 #[.pointer (some ⟨bt, 0, none⟩), .string tb'] w' fun e w2 => ∃ v', e = .returned (.int .i64 0) ∧ IsSt w2 bt v' ⟨((spL vs j q).take i).map textB ++ [tb'], 0, false, 0, false⟩ ∧ Keep bt tv w' v' w2 from by
                  have h1 := write_any w' bt tv _ tb' hI
                  have h2 : (St.wr tb' ⟨((spL vs j q).take i).map textB, 0, false, 0, false⟩) = (⟨((spL vs j q).take i).map textB ++ [tb'], 0, false, 0, false⟩, 0) := by
                    unfold St.wr
                    rw [if_neg (by simp), if_neg (by omega), if_neg (by simp only [List.length_map, List.length_take]; omega), if_neg (by simp)]
                  rw [h2] at h1
                  exact h1)
                by_cases hiq : i = q
                · subst hiq
                  have hgl : (lsN vs j).getD i [] = wholeL i (lkS (lsN vs i) i) [recF (vAt vs i)] := lsN_get vs j i hlt3
                  have e1 : tb.data.toList = textL (wholeL i (lkS (lsN vs i) i) [recF (vAt vs i)]) := by rw [HTb.out, hgl]; rfl
                  have e2 : tb ++ ⟨#[120, 61, 49, 10]⟩ = textB (spE vs i) := by rw [sp_text, HTb.out, hgl]
                  have s1 : ((⟨#[97, 10]⟩ : ByteArray) ++ tb).size = 2 + tb.size := by rw [ByteArray.size_append]; rfl
                  have s2 : ((⟨#[97, 10]⟩ : ByteArray) ++ tb ++ ⟨#[120, 61, 49, 10]⟩).size = 2 + tb.size + 4 := by rw [ByteArray.size_append, s1]; rfl
                  have s3 : (tb ++ ⟨#[120, 61, 49, 10]⟩ : ByteArray).size = tb.size + 4 := by rw [ByteArray.size_append]; rfl
                  have HD1 := Lib.hid (dig_any ((⟨#[97, 10]⟩ : ByteArray) ++ tb) (by rw [s1]; unfold maxLen; omega) wr)
                  have HD2 := Lib.hid (fun w => dig_any ((⟨#[97, 10]⟩ : ByteArray) ++ tb ++ ⟨#[120, 61, 49, 10]⟩) (by rw [s2]; unfold maxLen; omega) w)
                  rw [dig_lk] at HD1
                  rw [dig_lk2] at HD2
                  have E1 := Lib.hid e1
                  have E2 := Lib.hid e2
                  have S3 := Lib.hid s3
                  clear hgl e1 e2 s1 s2 s3
                  generalize hL1 : lkB ⟨#[97]⟩ tb.data.toList = d1 at *
                  generalize hL2 : lkB ⟨#[97]⟩ (tb ++ ⟨#[120, 61, 49, 10]⟩).data.toList = d2 at *
                  have HL1 := Lib.hid hL1
                  have HL2 := Lib.hid hL2
                  clear hL1 hL2
                  go_wp2_with fail
                  refine HD1.out.mono ?_
                  rintro e w14 ⟨rfl, hb14⟩
                  have HB14 := Lib.hid hb14
                  clear hb14
                  go_wp2_with fail
                  refine (HD2.out _).mono ?_
                  rintro e w15 ⟨rfl, hb15⟩
                  have HB15 := Lib.hid (HB14.out.trans (hb15.mono HB14.out.size))
                  clear hb15
                  by_cases hde : d1.toList = d2.toList
                  · have f1 : (d1.toList == d2.toList) = true := by simpa using hde
                    go_wp2
                    go_ret
                    exact ⟨rfl, HB9.out.trans ((HS.out.below.trans (HB15.out.mono HS.out.below.size)).mono HB9.out.size)⟩
                  · have f1 : (d1.toList == d2.toList) = false := by simpa using hde
                    have HNe := Lib.hid hde
                    clear hde
                    have HSw := Lib.hid (HWr.out w15 (tb ++ ⟨#[120, 61, 49, 10]⟩) (HS.out.ist.kept (S := fun _ => False) (Touch.of_below HB15.out) id (fun _ _ => id)) (by rw [S3.out]; omega))
                    go_wp2_with fail
                    refine HSw.out.mono ?_
                    rintro e w16 ⟨tv2, rfl, hi16, hk16⟩
                    have HS16 := Lib.hid (show SpI wN w16 bt tv2 vs j i (i + 1) from sp_write (w1 := w15) ⟨HS.out.ist.kept (S := fun _ => False) (Touch.of_below HB15.out) id (fun _ _ => id), HS.out.below.trans (HB15.out.mono HS.out.below.size), HS.out.tb, HS.out.tvb, HS.out.ne⟩ hlt3 (fun _ => by
                        have h1 := HNe.out
                        rw [← HL1.out, ← HL2.out, E1.out, E2.out] at h1
                        exact h1) (by rw [spL_eq vs j i hlt3, ← E2.out]; exact hi16) hk16)
                    clear hi16 hk16 f1
                    go_wp2
                    go_roundw
                    case rel => exact ⟨i + 1, tv2, by go_num, by omega, HS16⟩
                    case measure => simp [intOf]; omega
                · have d1 : ((i : Int) == (q : Int)) = false := by rw [beq_eq_false_iff_ne]; omega
                  have HSw := Lib.hid (HWr.out wr tb HS.out.ist (by omega))
                  go_wp2_with fail
                  refine HSw.out.mono ?_
                  rintro e w16 ⟨tv2, rfl, hi16, hk16⟩
                  have HS16 := Lib.hid (show SpI wN w16 bt tv2 vs j q (i + 1) from sp_write HS.out hlt3 (fun h => HS.out.ne (by omega)) (by rw [spL_ne vs j q i hiq, ← HTb.out]; exact hi16) hk16)
                  clear hi16 hk16 d1
                  go_wp2
                  go_roundw
                  case rel => exact ⟨i + 1, tv2, by go_num, by omega, HS16⟩
                  case measure => simp [intOf]; omega
              · obtain rfl : i = j := by omega
                have hsp : (spL vs i q).take i = spL vs i q := List.take_of_length_le (by rw [spL_len]; exact Nat.le_refl _)
                have hi := HS.out.ist
                rw [hsp] at hi
                have HCk := Lib.hid (check_ok wr bt tv _ (spL vs i q) (q + 1) hi rfl rfl (by rw [spL_len]; omega) (by rw [spL_len]; omega) (sp_fine (by omega) hqlt (HSv.out)) (fun h => by rw [spL_len] at h; exact sp_wrong (by omega) h HSv.out (HS.out.ne hqlt)))
                rw [spL_len] at HCk
                clear hsp hi
                go_wp2_with fail
                refine HCk.out.mono ?_
                rintro e w13 ⟨rfl, hb13⟩
                have HB13 := Lib.hid (HB9.out.trans ((HS.out.below.trans (hb13.mono HS.out.below.size)).mono HB9.out.size))
                have HBl13 := Lib.hid (HBl9.out.trans ((HS.out.below.trans (hb13.mono HS.out.below.size)).mono HBl9.out.size))
                clear hb13 HCk
                have t0 : (((q : Int) + 1) == (q : Int)) = false := by rw [beq_eq_false_iff_ne]; omega
                have q9 : q ≤ 100 := by omega
                by_cases hqj : q + 1 = i
                · rw [if_pos hqj]
                  have t1 : (((q : Int) + 1) == (i : Int)) = true := by rw [beq_iff_eq]; omega
                  clear hqj hij hj hlt3
                  go_wp2_with fail
                  refine (HLn.out w13 HBl13.out).mono ?_
                  rintro e w14 ⟨rfl, rfl⟩
                  go_wp2
                  go_ret
                  exact ⟨rfl, HB13.out⟩
                · rw [if_neg hqj]
                  clear hqj
                  go_wp2
                  go_ret
                  exact ⟨rfl, HB13.out⟩
set_option maxRecDepth 100000 in
set_option maxHeartbeats 4000000 in
theorem skip (a0 : Option Addr) (n cap : Nat) (f0 : Option Addr) (nf fcap : Nat) (keep spoil : Int) (w : World) (h : 24 < n ∨ nf = 0) :
    Calls Tryd.prog 4 #[.slice a0 n cap, .slice f0 nf fcap, .int .u8 keep, .int .u8 spoil] w fun e w' => e = .returned (.bool true) ∧ Below w.heap.size w w' := by
  have HC := Lib.hid (fun w => counts_any w)
  go_enter Tryd.func4, Tryd.ntmps4
  go_wp2_with fail
  refine (HC.out _).mono ?_
  rintro e w1 ⟨rfl, hb1⟩
  have HB1 := Lib.hid hb1
  clear hb1
  by_cases h1 : 24 < n
  · have d1 : decide ((24 : Int) < (n : Int)) = true := by rw [decide_eq_true_iff]; omega
    clear h
    go_wp2_with fail
    refine (HC.out _).mono ?_
    rintro e w2 ⟨rfl, hb2⟩
    have HB2 := Lib.hid (HB1.out.trans (hb2.mono HB1.out.size))
    clear hb2
    go_wp2
    go_ret
    exact ⟨rfl, HB2.out⟩
  · have d1 : decide ((24 : Int) < (n : Int)) = false := by rw [decide_eq_false_iff_not]; omega
    obtain rfl : nf = 0 := by omega
    clear h
    go_wp2_with fail
    refine (HC.out _).mono ?_
    rintro e w2 ⟨rfl, hb2⟩
    have HB2 := Lib.hid (HB1.out.trans (hb2.mono HB1.out.size))
    clear hb2
    go_wp2
    go_ret
    exact ⟨rfl, HB2.out⟩

theorem u8_bd {z : Int} (h : (Lit.int .u8 z).wf = true) : 0 ≤ z ∧ z ≤ 255 := by
  simp only [Lit.wf, Bool.and_eq_true, decide_eq_true_eq] at h
  have h1 : IntKind.u8.min = 0 := by decide
  have h2 : IntKind.u8.max = 255 := by decide
  omega
theorem walk (v0 v1 : Value) (a2 a3 : Int) (w : World) (w0 : Is44 w v0) (w1 : Is45 w v1) (w2 : (Lit.int .u8 a2).wf = true) (w3 : (Lit.int .u8 a3).wf = true) (hw : True) :
    Calls Tryd.prog 4 #[v0, v1, .int .u8 a2, .int .u8 a3] w fun e w' => e = .returned (.bool true) ∧ Below w.heap.size w w' := by
  obtain ⟨vs, hv, _⟩ := w0
  obtain ⟨fs, hf⟩ := w1
  obtain ⟨ao, cap, rfl, _⟩ := hv.shape
  obtain ⟨fo, fcap, rfl, h1, h2, _⟩ := hf.shape
  by_cases h : 24 < vs.length ∨ fs.length = 0
  · exact skip ao _ cap fo _ fcap a2 a3 w h
  · exact core ao _ cap vs fo _ fcap fs a2 a3 w hv rfl hf rfl (by omega) (by omega) (by omega) (u8_bd w2) (u8_bd w3)
theorem laid_met {W : World} (h : laidMetH Tryd.prog Rows.topBooksRow.laid W) : True := trivial
end topBooks
end Go.Proofs.YtllaahdbngjigaaDoor
