/-
  TopRisk: the walk.
-/
import Derived.Test.YtofkeipfkglljaaDoorRiskP
import Derived.Test.YtofkeipfkglljaaDoorArgU8
import Derived.Test.YtofkeipfkglljaaDoorMNets
namespace Go.Proofs.YtofkeipfkglljaaDoor
open Go Go.RowKit
set_option linter.unusedVariables false
set_option linter.unusedSimpArgs false

def Is26 (w : World) (v : Value) : Prop := ∃ o : Po, v = o.val ∧ Ints w o.cv o.zs ∧ o.i.size ≤ maxLen ∧ o.f.size ≤ maxLen ∧ o.t.size ≤ maxLen
set_option maxRecDepth 20000 in
theorem open26 {H : Type} {enc : TypeId × Value → H} {W : World} {base : Nat} {v : Value} {d : DataW H} {p : List MemPlace} (hval : Value.okWide Tryd.prog W .any base 26 v)
    (h : DataW.Trod enc Tryd.prog W 0 (fun _ => true) true 26 v d p) : Is26 W v := by
  obtain ⟨⟨cs⟩, rfl, hsz⟩ := WideShapes.okWide_struct Tryd.underlying26 hval
  rw [cellsPol] at hsz
  obtain ⟨fuel, hf⟩ := h
  have hsz : cs.length = 9 := hsz
  match cs, hsz with
  | [c0, c1, c2, c3, c4, c5, c6, c7, c8], _ =>
    have ht : DataW.trod enc Tryd.prog W 0 (fun _ => true) true fuel 26 [c0, c1, c2, c3, c4, c5, c6, c7, c8] = some (d, p) := by simpa [Value.cells] using hf
    obtain ⟨_, m, hps⟩ := fields_at Tryd.underlying26 (by kernel_rfl) (by kernel_rfl) ht
    obtain ⟨v0, y0, e0, p0⟩ := hps 0 _ rfl
    obtain ⟨v1, y1, e1, p1⟩ := hps 1 _ rfl
    obtain ⟨v2, y2, e2, p2⟩ := hps 2 _ rfl
    obtain ⟨v3, y3, e3, p3⟩ := hps 3 _ rfl
    obtain ⟨v4, y4, e4, p4⟩ := hps 4 _ rfl
    obtain ⟨v5, y5, e5, p5⟩ := hps 5 _ rfl
    obtain ⟨v6, y6, e6, p6⟩ := hps 6 _ rfl
    obtain ⟨v7, y7, e7, p7⟩ := hps 7 _ rfl
    obtain ⟨v8, y8, e8, p8⟩ := hps 8 _ rfl
    simp at e0 e1 e2 e3 e4 e5 e6 e7 e8
    subst e0 e1 e2 e3 e4 e5 e6 e7 e8
    obtain ⟨z0, r0, _, hw0⟩ := DataW.trod_string Tryd.underlying9 p0
    obtain ⟨z1, r1, _, hw1⟩ := DataW.trod_string Tryd.underlying9 p1
    obtain ⟨z2, r2, _, hw2⟩ := DataW.trod_string Tryd.underlying9 p2
    obtain ⟨z3, r3, _, hw3⟩ := DataW.trod_int Tryd.underlying2 p3
    obtain ⟨z4, r4, _, hw4⟩ := DataW.trod_int Tryd.underlying2 p4
    obtain ⟨zs, hzs⟩ := ints_trod p5
    obtain ⟨z6, r6, _, hw6⟩ := DataW.trod_int Tryd.underlying3 p6
    obtain ⟨z7, r7, _, hw7⟩ := DataW.trod_int Tryd.underlying3 p7
    obtain ⟨z8, r8, _, hw8⟩ := DataW.trod_int Tryd.underlying3 p8
    cases r0; cases r1; cases r2; cases r3; cases r4; cases r6; cases r7; cases r8
    exact ⟨⟨z0, z1, z2, z3, z4, _, zs, z6, z7, z8⟩, rfl, hzs.1, hw0, hw1, hw2⟩
theorem u32_bd {z : Int} (h : (Lit.int .u32 z).wf = true) : 0 ≤ z ∧ z ≤ 4294967295 := by
  simp only [Lit.wf, Bool.and_eq_true, decide_eq_true_eq] at h
  have h1 : IntKind.u32.min = 0 := by decide
  have h2 : IntKind.u32.max = 4294967295 := by decide
  omega
namespace topRisk
set_option maxRecDepth 100000 in
set_option maxHeartbeats 16000000 in
theorem core (a0 loss value lost : Int) (pi pf pt : ByteArray) (psum pown : Int) (pa : Option Addr) (pm pcap : Nat) (pzs : List Int) (pfirst plast pshare : Int) (ao : Option Addr) (n cap : Nat) (zs : List Int) (w : World)
    (hi : Ints w (.slice pa pm pcap) pzs) (hpn : pm = pzs.length) (hd : U8s w (.slice ao n cap) zs) (hn : n = zs.length) (hcap : n ≤ maxLen) (hz : ∀ k, k < n → 0 ≤ zs.getD k 0 ∧ zs.getD k 0 ≤ 255) (hT : Terms w)
    (ha : 0 ≤ a0 ∧ a0 ≤ 255) (hlo : 0 ≤ loss ∧ loss ≤ 255) (hva : 0 ≤ value ∧ value < 4294967296) (hls : 0 ≤ lost ∧ lost < 4294967296) :
    Calls Tryd.prog 3 #[.int .u8 a0, .slice ao n cap, .int .u8 loss, .int .u32 value, .int .u32 lost, .agg #[.string pi, .string pf, .string pt, .int .i64 psum, .int .i64 pown, .slice pa pm pcap, .int .i64 pfirst, .int .i64 plast, .int .i64 pshare]] w fun e w' => e = .returned (.bool true) ∧ Below w.heap.size w w' := by
  have hA := (Below.refl w.heap.size w).alloc (Nat.le_refl _) (.cells #[.string pi, .string pf, .string pt, .int .i64 psum, .int .i64 pown, .slice pa pm pcap, .int .i64 pfirst, .int .i64 plast, .int .i64 pshare] 26)
  have HX := Lib.hid (fun (w' : World) (hb : Below (w.alloc (.cells #[.string pi, .string pf, .string pt, .int .i64 psum, .int .i64 pown, .slice pa pm pcap, .int .i64 pfirst, .int .i64 plast, .int .i64 pshare] 26)).heap.size (w.alloc (.cells #[.string pi, .string pf, .string pt, .int .i64 psum, .int .i64 pown, .slice pa pm pcap, .int .i64 pfirst, .int .i64 plast, .int .i64 pshare] 26)) w') j v hv => box_at (j := j) (v := v) hb hv)
  have HI := Lib.hid (hi.below hA)
  have HD := Lib.hid (hd.below hA)
  have HT := Lib.hid (hT.below hA)
  have HNt := Lib.hid (fun w => nets_any w)
  have hsz : (w.alloc (.cells #[.string pi, .string pf, .string pt, .int .i64 psum, .int .i64 pown, .slice pa pm pcap, .int .i64 pfirst, .int .i64 plast, .int .i64 pshare] 26)).heap.size = w.heap.size + 1 := by simp
  have HSz := Lib.hid hsz
  have HA := Lib.hid hA
  have HN := Lib.hid hn
  have HPN := Lib.hid hpn
  have HZ := Lib.hid hz
  have hml := hcap
  unfold maxLen at hml
  clear hA hi hd hT hsz hn hpn hz
  go_enter Tryd.func3, Tryd.ntmps3
  go_upto_region 1 with fail
  generalize w.alloc (.cells #[.string pi, .string pf, .string pt, .int .i64 psum, .int .i64 pown, .slice pa pm pcap, .int .i64 pfirst, .int .i64 plast, .int .i64 pshare] 26) = wP at *
  go_cut [55] from 29 to 55 (fun x wx => ∃ b : Bool, x = .bool b ∧ Hid (Below wP.heap.size wP wx))
  case first =>
    go_wp2_with fail
    refine (HNt.out _).mono ?_
    rintro e w1 ⟨rfl, hb1⟩
    have HB1 := Lib.hid hb1
    have q0 := HX.out w1 hb1 0 _ rfl
    have q1 := HX.out w1 hb1 1 _ rfl
    have q2 := HX.out w1 hb1 2 _ rfl
    have q5 := HX.out w1 hb1 5 _ rfl
    clear hb1
    by_cases g1 : 8 < n
    · have d1 : decide ((8 : Int) < (n : Int)) = true := by rw [decide_eq_true_iff]; omega
      go_wp2
      go_meet
      exact ⟨_, rfl, HB1⟩
    · have d1 : decide ((8 : Int) < (n : Int)) = false := by rw [decide_eq_false_iff_not]; omega
      by_cases g2 : 20 < pm
      · have d2 : decide ((20 : Int) < (pm : Int)) = true := by rw [decide_eq_true_iff]; omega
        go_wp2
        go_meet
        exact ⟨_, rfl, HB1⟩
      · have d2 : decide ((20 : Int) < (pm : Int)) = false := by rw [decide_eq_false_iff_not]; omega
        go_wp2
        all_goals
          go_meet
          exact ⟨_, rfl, HB1⟩
  case rest =>
    obtain ⟨b, rfl, hb⟩ := hcut
    cases b with
    | true =>
      go_wp2_with fail
      refine (HNt.out _).mono ?_
      rintro e w2 ⟨rfl, hb2⟩
      have HB2 := Lib.hid (HA.out.trans (((hb.out.trans (hb2.mono hb.out.size))).mono HA.out.size))
      clear hb2
      go_wp2
      go_ret
      exact ⟨rfl, HB2.out⟩
    | false =>
      go_wp2_with fail
      refine (cus_new _).mono ?_
      rintro e w2 ⟨rfl, hm2, hc2, hb2⟩
      have HB2 := Lib.hid (hb.out.trans (hb2.mono hb.out.size))
      have HL2 := Lib.hid (And.intro (lt_of_block hm2) (lt_of_block hc2))
      have HLm := Lib.hid hb.out.size
      have HBg := Lib.hid (begin_ok w2 (wc.heap.size + 1) wc.heap.size hc2 hm2)
      generalize hbm : wc.heap.size = bm at *
      clear hm2 hc2 hb2 HNt
      go_wp2_with fail
      refine HBg.out.mono ?_
      rintro e w3 ⟨v3, rfl, hch, ht3, hown⟩
      have hNx := heap_alloc_new w3 (.cells #[.string ⟨#[116, 114, 117, 99, 107]⟩, .string ⟨#[108, 105, 110, 101]⟩, .string ⟨#[113, 117, 97, 121]⟩, .string ⟨#[121]⟩] 9)
      have hb4 := (Below.refl w3.heap.size w3).alloc (Nat.le_refl _) (.cells #[.string ⟨#[116, 114, 117, 99, 107]⟩, .string ⟨#[108, 105, 110, 101]⟩, .string ⟨#[113, 117, 97, 121]⟩, .string ⟨#[121]⟩] 9)
      have HL3 := Lib.hid ht3.size
      have HB3 := Lib.hid (HB2.out.trans (ht3.below HB2.out.size (fun x hx => by rw [hx]; exact HLm.out)))
      go_upto_block 0 with fail
      generalize hw4 : w3.alloc (.cells #[.string ⟨#[116, 114, 117, 99, 107]⟩, .string ⟨#[108, 105, 110, 101]⟩, .string ⟨#[113, 117, 97, 121]⟩, .string ⟨#[121]⟩] 9) = w4 at *
      have HS4 := Lib.hid (show w4.heap.size = w3.heap.size + 1 by rw [← hw4]; simp)
      have HN4 := Lib.hid hNx
      have HB4 := Lib.hid (HB3.out.trans (hb4.mono HB3.out.size))
      have HC4 := Lib.hid (hch.later hb4)
      have HO4 := Lib.hid (show (∀ k, v3.ownBlock = some k → wP.heap.size ≤ k ∧ k ≠ w3.heap.size) from fun k hk => by
        have h1 := hown k hk
        have h2 := own_lt hch.row hk
        have h3 := HL2.out.1
        have h4 := HLm.out
        exact ⟨by omega, by omega⟩)
      have HLb := Lib.hid (show wP.heap.size ≤ bm ∧ bm < w3.heap.size ∧ bm + 1 < w3.heap.size from ⟨HLm.out, by have := HL2.out.1; have := HL3.out; omega, by have := HL2.out.2; have := HL3.out; omega⟩)
      clear hNx hb4 hch ht3 hown HBg hw4
      go_cut [14, 15, 17, 18] from 68 to 99 (fun sat who sa sb wx => ∃ (A k : Nat) (T : Int) (v : Value) (hs : List Hand), sat = .int .i64 (A : Int) ∧ A ≤ 1275 ∧ Hid (k ≤ 4 ∧ Way hs k T ∧ CH wx (bm + 1) bm v hs ∧ Below wP.heap.size wP wx))
      case first =>
        go_wp2_with fail
        go_loopw [14, 15, 68] (fun sat who i wr => ∃ (k A : Nat) (v : Value) (hs : List Hand), sat = .int .i64 (A : Int) ∧ who = .string (nmK k) ∧ i = .int .i64 (k : Int) ∧ k ≤ n ∧ k ≤ 4 ∧ A ≤ 255 * k ∧ Hid (Way hs k (A : Int) ∧ CH wr (bm + 1) bm v hs ∧ (∀ k, v.ownBlock = some k → wP.heap.size ≤ k ∧ k ≠ w3.heap.size) ∧ wr.heap[w3.heap.size]? = w4.heap[w3.heap.size]? ∧ Below wP.heap.size wP wr)) (fun _ _ i _ => n - (intOf i).toNat)
        case atStart => exact ⟨0, 0, v3, [hand0], rfl, rfl, rfl, by omega, by omega, by omega, Lib.hid ⟨way0, HC4.out, HO4.out, rfl, HB4.out⟩⟩
        case round =>
          obtain ⟨k, A, v, hs, rfl, rfl, rfl, hk, hk4, hA2, H⟩ := hrel
          by_cases hlt : k < n
          · have l1 : (k : Int) < (n : Int) := by omega
            have l0 : (0 : Int) ≤ (k : Int) := by omega
            obtain ⟨b1, off, rfl, hb1, hc⟩ := (HD.out.below H.out.2.2.2.2).get HN.out (by omega)
            have c0 := hc k hlt
            obtain ⟨hz0, hz1⟩ := HZ.out k hlt
            generalize zs.getD k 0 = z at *
            obtain ⟨Z, rfl⟩ : ∃ Z : Nat, z = Z := ⟨z.toNat, by omega⟩
            clear hc
            by_cases h4 : k < 4
            · have d4 : decide ((4 : Int) ≤ (k : Int)) = false := by rw [decide_eq_false_iff_not]; omega
              go_wp2_with fail
              obtain ⟨hw, hch, ho, h3, hb⟩ := H.out
              obtain ⟨init, l, rfl, hl, hday⟩ := hw.last
              have hlen := hw.len
              have hA := (Below.refl wr.heap.size wr).alloc (Nat.le_refl _) (.cells #[.string ⟨#[114, 105, 103, 97]⟩, .string ⟨#[114, 105, 103, 97]⟩, .string ⟨#[111, 115, 108, 111]⟩, .string ⟨#[111, 115, 108, 111]⟩] 9)
              have e3 : wr.heap[w3.heap.size]? = _ := h3.trans HN4.out
              have x0 : wr.cell? ⟨w3.heap.size, k, none⟩ = some (.string (nmK (k + 1))) := by simp only [World.cell?, e3]; exact next_at k h4
              have x1 := cell_later hA x0
              have x2 : (wr.alloc (.cells #[.string ⟨#[114, 105, 103, 97]⟩, .string ⟨#[114, 105, 103, 97]⟩, .string ⟨#[111, 115, 108, 111]⟩, .string ⟨#[111, 115, 108, 111]⟩] 9)).cell? ⟨wr.heap.size, k, none⟩ = some (.string (plK k)) := by
                have := heap_alloc_new wr (.cells #[.string ⟨#[114, 105, 103, 97]⟩, .string ⟨#[114, 105, 103, 97]⟩, .string ⟨#[111, 115, 108, 111]⟩, .string ⟨#[111, 115, 108, 111]⟩] 9)
                simp only [World.cell?, this]; exact place_at k h4
              have HHd := Lib.hid (hand_ok ((wr.alloc (.cells #[.string ⟨#[114, 105, 103, 97]⟩, .string ⟨#[114, 105, 103, 97]⟩, .string ⟨#[111, 115, 108, 111]⟩, .string ⟨#[111, 115, 108, 111]⟩] 9)).drew) (bm + 1) bm v init l ⟨⟨#[98, 111, 120]⟩, nmK k, nmK (k + 1), plK k, (A : Int) + (Z : Int)⟩ (hch.later (by exact hA.drew)) rfl (nm_ok k (by omega)) (nm_ok (k + 1) (by omega)) (pl_ok k) (nm_ne k h4) (by simp; omega) (by simp; omega) hl (by simp [hday]; omega) (by simp at hlen; omega))
              have HA9 := Lib.hid hA
              clear hw hch ho h3 hb hA e3
              have l4 : (k : Int) < 4 := by omega
              go_cut [94] from 81 to 94 (fun r wx => r = .bool false ∧ ∃ v5, Hid (CH wx (bm + 1) bm v5 (init ++ [l] ++ [⟨⟨#[98, 111, 120]⟩, nmK k, nmK (k + 1), plK k, (A : Int) + (Z : Int)⟩]) ∧ Touch (fun k => k = bm ∨ v.ownBlock = some k) wr wx ∧ (∀ k, v5.ownBlock = some k → v.ownBlock = some k ∨ wr.heap.size ≤ k)))
              case first =>
                go_region_with (first
                | ((with_reducible refine HHd.out.mono ?_); rintro e w5 ⟨v5, rfl, hch5, ht5, hown5⟩))
                all_goals
                  dsimp only [Exit.then]
                  apply_assumption
                  go_meet
                  exact ⟨rfl, v5, Lib.hid ⟨hch5, (Touch.of_below (S := fun k => k = bm ∨ v.ownBlock = some k) HA9.out.drew).trans ht5 (fun x hx => .inl hx), fun k hk => (hown5 k hk).imp id (fun h => by simp at h; omega)⟩⟩
              case rest =>
                obtain ⟨rfl, v5, HK⟩ := hcut
                have HE := Lib.hid (show wc.heap[w3.heap.size]? = w4.heap[w3.heap.size]? from (HK.out.2.1.block _ (lt_of_block (H.out.2.2.2.1.trans HN4.out)) (fun e => e.elim (fun e => by have := HLb.out.2.1; omega) (fun e => (H.out.2.2.1 _ e).2 rfl))).trans H.out.2.2.2.1)
                have y0 : wc.cell? ⟨w3.heap.size, k, none⟩ = some (.string (nmK (k + 1))) := by
                  have := HE.out.trans HN4.out
                  simp only [World.cell?, this]; exact next_at k h4
                have HBc := Lib.hid (show Below wP.heap.size wP wc from H.out.2.2.2.2.trans (HK.out.2.1.below H.out.2.2.2.2.size (fun x hx => hx.elim (fun e => by have := HLb.out.1; omega) (fun e => (H.out.2.2.1 _ e).1))))
                have HLw := Lib.hid (lt_of_block (H.out.2.2.2.1.trans HN4.out))
                clear x0 x1 x2 HHd HA9
                go_wp2
                go_roundw
                case rel => exact ⟨k + 1, A + Z, v5, _, by go_num, rfl, by go_num, by omega, by omega, by omega, Lib.hid ⟨way_step H.out.1 h4 (by omega) _ rfl (by simp; omega), HK.out.1, fun j hj => (HK.out.2.2 j hj).elim (fun e => H.out.2.2.1 j e) (fun e => ⟨by have := H.out.2.2.2.2.size; omega, by have := HLw.out; omega⟩), HE.out, HBc.out⟩⟩
                case measure => simp [intOf]; omega
            · obtain rfl : k = 4 := by omega
              go_wp2
              go_meet
              exact ⟨A + Z, 4, _, v, hs, rfl, by omega, Lib.hid ⟨by omega, H.out.1, H.out.2.1, H.out.2.2.2.2⟩⟩
          · obtain rfl : k = n := by omega
            go_wp2
            go_meet
            exact ⟨A, k, _, v, hs, rfl, by omega, Lib.hid ⟨by omega, H.out.1, H.out.2.1, H.out.2.2.2.2⟩⟩
      case rest =>
        obtain ⟨A, k, T, v, hs, rfl, hA2, H⟩ := hcut
        have HK8 := Lib.hid (show isB (a0 % 8) = true by simp [isB]; omega)
        have HTc := Lib.hid (HT.out.below H.out.2.2.2)
        have HHi := Lib.hid (history_ok wc (bm + 1) bm v hs H.out.2.2.1 (by have := H.out.2.1.len; omega) (by have := H.out.2.1.len; have := H.out.1; omega))
        have HW := Lib.hid (show k ≤ 4 ∧ Way hs k T from ⟨H.out.1, H.out.2.1⟩)
        have HBc := Lib.hid H.out.2.2.2
        clear HC4 HN4 HLb H
        go_wp2_with fail
        refine HHi.out.mono ?_
        rintro e w5 ⟨v5, rfl, hh5, hb5⟩
        have HB5 := Lib.hid (HBc.out.trans (hb5.mono HBc.out.size))
        have HT5 := Lib.hid (HTc.out.below hb5)
        obtain ⟨ao5, cap5, rfl, _⟩ := hh5.shape
        obtain ⟨m5, hm5⟩ : ∃ m5, m5 = hs.length := ⟨_, rfl⟩
        rw [← hm5] at hh5 ⊢
        have HM5 := Lib.hid hm5
        have HH5 := Lib.hid hh5
        clear hb5 hh5 HHi hm5
        generalize a0 % 8 = t8 at *
        go_wp2_with fail
        go_loopw [21, 107] (fun by_ i wr => ∃ (d : Nat) (b : Bool), by_ = .bool b ∧ i = .int .i64 (d : Int) ∧ d ≤ A + 2 ∧ Hid ((b = true → risT t8 ≤ stP (lastH hs ((d : Int) - 1)) ⟨#[115]⟩ ⟨#[121]⟩) ∧ Hands wr (.slice ao5 m5 cap5) hs ∧ Terms wr ∧ Below wP.heap.size wP wr)) (fun _ i _ => A + 2 - (intOf i).toNat)
        case atStart => exact ⟨0, false, rfl, rfl, by omega, Lib.hid ⟨fun h => by (first | cases h | exact h.elim), HH5.out, HT5.out, HB5.out⟩⟩
        case round =>
          obtain ⟨d, b, rfl, rfl, hd, HL⟩ := hrel
          by_cases hlt : d < A + 2
          · have l1 : (d : Int) < (A : Int) + 2 := by omega
            have HBr := Lib.hid (bearer_any t8 hs (.slice ao5 m5 cap5) (d : Int) ⟨#[115]⟩ ⟨#[121]⟩ wr HL.out.2.1 HL.out.2.2.1)
            have hsm := HW.out.2.some (d : Int) (by omega)
            by_cases gb : risT t8 ≤ stP (lastH hs (d : Int)) ⟨#[115]⟩ ⟨#[121]⟩
            · rw [who_b HK8.out hsm gb] at HBr
              have HG := Lib.hid gb
              clear hsm gb
              go_wp2_with fail
              refine HBr.out.mono ?_
              rintro e w6 ⟨rfl, hok⟩
              have HOk := Lib.hid hok
              clear hok
              cases b
              all_goals
                go_wp2
                go_roundw
                case rel => exact ⟨d + 1, true, by first | rfl | decide +kernel, by go_num, by omega, Lib.hid ⟨fun _ => by rw [show ((d + 1 : Nat) : Int) - 1 = (d : Int) by omega]; exact HG.out, HL.out.2.1.below HOk.out.2, HOk.out.1, HL.out.2.2.2.trans (HOk.out.2.mono HL.out.2.2.2.size)⟩⟩
                case measure => simp [intOf]; omega
            · rw [who_s HK8.out hsm gb] at HBr
              obtain rfl : b = false := by
                cases b with
                | false => rfl
                | true => exact absurd (Int.le_trans (HL.out.1 rfl) (HW.out.2.mono _ _ (by omega))) gb
              clear hsm gb
              go_wp2_with fail
              refine HBr.out.mono ?_
              rintro e w6 ⟨rfl, hok⟩
              have HOk := Lib.hid hok
              clear hok
              go_wp2
              go_roundw
              case rel => exact ⟨d + 1, false, by first | rfl | decide +kernel, by go_num, by omega, Lib.hid ⟨fun h => by (first | cases h | exact h.elim), HL.out.2.1.below HOk.out.2, HOk.out.1, HL.out.2.2.2.trans (HOk.out.2.mono HL.out.2.2.2.size)⟩⟩
              case measure => simp [intOf]; omega
          · obtain rfl : d = A + 2 := by omega
            have HBr := Lib.hid (bearer_any t8 hs (.slice ao5 m5 cap5) (-1) ⟨#[115]⟩ ⟨#[121]⟩ wr HL.out.2.1 HL.out.2.2.1)
            rw [who_n (way_none HW.out.2)] at HBr
            have HBw := Lib.hid HL.out.2.2.2
            have HHw := Lib.hid HL.out.2.1
            clear HL
            go_wp2_with fail
            refine HBr.out.mono ?_
            rintro e w6 ⟨rfl, hok⟩
            have HB6 := Lib.hid (HBw.out.trans (hok.2.mono HBw.out.size))
            have HH6 := Lib.hid (HHw.out.below hok.2)
            clear hok HBr HBw HHw
            have q0 := HX.out w6 HB6.out 0 _ rfl
            have q1 := HX.out w6 HB6.out 1 _ rfl
            have q2 := HX.out w6 HB6.out 2 _ rfl
            have q3 := HX.out w6 HB6.out 3 _ rfl
            have q4 := HX.out w6 HB6.out 4 _ rfl
            have q5 := HX.out w6 HB6.out 5 _ rfl
            have q6 := HX.out w6 HB6.out 6 _ rfl
            have q7 := HX.out w6 HB6.out 7 _ rfl
            have q8 := HX.out w6 HB6.out 8 _ rfl
            have HPa := Lib.hid (pays_risk ⟨pi, pf, pt, psum, pown, .slice pa pm pcap, pzs, pfirst, plast, pshare⟩ lost value w6 (HI.out.below HB6.out))
            go_wp2_with fail
            refine HPa.out.mono ?_
            rintro e w7 ⟨⟨N, b7, rfl, hN⟩, hb7⟩
            have HB7 := Lib.hid (HB6.out.trans (hb7.mono HB6.out.size))
            have HH7 := Lib.hid (HH6.out.below hb7)
            have HCv := Lib.hid (fun w9 (hb : Below wP.heap.size wP w9) (hh : Hands w9 (.slice ao5 m5 cap5) hs) => covers_any pi pf pt psum pown pa pm pcap pzs pfirst plast pshare ao5 m5 cap5 hs 0 loss w9 (HI.out.below hb) HPN.out hh HM5.out (by have := HM5.out; have := HW.out.2.len; have := HW.out.1; omega))
            have HMa := Lib.hid (fun w9 (hb : Below wP.heap.size wP w9) => pmay_any pi pf pt psum pown pa pm pcap pzs pfirst plast pshare w9 (HI.out.below hb) HPN.out)
            generalize (Po.mk pi pf pt psum pown (.slice pa pm pcap) pzs pfirst plast pshare).may = pmy at *
            clear hb7 HPa q0 q1 q2 q3 q4 q5 q6 q7 q8
            have q0 := HX.out w7 HB7.out 0 _ rfl
            have q1 := HX.out w7 HB7.out 1 _ rfl
            have q2 := HX.out w7 HB7.out 2 _ rfl
            have q3 := HX.out w7 HB7.out 3 _ rfl
            have q4 := HX.out w7 HB7.out 4 _ rfl
            have q5 := HX.out w7 HB7.out 5 _ rfl
            have q6 := HX.out w7 HB7.out 6 _ rfl
            have q7 := HX.out w7 HB7.out 7 _ rfl
            have q8 := HX.out w7 HB7.out 8 _ rfl
            have HD7 : b7 = true → decide (lost < N) = false ∧ decide (value < N) = false ∧ decide (psum < N) = false := fun h => by
              obtain ⟨n1, n2, n3⟩ := hN h
              refine ⟨?_, ?_, ?_⟩ <;> (rw [decide_eq_false_iff_not]; omega)
            clear hN
            cases b7
            all_goals
              try (obtain ⟨n1, n2, n3⟩ := HD7 rfl)
              clear HD7
              go_wp2_with fail
              refine (HCv.out w7 HB7.out HH7.out).mono ?_
              rintro e w8 ⟨⟨c8, rfl, hc8⟩, hb8⟩
              have HB8 := Lib.hid (HB7.out.trans (hb8.mono HB7.out.size))
              clear hb8
              cases c8 with
              | false =>
                clear hc8
                go_wp2
                go_ret
                exact ⟨rfl, HA.out.trans (HB8.out.mono HA.out.size)⟩
              | true =>
                obtain ⟨rfl, g1, g2⟩ := hc8 rfl
                have d1 : decide (pfirst ≤ loss) = true := by rw [decide_eq_true_iff]; exact g1
                have d2 : decide (loss ≤ plast) = true := by rw [decide_eq_true_iff]; exact g2
                clear hc8 g1 g2
                clear q0 q1 q2 q3 q4 q5 q6 q7 q8
                have q0 := HX.out w8 HB8.out 0 _ rfl
                have q1 := HX.out w8 HB8.out 1 _ rfl
                have q2 := HX.out w8 HB8.out 2 _ rfl
                have q3 := HX.out w8 HB8.out 3 _ rfl
                have q4 := HX.out w8 HB8.out 4 _ rfl
                have q5 := HX.out w8 HB8.out 5 _ rfl
                have q6 := HX.out w8 HB8.out 6 _ rfl
                have q7 := HX.out w8 HB8.out 7 _ rfl
                have q8 := HX.out w8 HB8.out 8 _ rfl
                go_wp2_with fail
                refine (HMa.out w8 HB8.out).mono ?_
                rintro e w9 ⟨rfl, hb9⟩
                have HB9 := Lib.hid (HB8.out.trans (hb9.mono HB8.out.size))
                clear hb9
                have r6 := HX.out w9 HB9.out 6 _ rfl
                have r7 := HX.out w9 HB9.out 7 _ rfl
                go_wp2
                go_ret
                exact ⟨rfl, HA.out.trans (HB9.out.mono HA.out.size)⟩
theorem u8_bd {z : Int} (h : (Lit.int .u8 z).wf = true) : 0 ≤ z ∧ z ≤ 255 := by
  simp only [Lit.wf, Bool.and_eq_true, decide_eq_true_eq] at h
  have h1 : IntKind.u8.min = 0 := by decide
  have h2 : IntKind.u8.max = 255 := by decide
  omega
theorem walk (a0 : Int) (v1 : Value) (a2 a3 a4 : Int) (v5 : Value) (w : World) (w0 : (Lit.int .u8 a0).wf = true) (w1 : Is22 w v1) (w2 : (Lit.int .u8 a2).wf = true) (w3 : (Lit.int .u32 a3).wf = true) (w4 : (Lit.int .u32 a4).wf = true) (w5 : Is26 w v5) (hw : Terms w) :
    Calls Tryd.prog 3 #[.int .u8 a0, v1, .int .u8 a2, .int .u32 a3, .int .u32 a4, v5] w fun e w' => e = .returned (.bool true) ∧ Below w.heap.size w w' := by
  obtain ⟨zs, hz, hzw⟩ := w1
  obtain ⟨⟨pi, pf, pt, psum, pown, cv, pzs, pfirst, plast, pshare⟩, rfl, hi, _⟩ := w5
  obtain ⟨ao, cap, rfl, h1, h2, _⟩ := hz.shape
  obtain ⟨pa, pcap, rfl, _⟩ := Ints.shape (show Ints w cv pzs from hi)
  have b3 := u32_bd w3
  have b4 := u32_bd w4
  refine core a0 a2 a3 a4 pi pf pt psum pown pa _ pcap pzs pfirst plast pshare ao _ cap zs w hi rfl hz rfl (by omega) (fun k hk => ?_) hw (u8_bd w0) (u8_bd w2) ⟨b3.1, by omega⟩ ⟨b4.1, by omega⟩
  rw [List.getD_eq_getElem?_getD, List.getElem?_eq_getElem hk]
  exact u8_bd (hzw _ (List.getElem_mem hk))
theorem terms_met {W : World} (h : laidMetH Tryd.prog Rows.topRiskRow.laid W) : Terms W := terms_metH List.mem_cons_self (by kernel_rfl) (by kernel_rfl) h
end topRisk
end Go.Proofs.YtofkeipfkglljaaDoor
