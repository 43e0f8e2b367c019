/-
  TopClaims, walked.
-/
import Derived.Test.YtofkeipfkglljaaClP
import Derived.Test.YtofkeipfkglljaaMNets
import Derived.Maps.RangeWalk
namespace Go.Proofs.Ytofkeipfkglljaa
open Go Go.RowKit Go.Deep
set_option linter.unusedVariables false
set_option linter.unusedSimpArgs false

theorem u16_bd {z : Int} (h : (Lit.int .u16 z).wf = true) : 0 ≤ z ∧ z ≤ 65535 := by
  simp only [Lit.wf, Bool.and_eq_true, decide_eq_true_eq] at h
  have h1 : IntKind.u16.min = 0 := by decide
  have h2 : IntKind.u16.max = 65535 := by decide
  omega
theorem u32_bd {z : Int} (h : (Lit.int .u32 z).wf = true) : 0 ≤ z ∧ z ≤ 4294967295 := by
  simp only [Lit.wf, Bool.and_eq_true, decide_eq_true_eq] at h
  have h1 : IntKind.u32.min = 0 := by decide
  have h2 : IntKind.u32.max = 4294967295 := by decide
  omega
theorem getD_u16 {l : List Int} (h : ∀ z ∈ l, 0 ≤ z ∧ z ≤ 65535) (k : Nat) : 0 ≤ l.getD k 0 ∧ l.getD k 0 ≤ 65535 := by
  by_cases hk : k < l.length
  · rw [List.getD_eq_getElem?_getD, List.getElem?_eq_getElem hk]; exact h _ (List.getElem_mem hk)
  · rw [List.getD_eq_getElem?_getD, List.getElem?_eq_none (by omega)]; simp
theorem box_new1 {j : Nat} {v : Value} (w : World) (cs : Array Value) (t : TypeId) (h : cs[j]? = some v) : (w.alloc (.cells cs t)).cell? ⟨w.heap.size, j, none⟩ = some v := by
  unfold World.cell?; rw [heap_alloc_new]; exact h
theorem len_cast (s : ByteArray) : (s.size : Int) = ((s.size : Nat) : Int) := rfl

namespace topClaims
set_option maxRecDepth 100000 in
set_option maxHeartbeats 1000000 in
theorem skip (a0 a1 : Int) (ao bo : Option Addr) (n cap m cap2 : Nat) (w : World) (hs : 6 < n ∨ 6 < m) :
    Calls Try.prog 3 #[.int .u32 a0, .int .u32 a1, .slice ao n cap, .slice bo m cap2] w fun e w' => e = .returned (.bool true) ∧ Below w.heap.size w w' := by
  have HN := Lib.hid (fun w => nets_any w)
  have key : decide ((6 : Int) < (n : Int)) = true ∨ (decide ((6 : Int) < (n : Int)) = false ∧ decide ((6 : Int) < (m : Int)) = true) := by
    rw [decide_eq_true_iff, decide_eq_false_iff_not, decide_eq_true_iff]; omega
  clear hs
  rcases key with d1 | ⟨d1, d2⟩
  all_goals
    go_enter Try.func3, Try.ntmps3
    go_wp2_with fail
    refine (HN.out _).mono ?_
    rintro e w1 ⟨rfl, hb1⟩
    have HB1 := Lib.hid hb1
    clear hb1
    go_wp2_with fail
    refine (HN.out _).mono ?_
    rintro e w2 ⟨rfl, hb2⟩
    have HB2 := Lib.hid (bq HB1.out hb2)
    clear hb2
    go_wp2
    go_ret
    exact ⟨rfl, HB2.out⟩

set_option maxRecDepth 100000 in
set_option maxHeartbeats 16000000 in
theorem core (a0 a1 : Int) (ao bo : Option Addr) (n cap m cap2 : Nat) (l : List Po) (bs : List Int) (w : World) (h : Pos w (.slice ao n cap) l) (hn : n = l.length) (h2 : U16s w (.slice bo m cap2) bs) (hm : m = bs.length)
    (hl : ∀ o ∈ l, o.wf w) (hb : ∀ z ∈ bs, 0 ≤ z ∧ z ≤ 65535) (h0 : 0 ≤ a0 ∧ a0 ≤ 4294967295) (h1 : 0 ≤ a1 ∧ a1 ≤ 4294967295) (hn6 : n ≤ 6) (hm6 : m ≤ 6) :
    Calls Try.prog 3 #[.int .u32 a0, .int .u32 a1, .slice ao n cap, .slice bo m cap2] w fun e w' => e = .returned (.bool true) ∧ Below w.heap.size w w' := by
  have d1 : decide ((6 : Int) < (n : Int)) = false := by rw [decide_eq_false_iff_not]; omega
  have d2 : decide ((6 : Int) < (m : Int)) = false := by rw [decide_eq_false_iff_not]; omega
  have d1b : decide (6 < n) = false := by rw [decide_eq_false_iff_not]; omega
  have d2b : decide (6 < m) = false := by rw [decide_eq_false_iff_not]; omega
  have H := Lib.hid h
  have H2 := Lib.hid h2
  have HN := Lib.hid hn
  have HM := Lib.hid hm
  have HBd := Lib.hid (getD_u16 hb)
  have HWf := Lib.hid hl
  have h6 := hn6
  have h6m := hm6
  obtain ⟨v, hv⟩ : ∃ v, v = 1 + a1 := ⟨_, rfl⟩
  obtain ⟨lost, hlo⟩ : ∃ x, x = a0 % (v + 1) := ⟨_, rfl⟩
  have hlb : 0 ≤ lost ∧ lost ≤ v := by
    have := Int.emod_nonneg a0 (show v + 1 ≠ 0 by omega)
    have := Int.emod_lt_of_pos a0 (show 0 < v + 1 by omega)
    omega
  have v1 : IntKind.i64.wrap a1 = a1 := IntWalk.i64_in _ (by omega)
  have v2 : IntKind.i64.wrap (1 + a1) = v := by rw [← hv]; exact IntWalk.i64_in _ (by omega)
  have v3 : IntKind.i64.wrap a0 = a0 := IntWalk.i64_in _ (by omega)
  have v4 : IntKind.i64.wrap (v + 1) = v + 1 := IntWalk.i64_in _ (by omega)
  have v5 : a0.tmod (v + 1) = lost := by rw [hlo]; exact Int.tmod_eq_emod_of_nonneg h0.1
  have v6 : (v + 1 == 0) = false := by rw [beq_eq_false_iff_ne]; omega
  have v7 : v + 1 ≠ 0 := by omega
  have v8 : a0 % (v + 1) = lost := hlo.symm
  have v9 : 0 < v + 1 := by omega
  have HS := Lib.hid (fun w => new_ok lost v w (by simp only [newB, Bool.and_eq_true, decide_eq_true_eq]; omega))
  have HI0 := Lib.hid (ClI.new (lost := lost) (value := v) hlb.1 hlb.2 (by omega))
  have hmm := @run_makeMap Try.prog 30
  have HLb := Lib.hid hlb
  clear h hn h2 hm hl hb hn6 hm6 hlo hv
  go_enter Try.func3, Try.ntmps3
  go_wp2_with fail
  refine (nets_any _).mono ?_
  rintro e w1 ⟨rfl, hb1⟩
  have HB1 := Lib.hid hb1
  clear hb1
  go_wp2_with fail
  refine (HS.out _).mono ?_
  rintro e w3 ⟨rfl, hf3, hb3⟩
  have HM2 := Lib.hid (show IMap Try.prog 9 2 (w3.alloc (.map #[] 0)) w3.heap.size 0 (fun _ => 0) from IMap.made _ _ _ w3)
  have hx1 := (Below.refl w3.heap.size w3).alloc (Nat.le_refl _) (.map #[] 0)
  have HC0 := Lib.hid (show Cv w (w3.alloc (.map #[] 0)) w1.heap.size (.slice none 0 0) w3.heap.size 0 (Fi.new lost v) (fun _ => 0) from
    ⟨hf3.below hx1, HM2.out, HB1.out.size, by have := hf3.lt; have := HB1.out.size; omega, (fun _ h => by cases h), (by have := hf3.lt; omega), (fun h => by cases h), bt (bt HB1.out hb3) hx1⟩)
  obtain ⟨bf, hbf⟩ : ∃ b, b = w1.heap.size := ⟨_, rfl⟩
  obtain ⟨bp, hbp⟩ : ∃ b, b = w3.heap.size := ⟨_, rfl⟩
  have HOu := Lib.hid (show (Fi.new lost v).own = 0 ∧ outF (Fi.new lost v) = lost ∧ (Fi.new lost v).L.length ≤ 0 from ⟨rfl, by simp [outF, leftF, openF, paidF, Fi.new], by simp [Fi.new]⟩)
  clear hf3 hb3 hx1 HM2 HS
  go_wp2_with fail
  rw [← hbf, ← hbp] at HC0 ⊢
  clear hbf hbp
  go_loopw [62] (fun i wr => ∃ (k : Nat) (F : Fi) (vf : Value) (cp : Nat) (fp : ByteArray → Int), k ≤ n ∧ i = .int .i64 (k : Int) ∧ Hid (F.own = 0 ∧ outF F = lost ∧ F.L.length ≤ k ∧ cp ≤ k) ∧ Hid (ClI lost F fp (fun _ => 0)) ∧ Hid (Cv w wr bf vf bp cp F fp)) (fun i _ => n - (intOf i).toNat)
  case atStart => exact ⟨0, _, _, 0, _, Nat.zero_le _, rfl, Lib.hid ⟨HOu.out.1, HOu.out.2.1, HOu.out.2.2, Nat.le_refl _⟩, HI0, HC0⟩
  case round =>
    clear HC0 HOu HI0 hmm
    obtain ⟨k, F, vf, cp, fp, hk, rfl, hL, hI, hC⟩ := hrel
    by_cases hlt : k < n
    · have l1 : (k : Int) < (n : Int) := by omega
      have l0 : (0 : Int) ≤ (k : Int) := by omega
      obtain ⟨bl, off, rfl, hbl, hc⟩ := H.out.get HN.out (by omega)
      have hkl : k < l.length := by rw [← HN.out]; exact hlt
      have hwf := HWf.out (l.getD k default) (by rw [List.getD_eq_getElem?_getD, List.getElem?_eq_getElem hkl]; exact List.getElem_mem hkl)
      obtain ⟨i, f, t, sum, own, a, mz, cz, zs, first, last, share, e, hmz, hc1, hc2, hi, k0, k1, k2, k3, k4, k5, k6, k7, k8⟩ := Pos.one hlt hc hbl hC.out.bel (H.out.mem hkl)
      have HSt := Lib.hid (cl_step hI.out (l.getD k default))
      have HBx := Lib.hid (Below.refl wr.heap.size wr |>.alloc (Nat.le_refl _) (.cells #[.string i, .string f, .string t, .int .i64 sum, .int .i64 own, .slice a mz cz, .int .i64 first, .int .i64 last, .int .i64 share] 33))
      have HCb := Lib.hid (hC.out.later HBx.out)
      have HCl := Lib.hid (claim_any _ bf vf F (l.getD k default).i (l.getD k default) HCb.out.fi (by have := hL.out; omega) (by rw [e]; exact Ints.below hi HBx.out))
      rw [e] at HSt HCl hwf
      unfold Po.val Po.cells at HCl
      unfold Po.wf at hwf
      dsimp only at HSt HCl hwf
      obtain ⟨x1, x2, x3, -⟩ := hwf
      have HIs := Lib.hid x1
      obtain ⟨s1, u1⟩ : ∃ s, IntKind.i64.wrap ((i.size : Int) + (f.size : Int)) = s := ⟨_, rfl⟩
      obtain ⟨s2, u2⟩ : ∃ s, IntKind.i64.wrap (s1 + (t.size : Int)) = s := ⟨_, rfl⟩
      generalize hR : F.claim i (Po.mk i f t sum own (.slice a mz cz) zs first last share) = R at *
      obtain ⟨F', amt, code⟩ := R
      dsimp only at HSt HCl
      clear x1 x2 x3 hc hbl e hi hc1 hc2 hmz hkl hR
      have key : decide ((200 : Int) < s2) = true ∨ (decide ((200 : Int) < s2) = false ∧ decide ((70 : Int) < (mz : Int)) = true) ∨ (decide ((200 : Int) < s2) = false ∧ decide ((70 : Int) < (mz : Int)) = false) := by
        simp only [decide_eq_true_eq, decide_eq_false_iff_not]; omega
      rcases key with q1 | ⟨q1, q2⟩ | ⟨q1, q2⟩
      · go_wp2
        go_ret
        exact ⟨rfl, HCb.out.bel⟩
      · have q2b : decide (70 < mz) = true := by rw [decide_eq_true_iff] at q2 ⊢; omega
        go_wp2
        go_ret
        exact ⟨rfl, HCb.out.bel⟩
      · have q2b : decide (70 < mz) = false := by rw [decide_eq_false_iff_not] at q2 ⊢; omega
        go_wp2_with fail
        refine HCl.out.mono ?_
        rintro e w5 ⟨v5, rfl, hf5, hk5⟩
        have hx := hC.out.box hk5
        have z0 : w5.cell? ⟨wr.heap.size, 0, none⟩ = some (.string i) := by simp [World.cell?, hx]
        have HC5 := Lib.hid (HCb.out.stepF hf5 hk5)
        have hlk := imap_run (t := 30) HC5.out.mp Try.underlying9 Try.underlying30 Try.underlying2 (zeroI64 _) i HIs.out
        have hcp : cp < maxLen := by have := hL.out; unfold maxLen; omega
        obtain ⟨gx, hgx⟩ : ∃ g, g = fp i := ⟨_, rfl⟩
        have HS2 := HSt.out
        have ha := HS2.abd
        have hg := HS2.bd
        rw [← hgx] at hlk hg
        have w1e : IntKind.i64.wrap (gx + amt) = gx + amt := IntWalk.i64_in _ (by omega)
        have hgw : (Lit.int .i64 (gx + amt)).wf = true := WalkArith.wf_i64 (by omega)
        have HI' := Lib.hid (show ClI lost F' (fun u => if u = i then gx + amt else fp u) (fun _ => 0) by rw [hgx]; exact HS2.inv)
        have HL' := Lib.hid (show F'.own = 0 ∧ outF F' = lost ∧ F'.L.length ≤ k + 1 ∧ cp + 1 ≤ k + 1 by have := hL.out; have h1 := HS2.len; have h2 := HS2.own; have h3 := HS2.out; omega)
        have d7 : decide (amt < 0) = false := by rw [decide_eq_false_iff_not]; omega
        by_cases hcode : code = 0
        · have e1 : (code == 0) = true := by simp [hcode]
          have e2 : (code != 0) = false := by simp [hcode]
          clear hf5 hk5 hx hgx HS2 ha hg HSt hcode k0 k1 k2 k3 k4 k5 k6 k7 k8 HCl
          go_wp2_with (at_mapUpdate; refine wpList_iset _ rfl _ _ _ 30 rfl 9 2 Try.underlying9 Try.underlying30 Try.underlying2 bp cp fp rfl HC5.out.mp hcp i rfl HIs.out (gx + amt) rfl hgw ?_; intro w6 hm6 ht6; have HC6 := Lib.hid (HC5.out.stepP hm6 ht6); clear hm6 ht6)
          go_roundw
          case rel => exact ⟨k + 1, F', _, cp + 1, _, by omega, by go_num, HL', HI', HC6⟩
          case measure => simp [intOf]; omega
        · have e1 : (code == 0) = false := by simp [hcode]
          have e2 : (code != 0) = true := by simp [hcode]
          have e3 : amt = 0 := HS2.ref hcode
          subst e3
          have w1f : IntKind.i64.wrap gx = gx := IntWalk.i64_in _ (by omega)
          clear hf5 hk5 hx hgx HS2 ha hg HSt hcode k0 k1 k2 k3 k4 k5 k6 k7 k8 HCl
          go_wp2_with (at_mapUpdate; refine wpList_iset _ rfl _ _ _ 30 rfl 9 2 Try.underlying9 Try.underlying30 Try.underlying2 bp cp fp rfl HC5.out.mp hcp i rfl HIs.out gx rfl (by simpa using hgw) ?_; intro w6 hm6 ht6; have HC6 := Lib.hid (HC5.out.stepP hm6 ht6); clear hm6 ht6)
          go_roundw
          case rel => exact ⟨k + 1, F', _, cp + 1, _, by omega, by go_num, HL', by simpa using HI', HC6⟩
          case measure => simp [intOf]; omega
    · obtain rfl : k = n := by omega
      have hob := hI.out.outb
      have hL0 := hL.out
      have hPd := paid_any _ bf vf F hC.out.fi
      obtain ⟨P, hP⟩ : ∃ P, P = paidF F := ⟨_, rfl⟩
      rw [← hP] at hPd hob
      have HPd := Lib.hid hPd
      have d3 : decide (lost < P) = false := by rw [decide_eq_false_iff_not]; omega
      have HL6 := Lib.hid (show F.L.length ≤ 6 ∧ cp ≤ 6 by omega)
      have HOw := Lib.hid (And.intro hL0.1 hL0.2.1)
      have HCk := Lib.hid (fun W (hb : Below wr.heap.size wr W) => show Cv w W bf vf bp cp F (fun u => fp u - (fun _ => (0 : Int)) u) from by
        have e : (fun u => fp u - (fun _ => (0 : Int)) u) = fp := by funext u; simp
        rw [e]; exact hC.out.later hb)
      clear hPd hob hL0 hP hL
      go_wp2_with fail
      refine HPd.out.mono ?_
      rintro e w4 ⟨rfl, hb4⟩
      have HC4 := Lib.hid (HCk.out _ hb4)
      clear hb4 HCk HPd
      go_wp2_with fail
      go_loopw [18, 19, 115] (fun o s i wr => ∃ (j : Nat) (F : Fi) (vf : Value) (cp : Nat) (fb : ByteArray → Int), j ≤ m ∧ i = .int .i64 (j : Int) ∧ o = .int .i64 (lost - outF F) ∧ s = .int .i64 F.own ∧ Hid (F.L.length ≤ 6 ∧ cp ≤ 6 + 7 * j) ∧ Hid (ClI lost F fp fb) ∧ Hid (Cv w wr bf vf bp cp F (fun u => fp u - fb u))) (fun _ _ i _ => m - (intOf i).toNat)
      case atStart => exact ⟨0, F, vf, cp, _, Nat.zero_le _, rfl, by rw [HOw.out.2]; simp, by rw [HOw.out.1], Lib.hid (by have := HL6.out; omega), hI, HC4⟩
      case round =>
        clear HC4 hI hC HL6 HOw
        obtain ⟨j, F, vf, cp, fb, hj, rfl, rfl, rfl, hL, hI, hC⟩ := hrel
        by_cases hlt2 : j < m
        · have l1 : (j : Int) < (m : Int) := by omega
          have l0 : (0 : Int) ≤ (j : Int) := by omega
          obtain ⟨bb, ob, rfl, hbb, hcb⟩ := H2.out.get HM.out (by omega)
          have c0 : wr.cell? ⟨bb, ob + j, none⟩ = some (.int .u16 (bs.getD j 0)) := by rw [hC.out.bel.cell (p := ⟨bb, ob + j, none⟩) hbb]; exact hcb j hlt2
          have hsb := HBd.out j
          generalize bs.getD j 0 = s at *
          have HBk := Lib.hid (bk_of hI.out hsb.1 hsb.2)
          have HPR := Lib.hid (recover_any _ bf vf F s hC.out.fi)
          have hob := hI.out.outb
          generalize F.recover s = R at *
          obtain ⟨F', D, cc⟩ := R
          dsimp only at HBk HPR
          obtain ⟨oo, hoo⟩ : ∃ o, o = lost - outF F := ⟨_, rfl⟩
          have HOo := Lib.hid hoo
          have HOb := Lib.hid (show 0 ≤ oo ∧ oo ≤ lost ∧ lost ≤ 1099511627776 by omega)
          have HLe := Lib.hid hlt2
          rw [← hoo]
          have hcode := HBk.out.code
          rw [← hoo] at hcode
          have t0 : IntKind.i64.wrap s = s := IntWalk.i64_in _ (by omega)
          have t1 : IntKind.i64.wrap (oo + s) = oo + s := IntWalk.i64_in _ (by omega)
          obtain ⟨ow, how⟩ : ∃ o, o = F.own := ⟨_, rfl⟩
          have HOw := Lib.hid how
          rw [← how]
          have hk3 : (cc = 0 ∧ 0 < s ∧ oo + s ≤ lost) ∨ (cc ≠ 0 ∧ ¬ 0 < s) ∨ (cc ≠ 0 ∧ 0 < s ∧ ¬ oo + s ≤ lost) := by omega
          have HK3 := Lib.hid hk3
          clear hbb hcb hob hoo hcode hsb how hk3
          go_wp2_with fail
          refine HPR.out.mono ?_
          rintro e5 w5 ⟨vg, rfl, hf5, hen, hk5⟩
          have HC5 := Lib.hid (hC.out.stepF hf5 hk5)
          have HEn := Lib.hid hen
          obtain ⟨vga, vgc, evg, -⟩ := hen.shape
          subst evg
          obtain ⟨dl, hdl⟩ : ∃ x, x = D.length := ⟨_, rfl⟩
          rw [← hdl] at HEn ⊢
          have HDl := Lib.hid hdl
          have hdl7 : dl ≤ 7 := by have := HBk.out.len; have := hL.out; omega
          have HC50 := Lib.hid (show Cv w w5 bf vf bp (cp + 0) F' (fun u => fp u - fb u - backE (D.take 0) u) from by
            have e : (fun u => fp u - fb u - backE (D.take 0) u) = fun u => fp u - fb u := by funext u; simp [backE]
            rw [e]; exact HC5.out)
          clear hf5 hen hk5 hdl HPR
          go_upto_region 27 with fail
          go_cut [138] from 126 to 138 (fun x wx => x = .bool false ∧ Hid (wx = w5))
          case first =>
            rcases HK3.out with ⟨g1, g2, g3⟩ | ⟨g1, g2⟩ | ⟨g1, g2, g3⟩
            · have e1 : (cc == 0) = true := by simp [g1]
              have e2 : decide (0 < s) = true := by rw [decide_eq_true_iff]; exact g2
              have e3 : decide (oo + s ≤ lost) = true := by rw [decide_eq_true_iff]; exact g3
              go_wp2
              (try dsimp only [Exit.then])
              apply_assumption
              (repeat apply Exists.intro)
              refine ⟨⟨?_, Lib.hid rfl⟩, rfl⟩
              first | trivial | rfl
            · have e1 : (cc == 0) = false := by simp [g1]
              have e2 : decide (0 < s) = false := by rw [decide_eq_false_iff_not]; omega
              go_wp2
              (try dsimp only [Exit.then])
              apply_assumption
              (repeat apply Exists.intro)
              refine ⟨⟨?_, Lib.hid rfl⟩, rfl⟩
              first | trivial | rfl
            · have e1 : (cc == 0) = false := by simp [g1]
              have e2 : decide (0 < s) = true := by rw [decide_eq_true_iff]; omega
              have e3 : decide (oo + s ≤ lost) = false := by rw [decide_eq_false_iff_not]; omega
              go_wp2
              (try dsimp only [Exit.then])
              apply_assumption
              (repeat apply Exists.intro)
              refine ⟨⟨?_, Lib.hid rfl⟩, rfl⟩
              first | trivial | rfl
          case rest =>
            obtain ⟨rfl, hwc⟩ := hcut
            have hwe := hwc.out
            subst hwe
            clear hwc HK3
            obtain ⟨wz, hwz⟩ : ∃ x, x = wc := ⟨_, rfl⟩
            subst hwz
            go_wp2_with fail
            go_loopw [18, 19, 141] (fun o s i wr => ∃ j2 : Nat, j2 ≤ dl ∧ i = .int .i64 (j2 : Int) ∧ o = .int .i64 (oo + sumE (D.take j2)) ∧ s = .int .i64 (ow + backE (D.take j2) ⟨#[]⟩) ∧ Hid (Cv w wr bf vf bp (cp + j2) F' (fun u => fp u - fb u - backE (D.take j2) u)) ∧ Hid (Touch (fun k => k = bp) wz wr)) (fun _ _ i _ => dl - (intOf i).toNat)
            case atStart => exact ⟨0, Nat.zero_le _, rfl, by simp [sumE], by simp [backE], HC50, Lib.hid (Touch.refl _ _)⟩
            case round =>
              clear HC50
              obtain ⟨j2, hj2, rfl, rfl, rfl, hVj, hTj⟩ := hrel
              by_cases hlt3 : j2 < dl
              · have l3 : (j2 : Int) < (dl : Int) := by omega
                have l4 : (0 : Int) ≤ (j2 : Int) := by omega
                have hjD : j2 < D.length := by rw [← HDl.out]; exact hlt3
                have hEj : Ens _ (.slice vga dl vgc) D := HEn.out.off_map HDl.out HC5.out.mp hTj.out
                obtain ⟨be, oe, rfl, hbe, hce⟩ := hEj.get HDl.out (by omega)
                obtain ⟨c0, c1, c2⟩ := hce j2 hlt3
                have HBt := Lib.hid (fun u => backE_take hjD u)
                have HSt := Lib.hid (sumE_tk hjD)
                have s0 := sumE_take HBk.out.nn j2
                have s1 := sumE_take HBk.out.nn (j2 + 1)
                rw [HSt.out] at s1
                have s2 := HBk.out.out
                have s3 := HBk.out.inv.outb
                have s4 := HOo.out
                have s5 := HBk.out.own
                have s6 := HOw.out
                have s7 := hI.out.outb
                have b0 := backE_le HBk.out.nn j2 ⟨#[]⟩
                have b1 := backE_le HBk.out.nn (j2 + 1) ⟨#[]⟩
                have hmem : D.getD j2 default ∈ D := by rw [List.getD_eq_getElem?_getD, List.getElem?_eq_getElem hjD]; exact List.getElem_mem hjD
                have hnm := HBk.out.nm _ hmem
                have hz0 := HBk.out.nn _ hmem
                have k0 := backE_le HBk.out.nn j2 (D.getD j2 default).t
                have k1 := backE_le HBk.out.nn (j2 + 1) (D.getD j2 default).t
                have n0 := hI.out.nev.bd hI.out.ok (D.getD j2 default).t
                have n1 := HBk.out.inv.nev.bd HBk.out.inv.ok (D.getD j2 default).t
                have HNl := Lib.hid (fun (hne : (D.getD j2 default).t ≠ ⟨#[]⟩) => HBk.out.inv.nev.le HBk.out.inv.ok hne)
                rw [HBt.out] at k1 b1
                rw [if_pos rfl] at k1
                generalize D.getD j2 default = x at *
                obtain ⟨xt, xc, xz⟩ := x
                dsimp only at c0 c1 c2 HBt HSt s1 hnm hz0 k0 k1 n0 n1 HNl b1
                have hxs : xt.size ≤ maxLen := by
                  rcases hnm with e | e
                  · subst e; exact Nat.zero_le _
                  · have := (name_iff xt).1 e; unfold maxLen; omega
                have hbx := (Below.refl wr.heap.size wr).alloc (Nat.le_refl _) (.cells #[.string xt, .string xc, .int .i64 xz] 42)
                have HVb := Lib.hid (hVj.out.later hbx)
                have hlk := imap_run (t := 30) HVb.out.mp Try.underlying9 Try.underlying30 Try.underlying2 (zeroI64 _) xt hxs
                obtain ⟨gx, hgx⟩ : ∃ gx, gx = fp xt - fb xt - backE (D.take j2) xt := ⟨_, rfl⟩
                rw [← hgx] at hlk
                have HFn := Lib.hid (show (fun u => if u = xt then gx - xz else (fun u => fp u - fb u - backE (D.take j2) u) u) = fun u => fp u - fb u - backE (D.take (j2 + 1)) u from by
                  funext u
                  dsimp only
                  rw [HBt.out u]
                  by_cases e : u = xt
                  · subst e; rw [if_pos rfl, if_pos rfl, hgx]; omega
                  · rw [if_neg e, if_neg (fun e2 => e e2.symm)]; omega)
                have v1a : IntKind.i64.wrap (gx - xz) = gx - xz := IntWalk.i64_in _ (by omega)
                have hgw : (Lit.int .i64 (gx - xz)).wf = true := WalkArith.wf_i64 (by omega)
                obtain ⟨sj, hsj⟩ : ∃ sj, sj = oo + sumE (D.take j2) := ⟨_, rfl⟩
                obtain ⟨wj, hwj⟩ : ∃ wj, wj = ow + backE (D.take j2) ⟨#[]⟩ := ⟨_, rfl⟩
                have HSj := Lib.hid (show sj + xz = oo + sumE (D.take (j2 + 1)) by rw [HSt.out]; omega)
                rw [← hsj, ← hwj]
                have v2a : IntKind.i64.wrap (sj + xz) = sj + xz := IntWalk.i64_in _ (by have := HOb.out; omega)
                have hcb : cp + j2 < maxLen := by have := hL.out; unfold maxLen; omega
                have hnb : ¬ (wr.heap.size = bp) := by have := hVj.out.mp.lt; omega
                have HTb := Lib.hid (hTj.out.alloc (.cells #[.string xt, .string xc, .int .i64 xz] 42))
                have HWb := Lib.hid (show 0 ≤ wj ∧ wj ≤ 1099511627776 by omega)
                have HW1 := Lib.hid (fun (e : xt = ⟨#[]⟩) => show wj + xz = ow + backE (D.take (j2 + 1)) ⟨#[]⟩ ∧ 0 ≤ wj + xz ∧ wj + xz ≤ 2199023255552 from by
                  rw [HBt.out, if_pos e]
                  rw [if_pos e] at b1
                  omega)
                have HW2 := Lib.hid (fun (e : xt ≠ ⟨#[]⟩) => show wj = ow + backE (D.take (j2 + 1)) ⟨#[]⟩ from by
                  rw [HBt.out, if_neg e]; omega)
                have HGe := Lib.hid (fun (e : xt ≠ ⟨#[]⟩) => show 0 ≤ gx - xz from by have := HNl.out e; omega)
                clear hce hbe s0 s1 s2 s3 s4 s5 s6 s7 b0 b1 hmem hnm hz0 k0 k1 n0 n1 hgx hsj hwj hEj hbx hjD
                by_cases g : xt = ⟨#[]⟩
                · subst g
                  obtain ⟨q1, q2⟩ := HW1.out rfl
                  have HQ1 := Lib.hid q1
                  have v3a : IntKind.i64.wrap (wj + xz) = wj + xz := IntWalk.i64_in _ (by omega)
                  clear q1 q2
                  go_wp2_with (at_mapUpdate; refine wpList_iset _ rfl _ _ _ 30 rfl 9 2 Try.underlying9 Try.underlying30 Try.underlying2 bp (cp + j2) _ rfl HVb.out.mp hcb ⟨#[]⟩ rfl hxs (gx - xz) rfl hgw ?_; intro w6 hm6 ht6; have HV6 := Lib.hid (HVb.out.stepP (f' := fun u => fp u - fb u - backE (D.take (j2 + 1)) u) (by rw [← HFn.out]; exact hm6) ht6); have HT6 := Lib.hid (HTb.out.trans ht6 (fun x hx => .inl hx)); have z0 := cell_touch (box_new1 (j := 0) (v := .string ⟨#[]⟩) wr #[.string ⟨#[]⟩, .string xc, .int .i64 xz] 42 rfl) ht6 hnb; have z2 := cell_touch (box_new1 (j := 2) (v := .int .i64 xz) wr #[.string ⟨#[]⟩, .string xc, .int .i64 xz] 42 rfl) ht6 hnb; clear hm6 ht6)
                  go_roundw
                  case rel => exact ⟨j2 + 1, by omega, by go_num, by rw [HSj.out], by rw [HQ1.out], HV6, HT6⟩
                  case measure => simp [intOf]; omega
                · have hne : (xt.toList == (⟨#[]⟩ : ByteArray).toList) = false := (Lib.bytes_beq_false_iff _ _).2 g
                  have hne2 : xt.toList.isEmpty = false := by simpa using hne
                  have HQ1 := Lib.hid (HW2.out g)
                  have HGx := HGe.out g
                  have d5 : decide (gx - xz < 0) = false := by rw [decide_eq_false_iff_not]; omega
                  clear g HGx
                  go_wp2_with (at_mapUpdate; refine wpList_iset _ rfl _ _ _ 30 rfl 9 2 Try.underlying9 Try.underlying30 Try.underlying2 bp (cp + j2) _ rfl HVb.out.mp hcb xt rfl hxs (gx - xz) rfl hgw ?_; intro w6 hm6 ht6; have hlk6 := imap_run (t := 30) hm6 Try.underlying9 Try.underlying30 Try.underlying2 (zeroI64 _) xt hxs; rw [if_pos rfl] at hlk6; have HV6 := Lib.hid (HVb.out.stepP (f' := fun u => fp u - fb u - backE (D.take (j2 + 1)) u) (by rw [← HFn.out]; exact hm6) ht6); have HT6 := Lib.hid (HTb.out.trans ht6 (fun x hx => .inl hx)); have z0 := cell_touch (box_new1 (j := 0) (v := .string xt) wr #[.string xt, .string xc, .int .i64 xz] 42 rfl) ht6 hnb; have z2 := cell_touch (box_new1 (j := 2) (v := .int .i64 xz) wr #[.string xt, .string xc, .int .i64 xz] 42 rfl) ht6 hnb; clear hm6 ht6)
                  go_roundw
                  case rel => exact ⟨j2 + 1, by omega, by go_num, by rw [HSj.out], by rw [HQ1.out], HV6, HT6⟩
                  case measure => simp [intOf]; omega
              · obtain rfl : j2 = dl := by omega
                have eD : D.take j2 = D := List.take_of_length_le (by rw [HDl.out]; exact Nat.le_refl _)
                rw [eD] at hVj
                rw [eD]
                have HVf := Lib.hid (show Cv w wr bf vf bp (cp + j2) F' (fun u => fp u - (fun u => fb u + backE D u) u) from by
                  have e : (fun u => fp u - (fun u => fb u + backE D u) u) = fun u => fp u - fb u - backE D u := by funext u; dsimp only; omega
                  rw [e]; exact hVj.out)
                have HLf := Lib.hid (show F'.L.length ≤ 6 ∧ cp + j2 ≤ 6 + 7 * (j + 1) by have := hL.out; have := HBk.out.flen; omega)
                have HOf := Lib.hid (show oo + sumE D = lost - outF F' ∧ ow + backE D ⟨#[]⟩ = F'.own by have := HBk.out.out; have := HBk.out.own; have := HOo.out; have := HOw.out; omega)
                have HIf := Lib.hid HBk.out.inv
                rw [HOf.out.1, HOf.out.2]
                clear eD
                go_wp2
                go_roundw
                case rel => exact ⟨j + 1, F', _, cp + j2, _, by omega, by go_num, rfl, rfl, HLf, HIf, HVf⟩
                case measure => simp [intOf]; omega
        · obtain rfl : j = m := by omega
          have hob := hI.out.outb
          have HPd := Lib.hid (paid_any _ bf vf F hC.out.fi)
          obtain ⟨P, hP⟩ : ∃ P, P = paidF F := ⟨_, rfl⟩
          rw [← hP] at HPd hob
          obtain ⟨ow, how⟩ : ∃ P, P = F.own := ⟨_, rfl⟩
          rw [← how] at hob ⊢
          have v1z : IntKind.i64.wrap (lost - P) = lost - P := IntWalk.i64_in _ (by omega)
          have d5 : decide (ow ≤ lost - P) = true := by rw [decide_eq_true_iff]; omega
          clear hob hP how
          go_wp2_with fail
          refine HPd.out.mono ?_
          rintro e w9 ⟨rfl, hb9⟩
          have HB9 := Lib.hid (bt hC.out.bel hb9)
          clear hb9
          go_wp2
          go_ret
          exact ⟨rfl, HB9.out⟩

theorem walk (a0 a1 : Int) (v2 v3 : Value) (w : World) (w0 : (Lit.int .u32 a0).wf = true) (w1 : (Lit.int .u32 a1).wf = true) (w2 : Is23 w v2) (w3 : Is24 w v3) :
    Calls Try.prog 3 #[.int .u32 a0, .int .u32 a1, v2, v3] w fun e w' => e = .returned (.bool true) ∧ Below w.heap.size w w' := by
  obtain ⟨l, h, hl⟩ := w2
  obtain ⟨bs, h2, hb⟩ := w3
  obtain ⟨ao, cap, rfl, _⟩ := h.shape
  obtain ⟨bo, cap2, rfl, _⟩ := h2.shape
  by_cases hs : 6 < l.length ∨ 6 < bs.length
  · exact skip a0 a1 ao bo _ cap _ cap2 w hs
  · exact core a0 a1 ao bo _ cap _ cap2 l bs w h rfl h2 rfl hl (fun z hz => u16_bd (hb z hz)) (u32_bd w0) (u32_bd w1) (by omega) (by omega)
end topClaims
end Go.Proofs.Ytofkeipfkglljaa
