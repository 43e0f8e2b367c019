/-
  AverageSettles.
-/
import Derived.Test.YtoaopgamfndfgaaSetQ
import Derived.BigRegion
import Derived.Deep.RegionLaw
namespace Go.Proofs.Ytoaopgamfndfgaa
open Go Go.RowKit
set_option linter.unusedVariables false
set_option linter.unusedSimpArgs false

theorem imap_run {P : Program} {k e t : TypeId} {w : World} {b n : Nat} {f : ByteArray → Int} (h : IMap P k e w b n f) (hk : P.underlying k = some .string) (ht : P.underlying t = some (.map k e)) (he : P.underlying e = some (.int .i64)) (hz : (zeroValue e).run P w = .ok (.int .i64 0) w)
    (s : ByteArray) (hs : s.size ≤ maxLen) : (Instr.lookup t (.map (some b)) (.string s) false).run P w = .ok (.int .i64 (f s)) w := by
  obtain ⟨D, ho, hf⟩ := h
  obtain ⟨c, hrun, hat, _⟩ := ho.lookup_int (Maps.string_keyed hk) ht he hz (WideMaps.keyOf_string_mk hk hs)
  have h1 := (hf s).symm.trans hat
  have e : f s = c := by injection h1 with h1; injection h1
  rw [e]; exact hrun
theorem zeroI64 (w : World) : (zeroValue 2).run Try.prog w = .ok (.int .i64 0) w := by kernel_rfl
theorem imap_set {P : Program} {k e t : TypeId} {w : World} {b n : Nat} {f : ByteArray → Int} (h : IMap P k e w b n f) (hk : P.underlying k = some .string) (ht : P.underlying t = some (.map k e)) (he : P.underlying e = some (.int .i64))
    (hn : n < maxLen) (s : ByteArray) (hs : s.size ≤ maxLen) (y : Int) (hy : (Lit.int .i64 y).wf = true) :
    ∃ w', (Instr.mapUpdate t (.map (some b)) (.string s) (.int .i64 y)).run P w = .ok () w' ∧ IMap P k e w' b (n + 1) (fun u => if u = s then y else f u) ∧ Touch (fun k => k = b) w w' := by
  obtain ⟨D, ho, hf⟩ := h
  obtain ⟨w', hrun, r1, r2⟩ := ho.update (Maps.string_keyed hk) ht hn (WideMaps.keyOf_string_mk hk hs) (plainElem_int he hy)
  refine ⟨w', hrun, ⟨_, r1, fun u => ?_⟩, touch_grown r2⟩
  by_cases hu : u = s
  · subst hu
    have := Maps.atKey_put_same ho.isMap (nkey_is u) (.lit (.int .i64 y)) (.lit (.int .i64 0))
    unfold nkey at this ⊢
    rw [this]
    simp
  · have := Maps.atKey_put_other (D := D) (nkey_ne hu) (.lit (.int .i64 y)) (.lit (.int .i64 0))
    unfold nkey at this hf ⊢
    rw [this, hf]
    simp [hu]

theorem net_take {D : List De} {k : Nat} (hk : k < D.length) (u : ByteArray) : netD (D.take (k + 1)) u = netD (D.take k) u + ((if D[k].t = u then D[k].z else 0) - (if D[k].f = u then D[k].z else 0)) := by
  rw [List.take_succ_eq_append_getElem hk, net_app, net_one]
theorem net_upd (f : ByteArray → Int) (df dt : ByteArray) (dz : Int) (h : df ≠ dt) (u : ByteArray) : (if u = dt then f dt + dz else if u = df then f df - dz else f u) = f u + ((if dt = u then dz else 0) - (if df = u then dz else 0)) := by
  by_cases h1 : u = dt
  · subst h1
    rw [if_pos (show u = u from rfl), if_pos (show u = u from rfl), if_neg h]; omega
  · rw [if_neg h1, if_neg (show ¬ dt = u from fun e => h1 e.symm)]
    by_cases h2 : u = df
    · subst h2
      rw [if_pos (show u = u from rfl), if_pos (show u = u from rfl)]; omega
    · rw [if_neg h2, if_neg (show ¬ df = u from fun e => h2 e.symm)]; omega
theorem net_bd : ∀ (D : List De) (u : ByteArray), (∀ x ∈ D, 0 ≤ x.z ∧ x.z ≤ 4398046511104) → -(D.length * 4398046511104 : Int) ≤ netD D u ∧ netD D u ≤ (D.length * 4398046511104 : Int)
  | [], u, _ => by simp [netD]
  | d :: D, u, h => by
    have h1 := h d (by simp)
    have h2 := net_bd D u (fun x hx => h x (by simp [hx]))
    rw [netD]
    simp only [List.length_cons, Int.natCast_add, Int.natCast_one]
    split <;> split <;> omega

theorem gets_bal {l : List In1} {g : List Int} {S : Int} {T : Nat} {W out : List Nat} (hw : WholeOk l g S T W) (hs : IsSplit T W out) : Bal l (getsL g out) S := by
  refine ⟨may_named hw.may, by rw [gets_len, hw.gl], ?_, hw.s0, hw.s1, fun j => (gets_bd hw.may hw.gone hw.t1 hs hw.ss j).2⟩
  have hl : out.length = g.length := by rw [hs.len, hw.wl, hw.gl]
  have e : ∀ k, k ≤ g.length → ((getsL g out).take k).sum = (g.take k).sum - ((out.take k).sum : Nat) := by
    intro k
    induction k with
    | zero => intro _; simp
    | succ k ih =>
      intro hk
      rw [← itake_step (by rw [gets_len]; omega), ih (by omega), ← itake_step (by omega), ← take_sum_step (by omega), gets_get (by omega)]
      simp only [Int.natCast_add]
      omega
  have h1 := e g.length (Nat.le_refl _)
  rw [List.take_of_length_le (by rw [gets_len]; exact Nat.le_refl _), List.take_of_length_le (Nat.le_refl _), List.take_of_length_le (by omega), split_sum hs hw.ss] at h1
  rw [h1, ← hw.sum]
  omega
theorem name_le {l : List In1} (h : mayB l = true) {j : Nat} (hj : j < l.length) : (l.getD j default).t.size ≤ maxLen := by
  have := ((may_iff l).1 h).2.2 j hj
  rw [okAt_eq] at this
  simp only [Bool.and_eq_true] at this
  exact name_small this.1.1.1

namespace averageSettles
set_option maxRecDepth 100000 in
set_option maxHeartbeats 1000000 in
theorem skip (ao bo : Option Addr) (n cap m cap2 : Nat) (l : List In1) (S : Int) (w : World) (h : Ins w (.slice ao n cap) l) (hn : n = l.length) (hwf : ∀ o ∈ l, o.wf) (hcap : n ≤ maxLen) (hf : (fewB l && decide (m ≤ 60)) = false) :
    Calls Try.prog 5 #[.slice ao n cap, .slice bo m cap2, .int .i64 S] w fun e w' => e = .returned (.bool true) ∧ Below w.heap.size w w' := by
  have HF := Lib.hid (fun w h => few_any ao bo n cap m cap2 l w h hn hwf hcap)
  rw [hf] at HF
  have H := Lib.hid h
  clear h hn hwf hcap hf
  go_enter Try.func5, Try.ntmps5
  go_wp2_with fail
  refine (awake43_any _).mono ?_
  rintro e w1 ⟨rfl, hb1⟩
  have HB1 := Lib.hid hb1
  clear hb1
  go_wp2_with fail
  refine (HF.out _ (H.out.below HB1.out)).mono ?_
  rintro e w2 ⟨rfl, rfl⟩
  go_wp2
  go_ret
  exact ⟨rfl, HB1.out⟩

set_option maxRecDepth 100000 in
set_option maxHeartbeats 2000000 in
theorem bad (ao bo : Option Addr) (n cap m cap2 : Nat) (l : List In1) (g : List Int) (S : Int) (w : World) (h : Ins w (.slice ao n cap) l) (hn : n = l.length) (h2 : Ints w (.slice bo m cap2) g) (hm : m = g.length) (hwf : ∀ o ∈ l, o.wf) (hcap : n ≤ maxLen) (hf : (fewB l && decide (m ≤ 60)) = true) (hw : wholeN l g S ≠ 0) :
    Calls Try.prog 5 #[.slice ao n cap, .slice bo m cap2, .int .i64 S] w fun e w' => e = .returned (.bool true) ∧ Below w.heap.size w w' := by
  have HF := Lib.hid (fun w h => few_any ao bo n cap m cap2 l w h hn hwf hcap)
  rw [hf] at HF
  have HA := Lib.hid (fun w h h2 => pays_bad ao bo n cap m cap2 l g S w h hn h2 hm hw)
  have HR := Lib.hid (fun w h h2 => whole_bad ao bo n cap m cap2 l g S w h hn h2 hm hw)
  have H := Lib.hid h
  have H2 := Lib.hid h2
  generalize wholeN l g S = r at *
  have d3 : (r == 0) = false := by rw [beq_eq_false_iff_ne]; exact hw
  have d3' : (r != 0) = true := by simp [bne, d3]
  have d4 : (r == r) = true := by simp
  have d5 : (r != r) = false := by simp
  clear h hn hwf hcap hf hw h2 hm
  go_enter Try.func5, Try.ntmps5
  go_wp2_with fail
  refine (awake43_any _).mono ?_
  rintro e w1 ⟨rfl, hb1⟩
  have HB1 := Lib.hid hb1
  clear hb1
  go_wp2_with fail
  refine (HF.out _ (H.out.below HB1.out)).mono ?_
  rintro e w2 ⟨rfl, rfl⟩
  go_wp2_with fail
  refine (HA.out _ (H.out.below HB1.out) (H2.out.below HB1.out)).mono ?_
  rintro e w2 ⟨rfl, hb⟩
  have HB2 := Lib.hid (bt HB1.out hb)
  clear hb
  go_wp2_with fail
  refine (HR.out _ (H.out.below HB2.out) (H2.out.below HB2.out)).mono ?_
  rintro e w3 ⟨rfl, hb⟩
  have HB3 := Lib.hid (bt HB2.out hb)
  clear hb
  go_wp2
  go_ret
  exact ⟨rfl, HB3.out⟩

set_option maxRecDepth 100000 in
set_option maxHeartbeats 16000000 in
theorem core (T : Nat) (W : List Nat) (ao bo : Option Addr) (n cap cap2 : Nat) (l : List In1) (g : List Int) (S : Int) (w : World) (h : Ins w (.slice ao n cap) l) (hn : n = l.length) (h2 : Ints w (.slice bo n cap2) g) (hwf : ∀ o ∈ l, o.wf) (hcap : n ≤ maxLen) (hf : (fewB l && decide (n ≤ 60)) = true) (hw : WholeOk l g S T W) :
    Calls Try.prog 5 #[.slice ao n cap, .slice bo n cap2, .int .i64 S] w fun e w' => e = .returned (.bool true) ∧ Below w.heap.size w w' := by
  have HF := Lib.hid (fun w h => few_any ao bo n cap n cap2 l w h hn hwf hcap)
  rw [hf] at HF
  have HA := Lib.hid (fun w h h2 => pays_any T W ao bo n cap cap2 l g S w h hn h2 hw)
  have HW := Lib.hid (fun w h h2 => whole_any T W ao bo n cap cap2 l g S w h hn h2 hw.ok hw.sum hw.vals)
  have H := Lib.hid h
  have H2 := Lib.hid h2
  have HN := Lib.hid hn
  have HO := Lib.hid hw
  have h31 : n ≤ 31 := by
    rw [hn]
    have : fewB l = true := by revert hf; cases fewB l <;> simp
    exact ((few_iff l).1 this).1
  have hp : 0 < n := by rw [hn]; exact hw.pos
  clear h hn hwf hcap hf h2 hw
  go_enter Try.func5, Try.ntmps5
  go_wp2_with fail
  refine (awake43_any _).mono ?_
  rintro e w1 ⟨rfl, hb1⟩
  have HB1 := Lib.hid hb1
  clear hb1
  go_wp2_with fail
  refine (HF.out _ (H.out.below HB1.out)).mono ?_
  rintro e w2 ⟨rfl, rfl⟩
  go_wp2_with fail
  refine (HA.out _ (H.out.below HB1.out) (H2.out.below HB1.out)).mono ?_
  rintro e w2 ⟨v, out, rfl, hs, hd, hb⟩
  have HB2 := Lib.hid (bt HB1.out hb)
  have HS := Lib.hid hs
  have hset := settled (gets_bal HO.out hs)
  obtain ⟨D, hD⟩ : ∃ D, D = (payAll l (getsL g out) S l.length).D := ⟨_, rfl⟩
  rw [← hD] at hd hset
  have HSet := Lib.hid hset
  have HD := Lib.hid hd
  obtain ⟨a1, c1, rfl, -⟩ := hd.shape
  obtain ⟨nd, hnd⟩ : ∃ nd, nd = D.length := ⟨_, rfl⟩
  rw [← hnd]
  have HND := Lib.hid hnd
  have hndl : nd ≤ 32 := by have := hset.2.2.2; have := HN.out; omega
  rw [← hnd] at HD
  clear hs hd hb hD hset hnd
  go_wp2_with fail
  refine (HW.out _ (H.out.below HB2.out) (H2.out.below HB2.out)).mono ?_
  rintro e w3 ⟨b1, b2, out3, rfl, hs, -, hk2, -, -, hb⟩
  obtain rfl := HS.out.unique hs
  have HB3 := Lib.hid (bt HB2.out hb)
  have HD3 := Lib.hid (HD.out.below hb)
  have HL3 := Lib.hid ((H.out.below HB3.out).get HN.out hp)
  obtain ⟨bl, off, rfl, hbl, hc0⟩ := HL3.out
  have HC0 := Lib.hid hc0
  have HBl := Lib.hid hbl
  have HC2 := Lib.hid (fun k (hk : k < n) => hk2.at (n := n) (k := k) (by rw [gets_len, HO.out.gl, HN.out]) hk)
  have HB2l := Lib.hid hk2.lt
  have hmm := @run_makeMap Try.prog 38
  have HM0 := Lib.hid (IMap.made Try.prog 9 2 w3)
  have HBm := Lib.hid ((Below.refl w3.heap.size w3).alloc (Nat.le_refl _) (.map #[] 0))
  have HZ0 := Lib.hid (show (fun _ => 0) = netD (D.take 0) from by funext u; simp [netD])
  rw [HZ0.out] at HM0
  obtain ⟨G, hG⟩ : ∃ G, G = getsL g out := ⟨_, rfl⟩
  rw [← hG] at HC2 HSet
  have HG := Lib.hid hG
  have hnl : n = l.length := HN.out
  have HKey := Lib.hid (show ∀ k (hk : k < D.length), 1 ≤ D[k].z ∧ D[k].z ≤ 4398046511104 ∧ D[k].c = ⟨#[]⟩ ∧ D[k].f ≠ D[k].t ∧ D[k].f.size ≤ maxLen ∧ D[k].t.size ≤ maxLen ∧ (∀ j, j < l.length → (0 < G.getD j 0 → D[k].f ≠ (l.getD j default).t) ∧ (G.getD j 0 < 0 → D[k].t ≠ (l.getD j default).t)) from fun k hk => by
    obtain ⟨a1, a2, a3, ⟨i, a4, a5, a6⟩, a7⟩ := HSet.out.1 D[k] (List.getElem_mem hk)
    have hnm := may_named HO.out.may
    refine ⟨a1, a2, a3, ?_, by rw [a5]; exact name_le HO.out.may a4, ?_, fun j hj => ⟨fun h0 e => ?_, fun h0 e => ?_⟩⟩
    · rcases a7 with a7 | ⟨m, b1, b2, b3⟩
      · rw [a5, a7]; exact hnm.em i a4
      · rw [a5, b2]; intro e
        obtain rfl := hnm.ne i m a4 b1 e
        omega
    · rcases a7 with a7 | ⟨m, b1, b2, b3⟩
      · rw [a7]; exact Nat.zero_le _
      · rw [b2]; exact name_le HO.out.may b1
    · rw [a5] at e
      obtain rfl := hnm.ne i j a4 hj e
      omega
    · rcases a7 with a7 | ⟨m, b1, b2, b3⟩
      · rw [a7] at e; exact hnm.em j hj e.symm
      · rw [b2] at e
        obtain rfl := hnm.ne m j b1 hj e
        omega)
  have HNb := Lib.hid (show ∀ k u, k ≤ D.length → -140737488355328 ≤ netD (D.take k) u ∧ netD (D.take k) u ≤ 140737488355328 from fun k u hk => by
    have h1 := net_bd (D.take k) u (fun x hx => by
      obtain ⟨a1, a2, _⟩ := HSet.out.1 x (List.mem_of_mem_take hx)
      omega)
    have h2 : (D.take k).length ≤ 32 := by simp; have := HND.out; omega
    omega)
  clear hs hk2 hb hbl hc0 HF HA HW hG hnl
  go_wp2_with fail
  go_loopw [13] (fun i wr => ∃ k : Nat, k ≤ nd ∧ i = .int .i64 (k : Int) ∧ Hid (∃ cnt, cnt ≤ 2 * k ∧ IMap Try.prog 9 2 wr w3.heap.size cnt (netD (D.take k))) ∧ Hid (Below w3.heap.size w3 wr)) (fun i _ => nd - (intOf i).toNat)
  case atStart => exact ⟨0, Nat.zero_le _, rfl, Lib.hid ⟨0, Nat.zero_le _, HM0.out⟩, HBm⟩
  case round =>
    clear HM0 HBm hmm HZ0
    obtain ⟨k, hk, rfl, hm, hb⟩ := hrel
    by_cases hlt : k < nd
    · have hkD : k < D.length := by rw [← HND.out]; exact hlt
      have l1 : (k : Int) < (nd : Int) := by omega
      have l0 : (0 : Int) ≤ (k : Int) := by omega
      obtain ⟨bd, od, rfl, hbd, hcd⟩ := HD3.out.get HND.out (by omega)
      obtain ⟨e1, e2, e3, e4⟩ := hcd k hkD
      obtain ⟨y1, y2, y3, y4, y5, y6, -⟩ := HKey.out k hkD
      have HNt := Lib.hid (fun u => net_take hkD u)
      have HNk := Lib.hid (fun u => HNb.out k u (Nat.le_of_lt hkD))
      have HNk1 := Lib.hid (fun u => HNb.out (k + 1) u hkD)
      rw [y3] at e3
      generalize D[k] = d at *
      obtain ⟨df, dt, dc, dz⟩ := d
      dsimp only at e1 e2 e3 e4 y1 y2 y4 y5 y6 HNt
      obtain ⟨cnt, hcnt, hmap⟩ := hm.out
      obtain ⟨f, hf⟩ : ∃ f, f = netD (D.take k) := ⟨_, rfl⟩
      rw [← hf] at hmap
      have HFe := Lib.hid hf
      have b1 : (df.toList == dt.toList) = false := (Lib.bytes_beq_false_iff _ _).2 y4
      have b2 : ((⟨#[]⟩ : ByteArray).toList == (⟨#[]⟩ : ByteArray).toList) = true := by simp
      have b3 : ((⟨#[]⟩ : ByteArray).toList != (⟨#[]⟩ : ByteArray).toList) = false := by simp
      have d1 : decide (dz < 1) = false := by rw [decide_eq_false_iff_not]; omega
      have q1 := HNk.out df
      have q2 := HNk.out dt
      have q3 := HNk1.out df
      have q4 := HNk1.out dt
      rw [HNt.out] at q3 q4
      rw [if_neg (fun e => y4 e.symm), if_pos rfl, ← HFe.out] at q3
      rw [if_pos rfl, if_neg y4, ← HFe.out] at q4
      rw [← HFe.out] at q1 q2
      have v1 : IntKind.i64.wrap (f df - dz) = f df - dz := IntWalk.i64_in _ (by omega)
      have v2 : IntKind.i64.wrap (f dt + dz) = f dt + dz := IntWalk.i64_in _ (by omega)
      have wf1 : (Lit.int .i64 (f df - dz)).wf = true := WalkArith.wf_i64 (by omega)
      have wf2 : (Lit.int .i64 (f dt + dz)).wf = true := WalkArith.wf_i64 (by omega)
      have hnf : (fun u => if u = dt then f dt + dz else if u = df then f df - dz else f u) = netD (D.take (k + 1)) := by
        funext u
        rw [HNt.out u, ← HFe.out]
        exact net_upd f df dt dz y4 u
      have HNF := Lib.hid hnf
      have HY4 := Lib.hid y4
      have hcm : cnt + 1 < maxLen := by unfold maxLen; omega
      have HCm := Lib.hid (And.intro hcnt hcm)
      have HMap := Lib.hid hmap
      have HCe := Lib.hid (fun W (hW : Below w3.heap.size w3 W) => show W.cell? ⟨bd, od + k * 4, none⟩ = some (.string df) ∧ W.cell? ⟨bd, od + k * 4 + 1, none⟩ = some (.string dt) ∧ W.cell? ⟨bd, od + k * 4 + 2, none⟩ = some (.string ⟨#[]⟩) ∧ W.cell? ⟨bd, od + k * 4 + 3, none⟩ = some (.int .i64 dz) from
        ⟨by rw [hW.cell (p := ⟨bd, od + k * 4, none⟩) hbd]; exact e1, by rw [hW.cell (p := ⟨bd, od + k * 4 + 1, none⟩) hbd]; exact e2, by rw [hW.cell (p := ⟨bd, od + k * 4 + 2, none⟩) hbd]; exact e3, by rw [hW.cell (p := ⟨bd, od + k * 4 + 3, none⟩) hbd]; exact e4⟩)
      clear hcd y1 y2 y3 y4 q1 q2 q3 q4 hf hnf hmap hcnt hcm e1 e2 e3 e4 hbd
      obtain ⟨e1, e2, e3, e4⟩ := HCe.out wr hb.out
      go_wp2_with fail
      go_quiet (fail)
      go_wp2_with fail
      have HMq := Lib.hid (HMap.out.touch ((Touch.refl (fun _ => False) wr).drewN nq) (fun h => h))
      have HBq := Lib.hid (below_drewN hb.out nq)
      clear e1 e2 e3 e4
      generalize wr.drewN nq = wq at *
      obtain ⟨e1, e2, -, e4⟩ := HCe.out wq HBq.out
      have HMd := Lib.hid (HMq.out.touch ((Touch.refl (fun _ => False) wq).drew) (fun h => h))
      have hlk := imap_run (t := 38) HMd.out Try.underlying9 Try.underlying38 Try.underlying2 (zeroI64 _) df y5
      have hcm := HCm.out.2
      have hcm0 : cnt < maxLen := by omega
      go_upto_region 17 with fail
      go_cut [] from 79 to 97 (fun wx => Hid (IMap Try.prog 9 2 wx w3.heap.size (cnt + 1) (fun u => if u = df then f df - dz else f u)) ∧ Hid (Below w3.heap.size w3 wx))
      case first =>
        obtain ⟨w5, hup, hm5, ht5⟩ := imap_set (t := 38) HMd.out Try.underlying9 Try.underlying38 Try.underlying2 hcm0 df y5 (f df - dz) wf1
        have HM5 := Lib.hid hm5
        have HT5 := Lib.hid ht5
        clear hm5 ht5
        go_region
        all_goals
          dsimp only [Exit.then]
          apply_assumption
          go_meet
          exact ⟨HM5, Lib.hid (HBq.out.drew.trans (HT5.out.below HBq.out.drew.size (fun x hx => by subst hx; exact Nat.le_refl _)))⟩
      case rest =>
        obtain ⟨hm5, hb5⟩ := hcut
        clear e1 e2 e4 hlk
        obtain ⟨e1, e2, -, e4⟩ := HCe.out _ hb5.out
        have HMd := Lib.hid (hm5.out.touch ((Touch.refl (fun _ => False) _).drew) (fun h => h))
        have hlk := imap_run (t := 38) HMd.out Try.underlying9 Try.underlying38 Try.underlying2 (zeroI64 _) dt y6
        rw [if_neg (show ¬ dt = df from fun e => HY4.out e.symm)] at hlk
        obtain ⟨w6, hup, hm6, ht6⟩ := imap_set (t := 38) HMd.out Try.underlying9 Try.underlying38 Try.underlying2 hcm dt y6 (f dt + dz) wf2
        have HM6 := Lib.hid hm6
        have HT6 := Lib.hid ht6
        clear hm6 ht6
        go_wp2_with fail
        go_region
        all_goals
          go_wp2
          go_roundw
          case rel => exact ⟨k + 1, by omega, by go_num, Lib.hid ⟨cnt + 1 + 1, by have := HCm.out.1; omega, by rw [← HNF.out]; exact HM6.out⟩, Lib.hid (hb5.out.drew.trans (HT6.out.below hb5.out.drew.size (fun x hx => by subst hx; exact Nat.le_refl _)))⟩
          case measure => simp [intOf]; omega
    · obtain rfl : k = nd := by omega
      obtain ⟨wz, hwz⟩ : ∃ wz, wz = wr := ⟨_, rfl⟩
      subst hwz
      obtain ⟨cnt, hcnt, hmap⟩ := hm.out
      rw [List.take_of_length_le (by rw [← HND.out]; exact Nat.le_refl _)] at hmap
      obtain ⟨f, hf⟩ : ∃ f, f = netD D := ⟨_, rfl⟩
      rw [← hf] at hmap
      have HMap := Lib.hid (fun q => hmap.touch ((Touch.refl (fun _ => False) wz).drewN q) (fun h => h))
      have HFn := Lib.hid (show ∀ j, j < n → f (l.getD j default).t = G.getD j 0 from fun j hj => by rw [hf]; exact HSet.out.2.1 j (by rw [← HN.out]; exact hj))
      have HFe := Lib.hid (show f ⟨#[]⟩ = S by rw [hf]; exact HSet.out.2.2.1)
      have HLen := Lib.hid (show k ≤ n + 1 by rw [HND.out, HN.out]; exact HSet.out.2.2.2)
      have HB4 := Lib.hid (bt HB3.out hb.out)
      have HNm := Lib.hid (show ∀ j, j < n → (l.getD j default).t.size ≤ maxLen from fun j hj => name_le HO.out.may (by rw [← HN.out]; exact hj))
      have HCa := Lib.hid (fun j (hj : j < n) W (hW : Below w3.heap.size w3 W) => show W.cell? ⟨bl, off + j * 2, none⟩ = some (.string (l.getD j default).t) ∧ W.cell? ⟨b2, j, none⟩ = some (.int .i64 (G.getD j 0)) from
        ⟨by rw [hW.cell (p := ⟨bl, off + j * 2, none⟩) HBl.out]; exact (HC0.out j hj).1, by rw [hW.cell (p := ⟨b2, j, none⟩) HB2l.out]; exact HC2.out j hj⟩)
      have HBz := Lib.hid (fun q => below_drewN hb.out q)
      clear hm hcnt hmap hf hlt hk hb
      go_wp2_with fail
      go_loopw [14] (fun i wr => ∃ i2 : Nat, i2 ≤ n ∧ i = .int .i64 (i2 : Int) ∧ Hid (∃ q, wr = wz.drewN q)) (fun i _ => n - (intOf i).toNat)
      case atStart => exact ⟨0, Nat.zero_le _, rfl, Lib.hid ⟨0, rfl⟩⟩
      case round =>
        obtain ⟨j, hj, rfl, hw⟩ := hrel
        by_cases hlt : j < n
        · have l1 : (j : Int) < (n : Int) := by omega
          have l0 : (0 : Int) ≤ (j : Int) := by omega
          have l2 : decide ((n : Int) ≤ (j : Int)) = false := by rw [decide_eq_false_iff_not]; omega
          have l2' : decide (n ≤ j) = false := by rw [decide_eq_false_iff_not]; omega
          have HB3q := Lib.hid (show Below w3.heap.size w3 wr by obtain ⟨q, e⟩ := hw.out; rw [e]; exact HBz.out q)
          have HMq := Lib.hid (show IMap Try.prog 9 2 wr w3.heap.size cnt f by obtain ⟨q, e⟩ := hw.out; rw [e]; exact HMap.out q)
          obtain ⟨c1, c2⟩ := HCa.out j hlt wr HB3q.out
          have hsz := HNm.out j hlt
          have hfy := HFn.out j hlt
          have HKj := Lib.hid (fun k (hk : k < D.length) => (HKey.out k hk).2.2.2.2.2.2 j (by rw [← HN.out]; exact hlt))
          obtain ⟨y, hy⟩ : ∃ y, y = G.getD j 0 := ⟨_, rfl⟩
          obtain ⟨nm, hnm⟩ : ∃ nm, nm = (l.getD j default).t := ⟨_, rfl⟩
          rw [← hy] at c2 hfy HKj
          rw [← hnm] at c1 hsz hfy HKj
          have hlk := fun q => imap_run (t := 38) (HMq.out.touch ((Touch.refl (fun _ => False) wr).drewN q) (fun h => h)) Try.underlying9 Try.underlying38 Try.underlying2 (zeroI64 _) nm hsz
          rw [hfy] at hlk
          have f1 : (y == y) = true := by simp
          have f2 : (y != y) = false := by simp
          have HCj := Lib.hid (fun W (hW : Below w3.heap.size w3 W) => show W.cell? ⟨bl, off + j * 2, none⟩ = some (.string nm) ∧ W.cell? ⟨b2, j, none⟩ = some (.int .i64 y) from by
            have := HCa.out j hlt W hW
            rw [← hy, ← hnm] at this
            exact this)
          clear hfy hy hnm hsz
          go_wp2_with fail
          go_quiet (fail)
          go_wp2_with fail
          have HWq := Lib.hid (show ∃ q, wr.drewN nq = wz.drewN q by obtain ⟨q, e⟩ := hw.out; exact ⟨q + nq, by rw [e, World.drewN_drewN]⟩)
          clear hlk c1 c2 HMq HB3q hw
          generalize wr.drewN nq = wy at *
          go_loopw [15] (fun i wr => ∃ k2 : Nat, k2 ≤ k ∧ i = .int .i64 (k2 : Int) ∧ Hid (∃ q, wr = wz.drewN q)) (fun i _ => k - (intOf i).toNat)
          case atStart => exact ⟨0, Nat.zero_le _, rfl, HWq⟩
          case round =>
            clear HWq
            obtain ⟨k2, hk, rfl, hw⟩ := hrel
            by_cases hlt2 : k2 < k
            · have hkD : k2 < D.length := by rw [← HND.out]; exact hlt2
              have l3 : (k2 : Int) < (k : Int) := by omega
              have l4 : (0 : Int) ≤ (k2 : Int) := by omega
              have HB3q := Lib.hid (show Below w3.heap.size w3 wr by obtain ⟨q, e⟩ := hw.out; rw [e]; exact HBz.out q)
              obtain ⟨c1, c2⟩ := HCj.out wr HB3q.out
              obtain ⟨bd, od, rfl, hbd, hcd⟩ := HD3.out.get HND.out (by omega)
              obtain ⟨e1, e2, -, -⟩ := hcd k2 hkD
              obtain ⟨u1, u2⟩ := HKj.out k2 hkD
              have e1 : wr.cell? ⟨bd, od + k2 * 4, none⟩ = some (.string D[k2].f) := by rw [HB3q.out.cell (p := ⟨bd, od + k2 * 4, none⟩) hbd]; exact e1
              have e2 : wr.cell? ⟨bd, od + k2 * 4 + 1, none⟩ = some (.string D[k2].t) := by rw [HB3q.out.cell (p := ⟨bd, od + k2 * 4 + 1, none⟩) hbd]; exact e2
              generalize D[k2].f = df at *
              generalize D[k2].t = dt at *
              clear hcd hbd
              rcases Int.lt_trichotomy y 0 with g1 | g1 | g1
              · have d1 : decide (0 < y) = false := by rw [decide_eq_false_iff_not]; omega
                have d2 : decide (y < 0) = true := by rw [decide_eq_true_iff]; exact g1
                have b1 : (dt.toList == nm.toList) = false := (Lib.bytes_beq_false_iff _ _).2 (u2 g1)
                clear u1 u2 g1
                go_wp2_with fail
                go_quiet (fail)
                go_wp2
                go_roundw
                case rel => exact ⟨k2 + 1, by omega, by go_num, Lib.hid (by obtain ⟨q, e⟩ := hw.out; exact ⟨_, by rw [e, World.drewN_drewN]⟩)⟩
                case measure => simp [intOf]; omega
              · have d1 : decide (0 < y) = false := by rw [decide_eq_false_iff_not]; omega
                have d2 : decide (y < 0) = false := by rw [decide_eq_false_iff_not]; omega
                clear u1 u2 g1
                go_wp2_with fail
                go_quiet (fail)
                go_wp2
                go_roundw
                case rel => exact ⟨k2 + 1, by omega, by go_num, Lib.hid (by obtain ⟨q, e⟩ := hw.out; exact ⟨_, by rw [e, World.drewN_drewN]⟩)⟩
                case measure => simp [intOf]; omega
              · have d1 : decide (0 < y) = true := by rw [decide_eq_true_iff]; exact g1
                have d2 : decide (y < 0) = false := by rw [decide_eq_false_iff_not]; omega
                have b1 : (df.toList == nm.toList) = false := (Lib.bytes_beq_false_iff _ _).2 (u1 g1)
                clear u1 u2 g1
                go_wp2_with fail
                go_quiet (fail)
                go_wp2
                go_roundw
                case rel => exact ⟨k2 + 1, by omega, by go_num, Lib.hid (by obtain ⟨q, e⟩ := hw.out; exact ⟨_, by rw [e, World.drewN_drewN]⟩)⟩
                case measure => simp [intOf]; omega
            · obtain rfl : k2 = k := by omega
              go_wp2
              go_roundw
              case rel => exact ⟨j + 1, by omega, by go_num, hw⟩
              case measure => simp [intOf]; omega
        · obtain rfl : j = n := by omega
          have HMq := Lib.hid (show IMap Try.prog 9 2 wr w3.heap.size cnt f by obtain ⟨q, e⟩ := hw.out; rw [e]; exact HMap.out q)
          have hlk := imap_run (t := 38) HMq.out Try.underlying9 Try.underlying38 Try.underlying2 (zeroI64 _) ⟨#[]⟩ (Nat.zero_le _)
          rw [HFe.out] at hlk
          have f1 : (S == S) = true := by simp
          have hle := HLen.out
          have v1 : IntKind.i64.wrap ((j : Int) + 1) = (j : Int) + 1 := IntWalk.i64_in _ (by omega)
          have d1 : decide ((k : Int) ≤ (j : Int) + 1) = true := by rw [decide_eq_true_iff]; omega
          have d1' : decide (k ≤ j + 1) = true := by rw [decide_eq_true_iff]; omega
          have HBf := Lib.hid (show Below w.heap.size w wr by obtain ⟨q, e⟩ := hw.out; rw [e]; exact below_drewN HB4.out q)
          clear hle
          go_wp2
          go_ret
          exact ⟨rfl, HBf.out⟩

theorem walk (v0 v1 : Value) (a2 : Int) (w : World) (w0 : Is22 w v0) (w1 : Is23 w v1) (w2 : (Lit.int .i64 a2).wf = true) :
    Calls Try.prog 5 #[v0, v1, .int .i64 a2] w fun e w' => e = .returned (.bool true) ∧ Below w.heap.size w w' := by
  obtain ⟨l, h, hwf⟩ := w0
  obtain ⟨g, h2, _⟩ := w1
  obtain ⟨ao, cap, rfl, hc1, hc2, _⟩ := h.shape
  obtain ⟨bo, cap2, rfl, _⟩ := h2.shape
  cases hf : (fewB l && decide (g.length ≤ 60)) with
  | false => exact skip ao bo _ cap _ cap2 l a2 w h rfl hwf (Nat.le_trans hc1 hc2) hf
  | true =>
    by_cases hw : wholeN l g a2 = 0
    · obtain ⟨T, W, ho⟩ := whole_is hw
      have e := ho.gl
      rw [e] at h2 hf ⊢
      exact core T W ao bo _ cap cap2 l g a2 w h rfl h2 hwf (Nat.le_trans hc1 hc2) hf ho
    · exact bad ao bo _ cap _ cap2 l g a2 w h rfl h2 rfl hwf (Nat.le_trans hc1 hc2) hf hw
end averageSettles
end Go.Proofs.Ytoaopgamfndfgaa
