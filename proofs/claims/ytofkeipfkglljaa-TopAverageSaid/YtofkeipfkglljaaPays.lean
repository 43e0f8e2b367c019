/-
  average.Pays.
-/
import Derived.Test.YtofkeipfkglljaaPay2
import Derived.OwnWalk
import Derived.Deep.DeepCutAuto
import Derived.Laws.EntriesVeiled
namespace Go.Proofs.Ytofkeipfkglljaa
open Go Go.RowKit
set_option linter.unusedVariables false
set_option linter.unusedSimpArgs false

theorem gets_bd {l : List In1} {g : List Int} {T : Nat} {W out : List Nat} (hm : mayB l = true) (hg : goneB l g = true) (hT : T ≤ 1099511627776) (hs : IsSplit T W out) (hS : 0 < T → 0 < W.sum) (j : Nat) : -4398046511104 ≤ (getsL g out).getD j 0 ∧ (getsL g out).getD j 0 ≤ 4398046511104 := by
  by_cases h : j < g.length
  · rw [gets_get h]
    have h1 := gone_getD hm hg j
    have h2 := split_le hs hS j
    omega
  · rw [List.getD_eq_getElem?_getD, List.getElem?_eq_none (by rw [gets_len]; omega)]; simp

/-- Whole, told of what is shared. -/
structure WholeOk (l : List In1) (g : List Int) (S : Int) (T : Nat) (W : List Nat) : Prop where
  ok : wholeN l g S = 0
  sum : g.sum + S = (T : Int)
  vals : valsL l = natI W
  may : mayB l = true
  gone : goneB l g = true
  s0 : 0 ≤ S
  s1 : S ≤ 1099511627776
  t1 : T ≤ 1099511627776
  wl : W.length = l.length
  gl : g.length = l.length
  pos : 1 ≤ l.length
  le : l.length ≤ 4096
  wr : wrongN (T : Int) (natI W) = 0
  ss : 0 < T → 0 < W.sum
  ts : T ≤ W.sum
  wb : ∀ x ∈ W, x ≤ 1099511627776
theorem isum_nat (W : List Nat) : (natI W).sum = ((W.sum : Nat) : Int) := by
  induction W with
  | nil => rfl
  | cons x W ih =>
    show (x : Int) + (natI W).sum = _
    rw [ih]; simp
theorem whole_is {l : List In1} {g : List Int} {S : Int} (h : wholeN l g S = 0) : ∃ T W, WholeOk l g S T W := by
  obtain ⟨c1, c2, c3, c4, hA⟩ := whole_ok h
  obtain ⟨W, hW, hWb, hWl⟩ := may_nat c1
  obtain ⟨-, a2, a3, hwr⟩ := adj_ok hA
  obtain ⟨T, hT⟩ := Int.eq_ofNat_of_zero_le a2
  rw [hT, hW] at hwr
  obtain ⟨T', W', e1, e2, hTb, _, _, _, hSS⟩ := wrong_ok hwr
  obtain rfl : T = T' := by omega
  obtain rfl : W = W' := by
    have := congrArg (List.map Int.toNat) e2
    simpa [natI, List.map_map, Function.comp_def] using this
  rw [hT, hW, isum_nat] at a3
  obtain ⟨h1, h2, -⟩ := (may_iff l).1 c1
  exact ⟨T, W, h, hT, hW, c1, c2, c3, c4, hTb, hWl, ((gone_iff l g).1 c2).1, h1, h2, hwr, hSS, by omega, hWb⟩

set_option maxHeartbeats 2000000 in
theorem pays_bad (ao bo : Option Addr) (n cap m cap2 : Nat) (l : List In1) (g : List Int) (S : Int) (w : World) (h : Ins w (.slice ao n cap) l) (hn : n = l.length) (h2 : Ints w (.slice bo m cap2) g) (hm : m = g.length) (hw : wholeN l g S ≠ 0) :
    Calls Try.prog 11 #[.slice ao n cap, .slice bo m cap2, .int .i64 S] w fun e w' => e = .returned (.tuple #[.slice none 0 0, .int .i64 (wholeN l g S)]) ∧ Below w.heap.size w w' := by
  have HB0 := Lib.hid ((Below.refl w.heap.size w).alloc (Nat.le_refl _) (.cells #[.slice ao n cap] 44))
  have HW := Lib.hid (whole_bad ao bo n cap m cap2 l g S (w.alloc (.cells #[.slice ao n cap] 44)) (h.below HB0.out) hn (h2.below HB0.out) hm hw)
  generalize wholeN l g S = r at *
  have d3 : (r == 0) = false := by rw [beq_eq_false_iff_ne]; exact hw
  have d4 : (r != 0) = true := by simp [bne, d3]
  clear hw hn hm h h2
  go_enter Try.func11, Try.ntmps11
  go_wp2_with fail
  refine HW.out.mono ?_
  rintro e w1 ⟨rfl, hb⟩
  have HB := Lib.hid (bt HB0.out hb)
  have HB1 := Lib.hid (HB.out.alloc HB.out.size (.cells #[.slice none 0 0] 45))
  clear hb
  go_wp2
  go_ret2
  exact ⟨rfl, HB1.out⟩

theorem penv_new (w w2 : World) (l : List In1) (lv : Value) (bG n : Nat) (G : List Int) (t1 t2 t3 t4 : TypeId) (hn : n = l.length) (hb : Below w.heap.size w w2) (hl : w2.cell? ⟨w.heap.size, 0, none⟩ = some lv) (hG : Blk w2 bG G) (l1 : w.heap.size < bG) (hi : Ins w lv l) (gl : G.length = l.length) :
    PEnv w l lv bG w2.heap.size ((((w2.alloc (.cells #[.slice (some ⟨bG, 0, none⟩) n n] t1)).alloc (.cells #[.slice none 0 0] t2)).alloc (.cells #[.int .i64 0] t3)).alloc (.cells #[owesV w2.heap.size] t4)) G (.slice none 0 0) [] 0 := by
  subst hn
  have h1 := heap_alloc_new w2 (.cells #[.slice (some ⟨bG, 0, none⟩) l.length l.length] t1)
  have b0 := (Below.refl w2.heap.size w2).alloc (Nat.le_refl _) (.cells #[.slice (some ⟨bG, 0, none⟩) l.length l.length] t1)
  have s1 : (w2.alloc (.cells #[.slice (some ⟨bG, 0, none⟩) l.length l.length] t1)).heap.size = w2.heap.size + 1 := by simp
  generalize w2.alloc (.cells #[.slice (some ⟨bG, 0, none⟩) l.length l.length] t1) = u1 at *
  have h2 := heap_alloc_new u1 (.cells #[.slice none 0 0] t2)
  have b1 := (Below.refl u1.heap.size u1).alloc (Nat.le_refl _) (.cells #[.slice none 0 0] t2)
  have s2 : (u1.alloc (.cells #[.slice none 0 0] t2)).heap.size = w2.heap.size + 2 := by simp [s1]
  rw [s1] at h2
  generalize u1.alloc (.cells #[.slice none 0 0] t2) = u2 at *
  have h3 := heap_alloc_new u2 (.cells #[.int .i64 0] t3)
  have b2 := (Below.refl u2.heap.size u2).alloc (Nat.le_refl _) (.cells #[.int .i64 0] t3)
  have s3 : (u2.alloc (.cells #[.int .i64 0] t3)).heap.size = w2.heap.size + 3 := by simp [s2]
  rw [s2] at h3
  generalize u2.alloc (.cells #[.int .i64 0] t3) = u3 at *
  have h4 := heap_alloc_new u3 (.cells #[owesV w2.heap.size] t4)
  have b3 := (Below.refl u3.heap.size u3).alloc (Nat.le_refl _) (.cells #[owesV w2.heap.size] t4)
  have s4 : (u3.alloc (.cells #[owesV w2.heap.size] t4)).heap.size = w2.heap.size + 4 := by simp [s3]
  rw [s3] at h4
  generalize u3.alloc (.cells #[owesV w2.heap.size] t4) = u4 at *
  have g3 := (b3.block (w2.heap.size + 2) (by omega)).trans h3
  have g2 := ((b3.block (w2.heap.size + 1) (by omega)).trans (b2.block (w2.heap.size + 1) (by omega))).trans h2
  have g1 := (((b3.block w2.heap.size (by omega)).trans (b2.block w2.heap.size (by omega))).trans (b1.block w2.heap.size (by omega))).trans h1
  have ba : Below w2.heap.size w2 u4 := bt (bt (bt b0 b1) b2) b3
  refine ⟨by simp [World.cell?, g1], by simp [World.cell?, g2], World.ownsRow_nil _ _ _ _, by simp [World.cell?, g3], by simp [World.cell?, h4], cell_later ba hl, by simp [World.frozen?, g2], by simp [World.frozen?, g3], hG.below ba, l1, hG.lt, by omega, bt hb ba, hi, Nat.zero_le _, gl, fun j hj => by omega⟩

theorem PEnv.drew {w0 : World} {l : List In1} {lv : Value} {bG bg : Nat} {w : World} {G : List Int} {v : Value} {D : List De} {f : Nat} (h : PEnv w0 l lv bG bg w G v D f) : PEnv w0 l lv bG bg w.drew G v D f := h.later ((Below.refl w.heap.size w).drew)

/-- A slice of debts. -/
def Des (w : World) (v : Value) (D : List De) : Prop := Row w v 4 D.length (D.flatMap De.cells)

set_option maxRecDepth 100000 in
set_option maxHeartbeats 8000000 in
theorem pays_any (T : Nat) (W : List Nat) (ao bo : Option Addr) (n cap cap2 : Nat) (l : List In1) (g : List Int) (S : Int) (w : World) (h : Ins w (.slice ao n cap) l) (hn : n = l.length) (h2 : Ints w (.slice bo n cap2) g) (hw : WholeOk l g S T W) :
    Calls Try.prog 11 #[.slice ao n cap, .slice bo n cap2, .int .i64 S] w fun e w' => ∃ v out, e = .returned (.tuple #[v, .int .i64 0]) ∧ IsSplit T W out ∧ Des w' v (payAll l (getsL g out) S l.length).D ∧ Below w.heap.size w w' := by
  have HB0 := Lib.hid ((Below.refl w.heap.size w).alloc (Nat.le_refl _) (.cells #[.slice ao n cap] 44))
  have HC0 := Lib.hid (show (w.alloc (.cells #[.slice ao n cap] 44)).cell? ⟨w.heap.size, 0, none⟩ = some (.slice ao n cap) by unfold World.cell?; rw [heap_alloc_new]; rfl)
  have HWh := Lib.hid (whole_any T W ao bo n cap cap2 l g S (w.alloc (.cells #[.slice ao n cap] 44)) (h.below HB0.out) hn (h2.below HB0.out) hw.ok hw.sum hw.vals)
  have HSz := Lib.hid (show (w.alloc (.cells #[.slice ao n cap] 44)).heap.size = w.heap.size + 1 by simp)
  have HWO := Lib.hid hw
  have HN := Lib.hid hn
  have H := Lib.hid h
  have h40 : n ≤ 4096 := by rw [hn]; exact hw.le
  clear hw hn h h2
  go_enter Try.func11, Try.ntmps11
  go_wp2_with fail
  refine HWh.out.mono ?_
  rintro e w2 ⟨b1, bG, out, rfl, hs, hk1, hkG, hlo, hlt, hb⟩
  have HB := Lib.hid (bt HB0.out hb)
  have HS := Lib.hid hs
  have HC2 := Lib.hid (cell_later hb HC0.out)
  obtain ⟨G, hG⟩ : ∃ G, G = getsL g out := ⟨_, rfl⟩
  rw [← hG] at hkG
  have HG := Lib.hid hG
  have HGl := Lib.hid (show G.length = l.length by rw [hG, gets_len, HWO.out.gl])
  have HGb := Lib.hid (fun j => gets_bd HWO.out.may HWO.out.gone HWO.out.t1 hs HWO.out.ss j)
  rw [← hG] at HGb
  have HE := Lib.hid (penv_new w w2 l (.slice ao n cap) bG n G 45 51 3 36 HN.out HB.out HC2.out hkG (by have := HSz.out; omega) H.out HGl.out)
  obtain ⟨bg, hbg⟩ : ∃ b, b = w2.heap.size := ⟨_, rfl⟩
  clear hb hs hk1 hkG hlo hlt hG
  go_wp2_with fail
  rw [show w2.heap.size + 1 + 1 + 1 = w2.heap.size + 3 from rfl, show w2.heap.size + 1 + 1 = w2.heap.size + 2 from rfl]
  unfold owesV at HE
  generalize (((w2.alloc (.cells #[.slice (some ⟨bG, 0, none⟩) n n] 45)).alloc (.cells #[.slice none 0 0] 51)).alloc (.cells #[.int .i64 0] 3)).alloc (.cells #[Value.func (.func 24) #[] #[.pointer (some ⟨w2.heap.size + 2, 0, none⟩), .pointer (some ⟨w2.heap.size, 0, none⟩)]] 36) = w3 at *
  rw [← hbg] at HE ⊢
  have HPay := Lib.hid (fun (t : ByteArray) (w' : World) (G' : List Int) (v : Value) (D : List De) (f : Nat) (due : Int) hE hM hd hD => pay_any w l ao n cap bG bg t w' G' v D f due hE HN.out h40 hM hd hD)
  have HP0 := Lib.hid (HPay.out emp w3 G (.slice none 0 0) [] 0 S HE.out HGb.out (by have := HWO.out.s1; omega) (by simp))
  unfold emp at HP0
  clear hbg HC2 HB0 HC0 HSz HWh
  refine HP0.out.mono ?_
  rintro e w4 ⟨f4, v4, rfl, hE4⟩
  have HE4 := Lib.hid (show PEnv w l (.slice ao n cap) bG bg w4 (payAll l G S 0).G v4 (payAll l G S 0).D f4 from hE4)
  have HPB := Lib.hid (fun k => pay_bd (l := l) (S := S) HGb.out k)
  have HPD := Lib.hid (fun k => pay_debts l G S k)
  have HPN := Lib.hid (show ∀ k, payAll l G S (k + 1) = scanTo l (l.getD k default).t ⟨(payAll l G S k).G, (payAll l G S k).G.getD k 0, (payAll l G S k).D⟩ l.length from fun _ => rfl)
  clear hE4 HP0 HE HB
  have k2 := HE4.out.hl
  go_wp2_with fail
  go_loopw [35] (fun i wr => ∃ (k f : Nat) (v : Value), k ≤ n ∧ i = .int .i64 (k : Int) ∧ Hid (PEnv w l (.slice ao n cap) bG bg wr (payAll l G S k).G v (payAll l G S k).D f)) (fun i _ => n - (intOf i).toNat)
  case atStart => exact ⟨0, f4, v4, Nat.zero_le _, rfl, HE4⟩
  case round =>
    clear HE4 k2
    obtain ⟨k, f, v, hk, rfl, hE⟩ := hrel
    by_cases hlt : k < n
    · have l1 : (k : Int) < (n : Int) := by omega
      have l0 : (0 : Int) ≤ (k : Int) := by omega
      have HKN := HPN.out k
      have hpb := HPB.out k
      have hpd := HPD.out k
      obtain ⟨s, hs⟩ : ∃ s, s = payAll l G S k := ⟨_, rfl⟩
      rw [← hs] at hE HKN hpb hpd
      obtain ⟨sG, sn, sD⟩ := s
      dsimp only at hE HKN hpb hpd
      have HK := Lib.hid HKN
      have hdd : sD.length ≤ 16781312 := by
        refine Nat.le_trans hpd (Nat.le_trans (Nat.mul_le_mul (show k + 1 ≤ 4096 by omega) (show l.length ≤ 4096 by rw [← HN.out]; exact h40)) (by decide))
      obtain ⟨bl, off, rfl, hbl, hcell⟩ := hE.out.hi.get HN.out (by omega)
      obtain ⟨k5, k6⟩ := hcell k hlt
      have k5 : wr.cell? ⟨bl, off + k * 2, none⟩ = some (.string (l.getD k default).t) := by rw [hE.out.hb.cell (by show bl < _; omega)]; exact k5
      have k6 : wr.cell? ⟨bl, off + k * 2 + 1, none⟩ = some (.int .i64 (l.getD k default).z) := by rw [hE.out.hb.cell (by show bl < _; omega)]; exact k6
      obtain ⟨nm, hnm⟩ : ∃ nm, nm = (l.getD k default).t := ⟨_, rfl⟩
      obtain ⟨z, hz⟩ : ∃ z, z = (l.getD k default).z := ⟨_, rfl⟩
      rw [← hnm] at k5 HK
      rw [← hz] at k6
      have HA := Lib.hid ((Below.refl wr.heap.size wr).alloc (Nat.le_refl _) (.cells #[.string nm, .int .i64 z] 48))
      have HEA := Lib.hid (hE.out.later HA.out)
      have HY := Lib.hid (hpb k)
      have HPk := Lib.hid (fun (w' : World) hE => HPay.out nm w' sG v sD f (sG.getD k 0) hE hpb (by have := HY.out; omega) hdd)
      have k4 := HEA.out.hg
      rw [← HN.out] at k4
      have k3 := HEA.out.gcell (c := k) (by rw [← HN.out]; exact hlt)
      generalize sG.getD k 0 = y at *
      have HX := new_cells wr #[.string nm, .int .i64 z] 48
      have m1 : (wr.alloc (.cells #[.string nm, .int .i64 z] 48)).cell? ⟨wr.heap.size, 0, none⟩ = some (.string nm) := by have := HX 0 (.string nm) rfl; rwa [add_in] at this
      clear hs HKN hpb hpd hdd hbl hcell hnm hz HX
      go_wp2_with fail
      go_region_with (go_at_call 25; refine (HPk.out _ HEA.out.drew).mono ?_; rintro e w5 ⟨f5, v5, rfl, hE5⟩; have HE5 := Lib.hid hE5; clear hE5)
      all_goals
        rw [← HK.out] at HE5
        go_wp2
        go_roundw
        case rel => exact ⟨k + 1, f5, v5, by omega, by go_num, HE5⟩
        case measure => simp [intOf]; omega
    · obtain rfl : k = n := by omega
      have k7 := hE.out.ho
      have HR := Lib.hid hE.out.row
      obtain ⟨a5, c5, rfl⟩ := own_shape hE.out.row
      have HFin := Lib.hid (show Des wr (.slice a5 (payAll l G S k).D.length c5) (payAll l (getsL g out) S l.length).D by
        unfold Des
        rw [← HG.out, ← HN.out]
        exact Row.of_own HR.out)
      go_wp2
      go_ret2
      exact ⟨_, out, rfl, HS.out, HFin.out, hE.out.hb⟩
end Go.Proofs.Ytofkeipfkglljaa
