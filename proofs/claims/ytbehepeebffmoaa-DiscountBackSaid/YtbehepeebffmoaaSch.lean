/-
  discount.Schedule.
-/
import Derived.Test.YtbehepeebffmoaaSchP
import Derived.OwnWalk
namespace Go.Proofs.Ytbehepeebffmoaa
open Go Go.RowKit
set_option linter.unusedVariables false
set_option linter.unusedSimpArgs false

def nilT : Value := .tuple #[.slice none 0 0, .slice none 0 0, .bool false]
theorem three_boxes (w : World) (t1 t2 : TypeId) (N D T B : Int) (br : Nat) : 
    ((((w.alloc (.cells #[.int .i64 N, .int .i64 D] t1)).alloc (.cells #[.int .i64 T] t2)).alloc (.cells #[.int .i64 B] t2))).cell? ⟨w.heap.size, 0, none⟩ = some (.int .i64 N) ∧
    ((((w.alloc (.cells #[.int .i64 N, .int .i64 D] t1)).alloc (.cells #[.int .i64 T] t2)).alloc (.cells #[.int .i64 B] t2))).cell? ⟨w.heap.size, 1, none⟩ = some (.int .i64 D) ∧
    ((((w.alloc (.cells #[.int .i64 N, .int .i64 D] t1)).alloc (.cells #[.int .i64 T] t2)).alloc (.cells #[.int .i64 B] t2))).cell? ⟨w.heap.size + 1, 0, none⟩ = some (.int .i64 T) ∧
    ((((w.alloc (.cells #[.int .i64 N, .int .i64 D] t1)).alloc (.cells #[.int .i64 T] t2)).alloc (.cells #[.int .i64 B] t2))).cell? ⟨w.heap.size + 1 + 1, 0, none⟩ = some (.int .i64 B) := by
  have h1 : (w.alloc (.cells #[.int .i64 N, .int .i64 D] t1)).heap[w.heap.size]? = some (.cells #[.int .i64 N, .int .i64 D] t1 (0, 0)) := heap_alloc_new _ _
  have h2 := heap_alloc_new (w.alloc (.cells #[.int .i64 N, .int .i64 D] t1)) (.cells #[.int .i64 T] t2)
  have h3 := heap_alloc_new ((w.alloc (.cells #[.int .i64 N, .int .i64 D] t1)).alloc (.cells #[.int .i64 T] t2)) (.cells #[.int .i64 B] t2)
  have b1 := (Below.refl (w.alloc (.cells #[.int .i64 N, .int .i64 D] t1)).heap.size (w.alloc (.cells #[.int .i64 N, .int .i64 D] t1))).alloc (Nat.le_refl _) (.cells #[.int .i64 T] t2)
  have b2 := (Below.refl ((w.alloc (.cells #[.int .i64 N, .int .i64 D] t1)).alloc (.cells #[.int .i64 T] t2)).heap.size ((w.alloc (.cells #[.int .i64 N, .int .i64 D] t1)).alloc (.cells #[.int .i64 T] t2))).alloc (Nat.le_refl _) (.cells #[.int .i64 B] t2)
  have s1 : (w.alloc (.cells #[.int .i64 N, .int .i64 D] t1)).heap.size = w.heap.size + 1 := by simp
  have s2 : ((w.alloc (.cells #[.int .i64 N, .int .i64 D] t1)).alloc (.cells #[.int .i64 T] t2)).heap.size = w.heap.size + 1 + 1 := by simp
  rw [s1] at h2
  rw [s2] at h3
  have g1 := (b2.block w.heap.size (by rw [s2]; omega)).trans ((b1.block w.heap.size (by rw [s1]; omega)).trans h1)
  have g2 := (b2.block (w.heap.size + 1) (by rw [s2]; omega)).trans h2
  generalize ((w.alloc (.cells #[.int .i64 N, .int .i64 D] t1)).alloc (.cells #[.int .i64 T] t2)).alloc (.cells #[.int .i64 B] t2) = W at *
  refine ⟨?_, ?_, ?_, ?_⟩
  · simp [World.cell?, g1]
  · simp [World.cell?, g1]
  · simp [World.cell?, g2]
  · simp [World.cell?, h3]

theorem sch_env {w2 : World} {bp bd bb : Nat} {N D T B : Int} (R : Int) (t : TypeId) (o : Obj) (h1 : w2.cell? ⟨bp, 0, none⟩ = some (.int .i64 N)) (h2 : w2.cell? ⟨bp, 1, none⟩ = some (.int .i64 D)) (h3 : w2.cell? ⟨bd, 0, none⟩ = some (.int .i64 T)) (h4 : w2.cell? ⟨bb, 0, none⟩ = some (.int .i64 B)) :
    Env w2.heap.size bp bd bb ((w2.alloc (.cells #[.int .i64 R] t)).alloc o) R N D T B := by
  have b1 := (Below.refl w2.heap.size w2).alloc (Nat.le_refl _) (.cells #[.int .i64 R] t)
  have l1 := World.block_lt_of_cell? _ _ h1
  have l3 := World.block_lt_of_cell? _ _ h3
  have l4 := World.block_lt_of_cell? _ _ h4
  have hn := heap_alloc_new w2 (.cells #[.int .i64 R] t)
  have E : Env w2.heap.size bp bd bb (w2.alloc (.cells #[.int .i64 R] t)) R N D T B :=
    ⟨by unfold World.cell?; rw [hn]; rfl, by unfold World.frozen?; rw [hn]; rfl, cell_later b1 h1, cell_later b1 h2, cell_later b1 h3, cell_later b1 h4, by simp at l1; omega, by simp at l3; omega, by simp at l4; omega⟩
  exact E.below ((Below.refl _ _).alloc (Nat.le_refl _) _)
theorem sch_none {S N D T B n : Int} (h : n < 1 ∨ 4096 < n ∨ S < 0 ∨ 1099511627776 < S) : ¬ schV S N D T B n := by
  rintro ⟨h1, h2, h3, h4, _⟩; omega

set_option maxHeartbeats 2000000 in
theorem sch_out (S N D T B n : Int) (w : World) (h : n < 1 ∨ 4096 < n) :
    Calls Try.prog 21 #[.int .i64 S, .agg #[.int .i64 N, .int .i64 D], .int .i64 n, .int .i64 T, .int .i64 B] w (SchPost S N D T B n w) := by
  have HV := Lib.hid (sch_none (S := S) (N := N) (D := D) (T := T) (B := B) (n := n) (by omega))
  have HBe := Lib.hid (below3d w (.cells #[.int .i64 N, .int .i64 D] 23) (.cells #[.int .i64 T] 3) (.cells #[.int .i64 B] 3))
  have K := Lib.hid (show decide (n < 1) = false → decide (4096 < n) = true by
    intro a1; rw [decide_eq_false_iff_not] at a1; rw [decide_eq_true_iff]; omega)
  clear h
  cases a1 : decide (n < 1) with
  | true =>
    go_enter Try.func21, Try.ntmps21
    go_wp2
    go_ret3
    exact ⟨HBe.out, .inl ⟨HV.out, rfl⟩⟩
  | false =>
    have a2 := K.out a1
    go_enter Try.func21, Try.ntmps21
    go_wp2
    go_ret3
    exact ⟨HBe.out, .inl ⟨HV.out, rfl⟩⟩

set_option maxRecDepth 100000 in
set_option maxHeartbeats 8000000 in
theorem sch_in (S N D T B : Int) (n : Nat) (w : World) (h1 : 1 ≤ n) (h2 : n ≤ 4096) :
    Calls Try.prog 21 #[.int .i64 S, .agg #[.int .i64 N, .int .i64 D], .int .i64 (n : Int), .int .i64 T, .int .i64 B] w (SchPost S N D T B (n : Int) w) := by
  have HE := Lib.hid (fun w => even_any S n w h1 h2)
  have HBe := Lib.hid (below3d w (.cells #[.int .i64 N, .int .i64 D] 23) (.cells #[.int .i64 T] 3) (.cells #[.int .i64 B] 3))
  have HC3 := Lib.hid (three_boxes w 23 3 N D T B 0)
  have a1 : decide ((n : Int) < 1) = false := by rw [decide_eq_false_iff_not]; omega
  have a2 : decide ((4096 : Int) < (n : Int)) = false := by rw [decide_eq_false_iff_not]; omega
  have H12 := Lib.hid (And.intro h1 h2)
  have MK1 : ∀ w, (Instr.makeSlice 38 (.int .i64 (n : Int)) (.int .i64 (n : Int))).run Try.prog w = .ok (.slice (some ⟨w.heap.size, 0, none⟩) n n) (w.alloc (.cells (nums (List.replicate n 0)) 2)) := fun w => by
    rw [← made_nums]; exact run_make_row' _ _ _ 8 Try.underlying38 Try.infoI64 rfl _ _ n (by omega) (by omega) w
  have HMK := Lib.hid MK1
  clear MK1 h1 h2
  go_enter Try.func21, Try.ntmps21
  go_wp2_with fail
  generalize ((w.alloc (.cells #[.int .i64 N, .int .i64 D] 23)).alloc (.cells #[.int .i64 T] 3)).alloc (.cells #[.int .i64 B] 3) = w1 at *
  refine (HE.out _).mono ?_
  rintro e w2 ⟨hb, hcase⟩
  have HB2 := Lib.hid (btd HBe.out hb)
  have HC2 := Lib.hid (show w2.cell? ⟨w.heap.size, 0, none⟩ = some (.int .i64 N) ∧ w2.cell? ⟨w.heap.size, 1, none⟩ = some (.int .i64 D) ∧ w2.cell? ⟨w.heap.size + 1, 0, none⟩ = some (.int .i64 T) ∧ w2.cell? ⟨w.heap.size + 1 + 1, 0, none⟩ = some (.int .i64 B) from ⟨cell_later hb HC3.out.1, cell_later hb HC3.out.2.1, cell_later hb HC3.out.2.2.1, cell_later hb HC3.out.2.2.2⟩)
  have HSz := Lib.hid (Nat.le_trans HBe.out.size (Nat.le_refl _))
  clear HC3
  rcases hcase with ⟨hwr, rfl⟩ | ⟨T', u, out, rfl, hT, rfl, hs, hp⟩
  · have HV := Lib.hid (show ¬ schV S N D T B (n : Int) from sch_none (by
      have hns : ¬ (0 ≤ S ∧ S ≤ 1099511627776) := fun h => hwr ((ones_wrong (T := S) H12.out.1 H12.out.2).2 h)
      omega))
    have d1 : ((0 : Int) == (n : Int)) = false := by rw [beq_eq_false_iff_ne]; have := H12.out.1; omega
    have d2 : ((0 : Int) != (n : Int)) = true := by rw [bne, d1]; rfl
    clear hwr hb
    go_wp2
    go_ret3
    exact ⟨HB2.out, .inl ⟨HV.out, rfl⟩⟩
  · obtain rfl : out = evenL T' n := hs.unique (even_is T' n)
    have hol := even_len T' n
    obtain ⟨out, ho⟩ : ∃ o, o = evenL T' n := ⟨_, rfl⟩
    rw [← ho] at hp hol hs
    obtain ⟨bq, rfl, hq1, hq2⟩ := hp
    rw [hol]
    have HO := Lib.hid ho
    have HOL := Lib.hid hol
    have HQ := Lib.hid (And.intro hq1 hq2)
    have HT := Lib.hid hT
    clear hs hol ho hq1 hq2 hT hb
    have MK1 := HMK.out
    go_upto_region 9 with fail
    have HEn := Lib.hid (sch_env (T' : Int) 2 (.cells (nums (List.replicate n 0)) 2) HC2.out.1 HC2.out.2.1 HC2.out.2.2.1 HC2.out.2.2.2)
    have hsz1 : (w2.alloc (.cells #[.int .i64 (T' : Int)] 2)).heap.size = w2.heap.size + 1 := by simp
    have HI0 := heap_alloc_new (w2.alloc (.cells #[.int .i64 (T' : Int)] 2)) (.cells (nums (List.replicate n 0)) 2)
    rw [hsz1] at HI0
    have hbw : Below w2.heap.size w2 ((w2.alloc (.cells #[.int .i64 (T' : Int)] 2)).alloc (.cells (nums (List.replicate n 0)) 2)) := below2 _ _ _
    have hq0 : bq < w2.heap.size := lt_of_block HQ.out.1
    have HQ0 := (hbw.block bq hq0).trans HQ.out.1
    have HBw := Lib.hid (btd HB2.out hbw)
    generalize (w2.alloc (.cells #[.int .i64 (T' : Int)] 2)).alloc (.cells (nums (List.replicate n 0)) 2) = w3 at *
    have hbp := World.block_lt_of_cell? _ _ HC2.out.1
    have hbd := World.block_lt_of_cell? _ _ HC2.out.2.2.1
    have hbb := World.block_lt_of_cell? _ _ HC2.out.2.2.2
    have hsw := HB2.out.size
    obtain ⟨br, hbr⟩ : ∃ x, x = w2.heap.size := ⟨_, rfl⟩
    obtain ⟨bi, hbi⟩ : ∃ x, x = w2.heap.size + 1 := ⟨_, rfl⟩
    rw [← hbi] at HI0
    rw [← hbi, ← hbr]
    rw [← hbr] at HEn
    have HN := Lib.hid (show ¬ bi = br ∧ ¬ bi = bq ∧ ¬ br = bq ∧ ¬ w.heap.size = bi ∧ ¬ (w.heap.size + 1) = bi ∧ ¬ (w.heap.size + 1 + 1) = bi ∧ w.heap.size ≤ bi ∧ w.heap.size ≤ br by
      simp only at hbp hbd hbb
      omega)
    obtain ⟨L, hL⟩ : ∃ L, L = nears (T' : Int) N D T B out := ⟨_, rfl⟩
    have HL := Lib.hid hL
    have HLl := Lib.hid (show L.length = n by rw [hL, nears_len, HOL.out])
    have HI0 := Lib.hid (show w3.heap[bi]? = some (.cells (nums (L.take 0 ++ List.replicate (n - 0) 0)) 2 (0, 0)) by simpa using HI0)
    have HQ0 := Lib.hid HQ0
    obtain ⟨bp, hbp0⟩ : ∃ x, x = w.heap.size := ⟨_, rfl⟩
    have HR0 := Lib.hid (show Env br w.heap.size (w.heap.size + 1) (w.heap.size + 1 + 1) w3 (rst (T' : Int) out 0) N D T B by
      have := HEn.out; simpa [rst] using this)
    clear hbp hbd hbb hsw hbr hbi hq0 hsz1 hbw MK1 hL HC2 HEn hbp0 bp
    go_wp2_with fail
    go_loopw [38] (fun i wr => ∃ k : Nat, k ≤ n ∧ i = .int .i64 (k : Int) ∧ Hid (Env br w.heap.size (w.heap.size + 1) (w.heap.size + 1 + 1) wr (rst (T' : Int) out k) N D T B) ∧ Hid (wr.heap[bi]? = some (.cells (nums (L.take k ++ List.replicate (n - k) 0)) 2 (0, 0))) ∧ Hid (wr.heap[bq]? = some (.cells (nums out) 2 (0, 0))) ∧ Hid (Below w.heap.size w wr) ∧ Hid (∀ j, j < k → okK (T' : Int) N D T B out j = true)) (fun i _ => n - (intOf i).toNat)
    case atStart => exact ⟨0, Nat.zero_le _, rfl, HR0, HI0, HQ0, HBw, Lib.hid (fun j hj => by omega)⟩
    case round =>
      clear HR0 HI0 HQ0 HBw
      obtain ⟨k, hk, rfl, hE, hI, hQ, hB, hO⟩ := hrel
      by_cases hlt : k < n
      · have hko : k < out.length := by rw [HOL.out]; exact hlt
        obtain ⟨x, hx⟩ : ∃ x, out[k]? = some x := ⟨_, List.getElem?_eq_getElem hko⟩
        have c1 : wr.cell? ⟨bq, k, none⟩ = some (.int .i64 (x : Int)) := by
          have := hQ.out
          simp only [World.cell?, this, nums, List.getElem?_toArray, List.getElem?_map, hx]; rfl
        have hsum : out.sum = T' := by rw [HO.out]; exact even_sum T' n H12.out.1
        have hbd := rst_bd hsum hx
        obtain ⟨p, q, o, hi⟩ : ∃ p q o, intP (rst (T' : Int) out k) N D T B = (p, q, o) := ⟨_, _, _, rfl⟩
        have l1 : (k : Int) < (n : Int) := by omega
        have l0 : (0 : Int) ≤ (k : Int) := by omega
        have hn4 : n ≤ 4096 := H12.out.2
        cases o with
        | false =>
          have HV := Lib.hid (show ¬ schV (T' : Int) N D T B (n : Int) from fun hv => by
            have h5 := hv.2.2.2.2 k (by simpa using hlt)
            simp only [Int.toNat_natCast] at h5
            rw [← HO.out] at h5
            unfold okK at h5
            rw [hi] at h5
            cases h5)
          have HX := Lib.hid (next_no br w.heap.size (w.heap.size + 1) (w.heap.size + 1 + 1) (rst (T' : Int) out k) N D T B p q (x : Int) wr hE.out hi)
          clear hi hbd hsum hx hko
          go_wp2_with fail
          refine HX.out.mono ?_
          rintro e w4 ⟨rfl, hb⟩
          have HB4 := Lib.hid (btd hB.out hb)
          clear hb
          go_wp2
          go_ret3
          exact ⟨HB4.out, .inl ⟨HV.out, rfl⟩⟩
        | true =>
          have HX := Lib.hid (next_ok br w.heap.size (w.heap.size + 1) (w.heap.size + 1 + 1) (rst (T' : Int) out k) N D T B p q (x : Int) wr hE.out hi (by omega) hbd.2.2)
          obtain ⟨y, hy⟩ : ∃ y, y = nearN p.toNat q.toNat := ⟨_, rfl⟩
          rw [← hy] at HX
          have hok : okK (T' : Int) N D T B out k = true := by unfold okK; rw [hi]
          have hyk : L[k]? = some y := by
            rw [HL.out, nears_get hko]
            unfold nearK
            rw [hi, hy]
          have HNx := Lib.hid (rst_next (S := (T' : Int)) hx)
          have HOk := Lib.hid (show ∀ j, j < k + 1 → okK (T' : Int) N D T B out j = true from fun j hj => by
            by_cases e : j = k
            · subst e; exact hok
            · exact hO.out j (by omega))
          have g0 := pre_get (l := L) HLl.out hlt
          have g1 := Lib.hid (pre_set (l := L) (x := y) HLl.out hyk hlt)
          have g0 := Lib.hid g0
          clear hi hbd hsum hx hko hy hok hyk
          go_wp2_with fail
          refine HX.out.mono ?_
          rintro e w4 ⟨rfl, hE4, ht⟩
          have hI4 := (ht.block bi (lt_of_block hI.out) HN.out.1).trans hI.out
          have hQ4 := (ht.block bq (lt_of_block hQ.out) (fun e => HN.out.2.2.1 e.symm)).trans hQ.out
          have hB4 := hB.out.trans (ht.below hB.out.size (fun b hb => by rw [hb]; exact HN.out.2.2.2.2.2.2.2))
          have c2 : w4.cell? ⟨bi, k, none⟩ = some (.int .i64 ((0 : Nat) : Int)) := by
            simp only [World.cell?, hI4, nums, List.getElem?_toArray, List.getElem?_map, g0.out]; rfl
          have c3 : w4.frozen? ⟨bi, k, none⟩ = false := by simp [World.frozen?, hI4]
          have hE4 := Lib.hid hE4
          have hI4 := Lib.hid hI4
          have hQ4 := Lib.hid hQ4
          have hB4 := Lib.hid hB4
          clear ht c1
          go_wp2
          go_roundw
          case rel =>
            refine ⟨k + 1, by omega, by go_num, Lib.hid ?_, Lib.hid ?_, Lib.hid ?_, Lib.hid ?_, HOk⟩
            · rw [HNx.out]
              exact hE4.out.other (fun e => HN.out.1 e.symm) HN.out.2.2.2.1 HN.out.2.2.2.2.1 HN.out.2.2.2.2.2.1 k _
            · rw [heap_setA hI4.out, nums_set, g1.out]
            · rw [Below.heap_setCell _ _ _ _ (fun e => HN.out.2.1 e.symm)]; exact hQ4.out
            · exact hB4.out.setCell (p := ⟨bi, k, none⟩) HN.out.2.2.2.2.2.2.1 _
          case measure => simp [intOf]; omega
      · obtain rfl : k = n := by omega
        have HV := Lib.hid (show schV (T' : Int) N D T B (k : Int) from ⟨by have := H12.out.1; omega, by have := H12.out.2; omega, by omega, by have := HT.out; omega, fun j hj => by
          have := hO.out j (by simpa using hj)
          simp only [Int.toNat_natCast]
          rw [← HO.out]
          exact this⟩)
        have HU := Lib.hid (show Ints wr (.slice (some ⟨bq, 0, none⟩) k k) (natI (evenL (T' : Int).toNat (k : Int).toNat)) by
          simp only [Int.toNat_natCast]
          rw [← HO.out]
          have := Parts.ints (w0 := w) (w := wr) (v := .slice (some ⟨bq, 0, none⟩) out.length out.length) (out := out) ⟨bq, rfl, hQ.out, Nat.le_trans HSz.out HQ.out.2⟩ (by rw [HOL.out]; exact H12.out.2)
          rwa [HOL.out] at this)
        have HW := Lib.hid (show Ints wr (.slice (some ⟨bi, 0, none⟩) k k) (natI (nears (T' : Int) N D T B (evenL (T' : Int).toNat (k : Int).toNat))) by
          simp only [Int.toNat_natCast]
          rw [← HO.out, ← HL.out]
          have h := hI.out
          rw [Nat.sub_self, List.replicate_zero, List.append_nil, List.take_of_length_le (by rw [HLl.out]; exact Nat.le_refl _)] at h
          have := Parts.ints (w0 := w) (w := wr) (v := .slice (some ⟨bi, 0, none⟩) L.length L.length) (out := L) ⟨bi, rfl, h, HN.out.2.2.2.2.2.2.1⟩ (by rw [HLl.out]; exact H12.out.2)
          rwa [HLl.out] at this)
        go_wp2
        go_ret3
        exact ⟨hB.out, .inr ⟨HV.out, _, _, rfl, HU.out, HW.out⟩⟩

theorem sch_any (S N D T B n : Int) (w : World) (hn : n ≤ 60 ∨ 4096 < n) :
    Calls Try.prog 21 #[.int .i64 S, .agg #[.int .i64 N, .int .i64 D], .int .i64 n, .int .i64 T, .int .i64 B] w (SchPost S N D T B n w) := by
  by_cases h : n < 1 ∨ 4096 < n
  · exact sch_out S N D T B n w h
  · obtain ⟨n, rfl⟩ := Int.eq_ofNat_of_zero_le (show 0 ≤ n by omega)
    exact sch_in S N D T B n w (by omega) (by omega)
end Go.Proofs.Ytbehepeebffmoaa
