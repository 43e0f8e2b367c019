/-
  Custody: Hand.
-/
import Derived.Test.YtofkeipfkglljaaDoorCusB
import Derived.BigQuiet
import Derived.Deep.RegionHeld3
namespace Go.Proofs.YtofkeipfkglljaaDoor
open Go Go.RowKit
set_option linter.unusedVariables false
set_option linter.unusedSimpArgs false

theorem grown_heap {w w' : World} {row : Option Nat} (h : w.grownBy w' row) {k : Nat} (hk : k < w.heap.size) (hn : row ≠ some k) : w'.heap[k]? = w.heap[k]? := h.block k hk (fun e => hn e.symm)
theorem Tryd.infoHa : (Tryd.prog.info? 35).map (fun i => (i.zero, i.size, i.bytes)) = some (some (.agg #[.string ⟨#[]⟩, .string ⟨#[]⟩, .string ⟨#[]⟩, .string ⟨#[]⟩, .int .i64 0]), 5, 72) := by kernel_rfl
theorem Hand.one (h : Hand) : ∀ u ∈ h.cells, u.oneCell' = true := by intro u hu; simp [Hand.cells] at hu; rcases hu with rfl | rfl | rfl | rfl | rfl <;> rfl

theorem CH.hands {w : World} {bc bm : Nat} {v : Value} {hs : List Hand} (h : CH w bc bm v hs) : Hands w v hs := Row.of_own h.row

set_option maxRecDepth 20000 in
set_option maxHeartbeats 4000000 in
theorem hand_ok (w : World) (bc bm : Nat) (v : Value) (hs : List Hand) (l h : Hand) (hch : CH w bc bm v (hs ++ [l])) (hbox : h.box = ⟨#[98, 111, 120]⟩) (hf : nameB h.frm = true) (ht : nameB h.to = true) (hp : nameB h.place = true)
    (hne : ¬ h.frm.toList = h.to.toList) (d0 : 0 ≤ h.day) (d1 : h.day ≤ 1048576) (hlt : l.to.toList = h.frm.toList) (hld : l.day ≤ h.day) (hln : hs.length ≤ 100) :
    Calls Tryd.prog 7 #[.pointer (some ⟨bc, 0, none⟩), .agg #[.string h.box, .string h.frm, .string h.to, .string h.place, .int .i64 h.day]] w fun e w' => ∃ v', e = .returned (.int .i64 0) ∧ CH w' bc bm v' (hs ++ [l] ++ [h]) ∧ Touch (fun k => k = bm ∨ v.ownBlock = some k) w w' ∧ (∀ k, v'.ownBlock = some k → v.ownBlock = some k ∨ w.heap.size ≤ k) := by
  obtain ⟨bx, fr, tu, pl, dy⟩ := h
  simp only at hbox hf ht hp hne d0 d1 hlt hld
  subst hbox
  have hq : (fr.toList == tu.toList) = false := by simpa using hne
  have hq4 : (l.to.toList == fr.toList) = true := by simpa using hlt
  have hq2 : (l.to.toList != fr.toList) = false := by simp [bne, hlt]
  have hq3 : decide (dy < l.day) = false := by simp; omega
  obtain ⟨bk, off, cap, rfl, k1, k2, k3, k4⟩ := hch.hands.at (by simp)
  obtain ⟨n, HN⟩ : ∃ n, Hid (n = hs.length) := ⟨_, Lib.hid rfl⟩
  have HN1 : (hs ++ [l]).length = n + 1 := by rw [HN.out]; simp
  have c0 := k4 n (by omega)
  have hg : (hs ++ [l])[n]'(by omega) = l := by simp [HN.out]
  rw [hg] at c0
  obtain ⟨m0, m1, m2, m3, m4⟩ := c0
  rw [HN1] at hch k1 ⊢
  clear k4 hg
  have hn : n ≤ 100 := by rw [HN.out]; exact hln
  unfold maxLen at k2
  have b1 := (Below.refl w.heap.size w).alloc (Nat.le_refl _) (.cells #[.string ⟨#[98, 111, 120]⟩, .string fr, .string tu, .string pl, .int .i64 dy] 35)
  have hA := heap_alloc_new w (.cells #[.string ⟨#[98, 111, 120]⟩, .string fr, .string tu, .string pl, .int .i64 dy] 35)
  have hsA : (w.alloc (.cells #[.string ⟨#[98, 111, 120]⟩, .string fr, .string tu, .string pl, .int .i64 dy] 35)).heap.size = w.heap.size + 1 := by simp
  have b2 := b1.alloc (by omega) (.cells #[.string ⟨#[98, 111, 120]⟩, .string fr, .string tu, .string pl] 9)
  have b3 := (Below.refl (w.alloc (.cells #[.string ⟨#[98, 111, 120]⟩, .string fr, .string tu, .string pl, .int .i64 dy] 35)).heap.size (w.alloc (.cells #[.string ⟨#[98, 111, 120]⟩, .string fr, .string tu, .string pl, .int .i64 dy] 35))).alloc (Nat.le_refl _) (.cells #[.string ⟨#[98, 111, 120]⟩, .string fr, .string tu, .string pl] 9)
  have HNm := Lib.hid (names_ok _ 4 4 [⟨#[98, 111, 120]⟩, fr, tu, pl] _ (show Txs ((w.alloc (.cells #[.string ⟨#[98, 111, 120]⟩, .string fr, .string tu, .string pl, .int .i64 dy] 35)).alloc (.cells #[.string ⟨#[98, 111, 120]⟩, .string fr, .string tu, .string pl] 9)) (.slice (some ⟨w.heap.size + 1, 0, none⟩) 4 4) [⟨#[98, 111, 120]⟩, fr, tu, pl] from txs_lit _ [⟨#[98, 111, 120]⟩, fr, tu, pl] 4 (w.heap.size + 1) rfl hsA.symm (by omega)) rfl (by omega) (by intro s hs; simp at hs; rcases hs with rfl | rfl | rfl | rfl <;> first | assumption | decide))
  have HDy := Lib.hid (fun w => isday_ok dy d0 d1 w)
  have HA2 := Lib.hid (show ((w.alloc (.cells #[.string ⟨#[98, 111, 120]⟩, .string fr, .string tu, .string pl, .int .i64 dy] 35)).alloc (.cells #[.string ⟨#[98, 111, 120]⟩, .string fr, .string tu, .string pl] 9)).heap[w.heap.size]? = _ from (b3.block w.heap.size (by omega)).trans hA)
  have HB2 := Lib.hid b2
  have HCh := Lib.hid hch
  have HM := Lib.hid (And.intro m0 (And.intro m1 (And.intro m2 (And.intro m3 m4))))
  clear b1 hA hsA b2 b3 hch m0 m1 m2 m3 m4 hf ht hp hne d0 d1 hlt hld
  go_enter Tryd.func7, Tryd.ntmps7
  go_wp2_with fail
  refine HNm.out.mono ?_
  rintro e w1 ⟨rfl, rfl⟩
  go_wp2_with fail
  refine (HDy.out _).mono ?_
  rintro e w1 ⟨rfl, rfl⟩
  clear HNm HDy
  generalize (w.alloc (.cells #[.string ⟨#[98, 111, 120]⟩, .string fr, .string tu, .string pl, .int .i64 dy] 35)).alloc (.cells #[.string ⟨#[98, 111, 120]⟩, .string fr, .string tu, .string pl] 9) = wb at *
  have hch := HCh.out.later HB2.out
  have e0 : wb.cell? ⟨bc, 0, none⟩ = some (.map (some bm)) := by
    have := hch.hc
    simp [World.cell?, this]
  have e1 : wb.cell? ⟨w.heap.size, 0, none⟩ = some (.string ⟨#[98, 111, 120]⟩) := by
    have := HA2.out
    simp [World.cell?, this]
  have hlk : ∀ q, (Instr.lookup 50 (.map (some bm)) (.string ⟨#[98, 111, 120]⟩) true).run Tryd.prog (wb.drewN q) = .ok (.tuple #[.slice (some ⟨bk, off, none⟩) (n + 1) cap, .bool true]) (wb.drewN q) := fun q => (show BM (wb.drewN q) bm _ from hch.hm).look true
  clear hch
  go_wp2_with fail
  go_quiet (fail)
  have HB3 := Lib.hid (below_drewN HB2.out nq)
  have HA3 := Lib.hid (show (wb.drewN nq).heap[w.heap.size]? = _ from HA2.out)
  clear e0 e1 hlk HB2 HA2
  generalize wb.drewN nq = wc at *
  have m0 : wc.cell? ⟨bk, off + n * 5, none⟩ = _ := (heap_cell (HB3.out.block bk k3)).trans HM.out.1
  have m1 : wc.cell? ⟨bk, off + n * 5 + 1, none⟩ = _ := (heap_cell (HB3.out.block bk k3)).trans HM.out.2.1
  have m2 : wc.cell? ⟨bk, off + n * 5 + 2, none⟩ = _ := (heap_cell (HB3.out.block bk k3)).trans HM.out.2.2.1
  have m3 : wc.cell? ⟨bk, off + n * 5 + 3, none⟩ = _ := (heap_cell (HB3.out.block bk k3)).trans HM.out.2.2.2.1
  have m4 : wc.cell? ⟨bk, off + n * 5 + 4, none⟩ = _ := (heap_cell (HB3.out.block bk k3)).trans HM.out.2.2.2.2

  have HAd := Lib.hid (show (wc.alloc (.cells #[.string l.box, .string l.frm, .string l.to, .string l.place, .int .i64 l.day] 35)).heap[w.heap.size]? = _ from ((((Below.refl wc.heap.size wc).alloc (Nat.le_refl _) _).block w.heap.size (lt_of_block HA3.out)).trans HA3.out))
  have HBd := Lib.hid (HB3.out.alloc HB3.out.size (.cells #[.string l.box, .string l.frm, .string l.to, .string l.place, .int .i64 l.day] 35))
  have x0 : (wc.alloc (.cells #[.string l.box, .string l.frm, .string l.to, .string l.place, .int .i64 l.day] 35)).cell? ⟨w.heap.size, 0, none⟩ = some (.string ⟨#[98, 111, 120]⟩) := by have := HAd.out; simp only [World.cell?, this]; rfl
  have x1 : (wc.alloc (.cells #[.string l.box, .string l.frm, .string l.to, .string l.place, .int .i64 l.day] 35)).cell? ⟨w.heap.size, 1, none⟩ = some (.string fr) := by have := HAd.out; simp only [World.cell?, this]; rfl
  have x2 : (wc.alloc (.cells #[.string l.box, .string l.frm, .string l.to, .string l.place, .int .i64 l.day] 35)).cell? ⟨w.heap.size, 2, none⟩ = some (.string tu) := by have := HAd.out; simp only [World.cell?, this]; rfl
  have x3 : (wc.alloc (.cells #[.string l.box, .string l.frm, .string l.to, .string l.place, .int .i64 l.day] 35)).cell? ⟨w.heap.size, 3, none⟩ = some (.string pl) := by have := HAd.out; simp only [World.cell?, this]; rfl
  have x4 : (wc.alloc (.cells #[.string l.box, .string l.frm, .string l.to, .string l.place, .int .i64 l.day] 35)).cell? ⟨w.heap.size, 4, none⟩ = some (.int .i64 dy) := by have := HAd.out; simp only [World.cell?, this]; rfl
  go_wp2_with fail
  clear m0 m1 m2 m3 m4 hq hq4 hq2 hq3 HB3 HA3 HM
  generalize wc.alloc (.cells #[.string l.box, .string l.frm, .string l.to, .string l.place, .int .i64 l.day] 35) = wd at *
  have hch := HCh.out.later HBd.out
  have HCd := Lib.hid hch
  have e0 : wd.cell? ⟨bc, 0, none⟩ = some (.map (some bm)) := by
    have := hch.hc
    simp [World.cell?, this]
  have hA := (Below.refl wd.heap.size wd).alloc (Nat.le_refl _) (.cells #[.string ⟨#[98, 111, 120]⟩, .string fr, .string tu, .string pl, .int .i64 dy] 35)
  have hrow := hch.row
  rw [HN1] at hrow
  have HO := Lib.hid ((hrow.alloc (.cells #[.string ⟨#[98, 111, 120]⟩, .string fr, .string tu, .string pl, .int .i64 dy] 35)).drew)
  have y0 := cell_later hA x0
  have y1 := cell_later hA e0
  have L1 : n + 1 + 1 ≤ maxLen := by unfold maxLen; omega
  have L2 : (n + 1 + 1) * 72 ≤ 140737488355328 := by omega
  have Z5 : 0 < 5 := by decide
  obtain ⟨i0, hi0, hz0, hz1, hz2⟩ := info_parts Tryd.infoHa
  have H1 := Lib.hid (Hand.one ⟨⟨#[98, 111, 120]⟩, fr, tu, pl, dy⟩)
  have HAl := Lib.hid hA
  clear hA hch hrow
  have HBL := Lib.hid (And.intro (lt_of_block HCd.out.hc) (lt_of_block (show wd.heap[bm]? = _ from HCd.out.hm)))
  have HBX := Lib.hid (lt_of_block HAd.out)
  have HN1c := Lib.hid HCd.out.n1
  have HN1m := Lib.hid HCd.out.n2
  have HMd := Lib.hid (show wd.heap[bm]? = _ from HCd.out.hm)
  have HNe := Lib.hid HCd.out.n3
  have HNx := Lib.hid (show w.heap.size ≠ bm from fun e => by have := lt_of_block (show w.heap[bm]? = _ from HCh.out.hm); omega)
  have HN1x := Lib.hid (show (Value.slice (some ⟨bk, off, none⟩) (n + 1) cap).ownBlock ≠ some w.heap.size from fun e => by
    have h2 : some bk = some w.heap.size := e
    injection h2 with h2
    omega)
  have HS := Lib.hid (fun (W : World) (g1 : W.heap[bc]? = wd.heap[bc]?) (g2 : W.heap[w.heap.size]? = wd.heap[w.heap.size]?) => (show W.cell? ⟨bc, 0, none⟩ = some (.map (some bm)) ∧ W.cell? ⟨w.heap.size, 0, none⟩ = some (.string ⟨#[98, 111, 120]⟩) ∧ W.cell? ⟨w.heap.size, 1, none⟩ = some (.string fr) ∧ W.cell? ⟨w.heap.size, 2, none⟩ = some (.string tu) ∧ W.cell? ⟨w.heap.size, 3, none⟩ = some (.string pl) ∧ W.cell? ⟨w.heap.size, 4, none⟩ = some (.int .i64 dy) from
    ⟨(heap_cell g1).trans e0, (heap_cell g2).trans x0, (heap_cell g2).trans x1, (heap_cell g2).trans x2, (heap_cell g2).trans x3, (heap_cell g2).trans x4⟩))
  clear e0 x0 x1 x2 x3 x4 y0 y1
  go_region_held3 (fun W => W.cell? ⟨bc, 0, none⟩ = some (.map (some bm)) ∧ W.cell? ⟨w.heap.size, 0, none⟩ = some (.string ⟨#[98, 111, 120]⟩) ∧ W.cell? ⟨w.heap.size, 1, none⟩ = some (.string fr) ∧ W.cell? ⟨w.heap.size, 2, none⟩ = some (.string tu) ∧ W.cell? ⟨w.heap.size, 3, none⟩ = some (.string pl) ∧ W.cell? ⟨w.heap.size, 4, none⟩ = some (.int .i64 dy))
    (first | exact HS.out _ rfl rfl | exact HS.out _ (HAl.out.drew.block bc HBL.out.1) (HAl.out.drew.block _ HBX.out) | exact HS.out _ (HAl.out.block bc HBL.out.1) (HAl.out.block _ HBX.out) | exact HS.out _ HQ.out.1 HQ.out.2 | exact HS.out _ HQ5.out.1 HQ5.out.2)
    (first
    | (refine step_own (by rfl) (.tmp 70) (.tmp 72) 36 rfl 35 i0 _ 5 72 Tryd.underlying36 hi0 hz0 hz1 hz2 rfl Z5 (.slice (some ⟨bk, off, none⟩) (n + 1) cap) (n + 1) _ (by rfl) HO.out ⟨wd.heap.size, 0, none⟩ 1 1 [.string ⟨#[98, 111, 120]⟩, .string fr, .string tu, .string pl, .int .i64 dy] (by rfl) (by rfl) (new_cells _ _ _) H1.out L1 L2 ?_; intro v4 w4 hown4 hg4 hn4; obtain ⟨ao4, cap4, rfl⟩ := own_shape hown4; have q1 := (grown_heap hg4 (k := bc) (by have := HBL.out.1; simp; omega) HN1c.out).trans (HAl.out.block bc HBL.out.1); have q2 := (grown_heap hg4 (k := w.heap.size) (by have := HBX.out; simp; omega) HN1x.out).trans (HAl.out.block _ HBX.out); have q3 := (grown_heap hg4 (k := bm) (by have := HBL.out.2; simp; omega) HN1m.out).trans (HAl.out.block bm HBL.out.2); have HQ := Lib.hid (And.intro q1 q2); have HT4 := Lib.hid ((Touch.of_below (S := fun k => (Value.slice (some ⟨bk, off, none⟩) (n + 1) cap).ownBlock = some k) HAl.out).drew.grown hg4 (fun k e => .inl e)); have HO4 := Lib.hid (And.intro hown4 hn4); obtain ⟨w5, hup, hm5, ht5⟩ := (show BM w4 bm _ from q3.trans HMd.out).put (.slice ao4 (n + 1 + 1) cap4); have HQ5 := Lib.hid (And.intro ((ht5.block bc (by have := HT4.out.size; have := HBL.out.1; omega) HNe.out).trans q1) ((ht5.block w.heap.size (by have := HT4.out.size; have := HBX.out; omega) HNx.out).trans q2)); have H5 := Lib.hid (And.intro hm5 ht5); clear hm5 ht5 q1 q2 q3 hown4 hn4 hg4))
  go_wp2
  go_ret
  obtain ⟨hown4, hn4⟩ := HO4.out
  have hsz : ((wd.alloc (.cells #[.string ⟨#[98, 111, 120]⟩, .string fr, .string tu, .string pl, .int .i64 dy] 35)).drew).heap.size = wd.heap.size + 1 := by simp
  have hwd := HBd.out.size
  have n2 : (Value.slice ao4 (n + 1 + 1) cap4).ownBlock ≠ some bm := fun e => by
    rcases hn4 bm e with e | e
    · exact HN1m.out e
    · have := HBL.out.2; omega
  refine ⟨_, rfl, ⟨HQ5.out.1.trans HCd.out.hc, H5.out.1, ?_, fun e => ?_, n2, HNe.out⟩, ?_, fun k hk => ?_⟩
  · have := own_touch hown4 H5.out.2 (fun k hk e => n2 (by rw [hk, e]))
    rw [List.flatMap_append, List.length_append, HN1]
    exact this
  · rcases hn4 bc e with e | e
    · exact HN1c.out e
    · have := HBL.out.1; omega
  · exact (Touch.of_below HBd.out).trans ((HT4.out.mono (S' := fun k => k = bm ∨ (Value.slice (some ⟨bk, off, none⟩) (n + 1) cap).ownBlock = some k) (fun x hx => .inr hx)).trans (S' := fun k => k = bm) H5.out.2 (fun x hx => .inl (.inl hx))) (fun x hx => .inl hx)
  · rcases hn4 k hk with e | e
    · exact .inl e
    · right; omega
end Go.Proofs.YtofkeipfkglljaaDoor
