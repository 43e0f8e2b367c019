/-
  book: Add.
-/
import Derived.Test.YtllaahdbngjigaaDoorBkD
namespace Go.Proofs.YtllaahdbngjigaaDoor
open Go Go.RowKit
set_option linter.unusedVariables false
set_option linter.unusedSimpArgs false
theorem itB_small : ∀ k : Fin 100, (Lib.decDigits k.val).length ≤ 2 := by decide +kernel
theorem itB_size {k : Nat} (h : k < 100) : (itB k).size ≤ 2 := itB_small ⟨k, h⟩
theorem ok_n {k : Nat} (h : k < 100) : Fd.ok ⟨⟨#[110]⟩, itB k⟩ := ⟨(by decide +kernel : nameB ⟨#[110]⟩ = true), by have := itB_size h; show (itB k).size ≤ 4096; omega⟩
theorem ok_last {lk : ByteArray} (h : lk.size ≤ 4096) : Fd.ok ⟨⟨#[108, 97, 115, 116]⟩, lk⟩ := ⟨(by decide +kernel : nameB ⟨#[108, 97, 115, 116]⟩ = true), h⟩
def wholeL (k : Nat) (lk : ByteArray) (r : List Fd) : List Fd := ⟨⟨#[110]⟩, itB k⟩ :: ⟨⟨#[108, 97, 115, 116]⟩, lk⟩ :: r
/-- A book and its store, apart from each other. -/
structure BS (w : World) (bb bs : Nat) (rv sv : Value) (st : St) (lk : ByteArray) (k : Nat) : Prop where
  bk : ∃ vals, vals.length = k ∧ IsBk w bb bs lk rv vals
  ist : IsSt w bs sv st
  n1 : bb ≠ bs
  n2 : rv.ownBlock ≠ some bs
  n3 : sv.ownBlock ≠ some bb
  n4 : ∀ x, rv.ownBlock = some x → sv.ownBlock ≠ some x
theorem bk_push0 {w8 w9 wg w4 : World} {bb bs : Nat} {lk : ByteArray} {rv : Value} {vals : List Value} (h : IsBk w8 bb bs lk rv vals) {u : Value} (hb9 : Below w8.heap.size w8 w9)
    {v4 : Value} (hT : Touch (fun _ => False) w9 wg) (hown : w4.ownsRow 0 60 1 v4 (vals.length + 1) (vals ++ [u])) (hg : wg.grownBy w4 rv.ownBlock) (hn : ∀ k, v4.ownBlock = some k → rv.ownBlock = some k ∨ wg.heap.size ≤ k) :
    IsBk (w4.setCell ⟨bb, 3, none⟩ v4) bb bs lk v4 (vals ++ [u]) ∧ Touch (fun x => x = bb ∨ rv.ownBlock = some x) w8 (w4.setCell ⟨bb, 3, none⟩ v4) := by
  have hbb := lt_of_block h.blk
  have t9 : Touch (fun x => x = bb ∨ rv.ownBlock = some x) w8 w9 := Touch.of_below hb9
  have tg : Touch (fun x => x = bb ∨ rv.ownBlock = some x) w8 wg := t9.trans hT (fun x e => e.elim)
  have t4 : Touch (fun x => x = bb ∨ rv.ownBlock = some x) w8 w4 := tg.grown hg (fun k hk => .inl (.inr hk))
  have t5 : Touch (fun x => x = bb ∨ rv.ownBlock = some x) w8 (w4.setCell ⟨bb, 3, none⟩ v4) := t4.setCell (p := ⟨bb, 3, none⟩) (.inl (.inl rfl)) v4
  have hblk4 : w4.heap[bb]? = some (.cells #[.pointer (some ⟨bs, 0, none⟩), .string ⟨#[97]⟩, .string lk, rv] 104 (0, 0)) := by
    have h1 := hb9.block bb hbb
    have h2 := hT.block bb (Nat.lt_of_lt_of_le hbb hb9.size) id
    have h3 := hg.block bb (Nat.lt_of_lt_of_le hbb tg.size) (fun e => h.ne e.symm)
    rw [h3, h2, h1]; exact h.blk
  have hne4 : v4.ownBlock ≠ some bb := fun e => (hn bb e).elim h.ne (fun e2 => by have := tg.size; omega)
  exact ⟨⟨by rw [hset hblk4]; rfl, by rw [List.length_append]; exact ownsRow_setCell_other hown hne4 v4, hne4⟩, t5⟩
theorem own_lit02 (w : World) (cs : Array Value) (e n : Nat) (h : cs.size = n * 2) (hn : n ≤ maxLen := by unfold maxLen; omega) : (w.alloc (.cells cs e)).ownsRow 0 e 2 (.slice (some ⟨w.heap.size, 0, none⟩) n n) n cs.toList := by
  refine ⟨by simp [h], .inr ⟨w.heap.size, n, cs, rfl, Nat.zero_le _, heap_alloc_new _ _, Nat.le_refl _, hn, h, ?_⟩⟩
  rw [List.take_of_length_le (by simp [h])]
theorem BS.touch {S : Nat → Prop} {w w' : World} {bb bs : Nat} {rv sv : Value} {st : St} {lk : ByteArray} {k : Nat} (h : BS w bb bs rv sv st lk k) (ht : Touch S w w') (n1 : ¬ S bb) (n2 : ∀ x, rv.ownBlock = some x → ¬ S x) (n3 : ¬ S bs) (n4 : ∀ x, sv.ownBlock = some x → ¬ S x) : BS w' bb bs rv sv st lk k := by
  obtain ⟨vals, hl, hb⟩ := h.bk
  exact ⟨⟨vals, hl, hb.touch ht n1 n2⟩, h.ist.kept ht n3 n4, h.n1, h.n2, h.n3, h.n4⟩
theorem BS.later {w w' : World} {bb bs : Nat} {rv sv : Value} {st : St} {lk : ByteArray} {k : Nat} (h : BS w bb bs rv sv st lk k) (hb : Below w.heap.size w w') : BS w' bb bs rv sv st lk k :=
  h.touch (S := fun _ => False) (Touch.of_below hb) id (fun _ _ => id) id (fun _ _ => id)
/-- What Add tells. -/
def AddPost (w : World) (bb bs : Nat) (rv sv : Value) (st : St) (lk : ByteArray) (k : Nat) (r : List Fd) (e : Ending) (w' : World) : Prop :=
  ∃ rv' sv', e = .returned (.tuple #[.int .i64 (k : Int), .int .i64 0]) ∧ BS w' bb bs rv' sv' { st with ws := st.ws ++ [textB (wholeL k lk r)] } (lkB ⟨#[97]⟩ (textL (wholeL k lk r))) (k + 1) ∧
    Touch (fun x => (x = bb ∨ rv.ownBlock = some x) ∨ (x = bs ∨ sv.ownBlock = some x)) w w' ∧ (∀ x, rv'.ownBlock = some x → rv.ownBlock = some x ∨ w.heap.size ≤ x) ∧ (∀ x, sv'.ownBlock = some x → sv.ownBlock = some x ∨ w.heap.size ≤ x)
set_option maxRecDepth 100000 in
set_option maxHeartbeats 8000000 in
theorem add_ok (w : World) (bb bs : Nat) (rv sv : Value) (st : St) (lk : ByteArray) (k : Nat) (r : List Fd) (ao : Option Addr) (m cap : Nat) (hB : BS w bb bs rv sv st lk k) (hr : Flds w (.slice ao m cap) r) (hrs : ∀ x, (Value.slice ao m cap).ownBlock = some x → x ≠ bs ∧ sv.ownBlock ≠ some x) (hm : m = r.length) (hm0 : 0 < m) (hm1 : m ≤ 60) (hok : ∀ f ∈ r, f.ok)
    (hk : k < 90) (hlk : lk.size ≤ 4096) (hsz : (textB (wholeL k lk r)).size ≤ 4096) (hd : st.down = false) (ha : st.armed = false) (hw : st.ws.length < 4096) :
    Calls Tryd.prog 16 #[.pointer (some ⟨bb, 0, none⟩), .slice ao m cap] w fun e w' => AddPost w bb bs rv sv st lk k r e w' := by
  have HB := Lib.hid hB
  have HR := Lib.hid hr
  have HRs := Lib.hid hrs
  have HM := Lib.hid hm
  have HO := Lib.hid hok
  have HOk := Lib.hid (show ∀ f ∈ wholeL k lk r, f.ok from fun f hf => by
    simp only [wholeL, List.mem_cons] at hf
    rcases hf with rfl | rfl | hf
    · exact ok_n (by omega)
    · exact ok_last hlk
    · exact hok f hf)
  have HSz := Lib.hid hsz
  have HWr := Lib.hid (show st.wr (textB (wholeL k lk r)) = ({ st with ws := st.ws ++ [textB (wholeL k lk r)] }, 0) from by
    unfold St.wr
    rw [if_neg (by rw [hd]; simp), if_neg (by omega), if_neg (by omega), if_neg (by rw [ha]; simp)])
  have HT1 := Lib.hid (fun (f : Fd) (hf : f.ok) (ao : Option Addr) (w : World) (h : Flds w (.slice ao 1 1) [f]) => text_ok ao 1 1 [f] w h rfl (by omega) (by intro g hg; simp at hg; subst hg; exact hf))
  clear hB hr hrs hm hok hsz hd ha hw
  go_enter Tryd.func16, Tryd.ntmps16
  go_wp2_with fail
  go_loopw [17] (fun i wr => ∃ (j : Nat), i = .int .i64 (j : Int) ∧ j ≤ m ∧ Hid (Below w.heap.size w wr)) (fun i _ => m - (intOf i).toNat)
  case atStart => exact ⟨0, rfl, Nat.zero_le _, Lib.hid (Below.refl _ _)⟩
  case round =>
    obtain ⟨j, rfl, hj, HBe⟩ := hrel
    by_cases hlt : j < m
    · have l1 : (j : Int) < (m : Int) := by omega
      have l0 : (0 : Int) ≤ (j : Int) := by omega
      obtain ⟨b, off, rfl, hbl, hc⟩ := HR.out.get HM.out (by omega)
      have hjr : j < r.length := by rw [← HM.out]; exact hlt
      have c0 := (HBe.out.cell (p := ⟨b, off + j * 2, none⟩) hbl).trans (hc j hjr).1
      have c1 := (HBe.out.cell (p := ⟨b, off + j * 2 + 1, none⟩) hbl).trans (hc j hjr).2
      have HFo := Lib.hid (HO.out _ (List.getElem_mem hjr))
      clear hc
      generalize r[j] = f at *
      have hA := (Below.refl wr.heap.size wr).alloc (Nat.le_refl _) (.cells #[.string f.n, .string f.v] 54)
      have hsA : (wr.alloc (.cells #[.string f.n, .string f.v] 54)).heap.size = wr.heap.size + 1 := by simp
      have HF2 := Lib.hid (show Flds ((wr.alloc (.cells #[.string f.n, .string f.v] 54)).alloc (.cells #[.string f.n, .string f.v] 54)) (.slice (some ⟨wr.heap.size + 1, 0, none⟩) 1 1) [f] from by
        rw [← hsA]
        exact Row.of_own (own_lit02 _ #[.string f.n, .string f.v] 54 1 rfl))
      have HB2 := Lib.hid ((HBe.out.alloc HBe.out.size (.cells #[.string f.n, .string f.v] 54)).alloc (by rw [hsA]; exact Nat.le_succ_of_le HBe.out.size) (.cells #[.string f.n, .string f.v] 54))
      clear hA hsA
      go_wp2_with fail
      refine (HT1.out f HFo.out _ _ HF2.out).mono ?_
      rintro e w2 ⟨rfl, hb2⟩
      have HB3 := Lib.hid (HB2.out.trans (hb2.mono HB2.out.size))
      clear hb2 c0 c1
      go_wp2
      go_roundw
      case rel => exact ⟨j + 1, by go_num, by omega, HB3⟩
      case measure => simp [intOf]; omega
    · obtain rfl : j = m := by omega
      have HBw := Lib.hid (HB.out.later HBe.out)
      obtain ⟨vals, hvl, hbk⟩ := HBw.out.bk
      obtain ⟨ra, rc, rfl⟩ : ∃ ra rc, rv = .slice ra k rc := by
        obtain ⟨ra, rc, e⟩ := own_shape hbk.row
        exact ⟨ra, rc, by rw [e, hvl]⟩
      have HBk := Lib.hid hbk
      have HVl := Lib.hid hvl
      have x3 : wr.cell? ⟨bb, 3, none⟩ = some (.slice ra k rc) := Lib.cell_of_heap hbk.blk 3
      clear hbk hvl HT1
      go_upto_region 11 with fail
      have x2 : wr.cell? ⟨bb, 2, none⟩ = some (.string lk) := Lib.cell_of_heap HBk.out.blk 2
      have hA := (Below.refl wr.heap.size wr).alloc (Nat.le_refl _) (.cells #[.string ⟨#[110]⟩, .string (itB k), .string ⟨#[108, 97, 115, 116]⟩, .string lk] 54)
      have x2' := cell_later hA x2
      have HA := Lib.hid hA
      have HOl := Lib.hid (own_lit02 wr #[.string ⟨#[110]⟩, .string (itB k), .string ⟨#[108, 97, 115, 116]⟩, .string lk] 54 2 rfl)
      have HIt := Lib.hid (show ∀ w, Calls Tryd.prog 50 #[.int .i64 k] w fun e w' => e = .returned (.string (itB k)) ∧ w' = w from fun w => itoa_small k (by omega) w)
      clear hA
      go_region_held3 (fun W => W.cell? ⟨bb, 2, none⟩ = some (.string lk))
        (first | exact x2 | exact x2')
        (first | ((with_reducible refine (HIt.out _).mono ?_); rintro e w7 ⟨rfl, rfl⟩))
      have HA2 := Lib.hid (show Below wr.heap.size wr ((wr.alloc (.cells #[.string ⟨#[110]⟩, .string (itB k), .string ⟨#[108, 97, 115, 116]⟩, .string lk] 54)).drew) from HA.out.drew)
      have HO2 := Lib.hid (show ((wr.alloc (.cells #[.string ⟨#[110]⟩, .string (itB k), .string ⟨#[108, 97, 115, 116]⟩, .string lk] 54)).drew).ownsRow 0 54 2 (.slice (some ⟨wr.heap.size, 0, none⟩) 2 2) 2 ([⟨⟨#[110]⟩, itB k⟩, ⟨⟨#[108, 97, 115, 116]⟩, lk⟩].flatMap Fd.cells) from HOl.out)
      clear x2 x2' x3 HA HOl
      generalize (wr.alloc (.cells #[.string ⟨#[110]⟩, .string (itB k), .string ⟨#[108, 97, 115, 116]⟩, .string lk] 54)).drew = wB at *
      have HBB := Lib.hid (HBw.out.later HA2.out)
      have HBeB := Lib.hid (HBe.out.trans (HA2.out.mono HBe.out.size))
      have HRB := Lib.hid (show Row wB (.slice ao j cap) 2 j (r.flatMap Fd.cells) from by
        have h1 := HR.out.touch (Touch.of_below (S := fun _ => False) HBeB.out) (fun _ _ => id)
        unfold Flds at h1
        rw [← HM.out] at h1
        exact h1)
      obtain ⟨i0, hi0, hz0, hz1, hz2⟩ := info_parts Tryd.infoFd
      have Z2 : 0 < 2 := by decide
      have L1 : 2 + j ≤ maxLen := by unfold maxLen; omega
      have L2 : (2 + j) * 32 ≤ 140737488355328 := by omega
      have H1 := Lib.hid (one_fds r)
      have HWs := Lib.hid HBe.out.size
      generalize wr.heap.size = bw at *
      go_wp2_with (at_builtin; refine wpList_row (by rfl) (.tmp 48) (.tmp 49) 60 (by rfl) 54 i0 _ 2 32 Tryd.underlying60 hi0 hz0 hz1 hz2 rfl Z2 (.slice (some ⟨bw, 0, none⟩) 2 2) 2 _ (by rfl) HO2.out ao j cap (r.flatMap Fd.cells) (by rfl) HRB.out H1.out L1 L2 ?_; intro v4 w4 hown4 ht4 hn4; obtain ⟨ao4, cap4, rfl⟩ := own_shape hown4; have H4 := Lib.hid (And.intro hown4 (And.intro ht4 hn4)); clear hown4 ht4 hn4)
      have HBe4 := Lib.hid (HBeB.out.trans (H4.out.2.1.below HBeB.out.size (fun x hx => by
        have h2 : some bw = some x := hx
        injection h2 with h2
        have := HWs.out
        omega)))
      have HF4 := Lib.hid (show Flds w4 (.slice ao4 (2 + j) cap4) (wholeL k lk r) from by
        have h1 := Row.of_own H4.out.1
        unfold Flds
        rw [show (wholeL k lk r).length = 2 + j by rw [HM.out]; show r.length + 1 + 1 = _; omega]
        exact h1)
      have HTx := Lib.hid (text_ok ao4 (2 + j) cap4 (wholeL k lk r) w4 HF4.out (by rw [HM.out]; show _ = r.length + 1 + 1; omega) (by omega) HOk.out)
      obtain ⟨tb, htb⟩ : ∃ tb, tb = textB (wholeL k lk r) := ⟨_, rfl⟩
      have HTb := Lib.hid (show textL (wholeL k lk r) = tb.data.toList by rw [htb]; rfl)
      rw [← htb] at HTx HSz HWr
      have HTbe := Lib.hid htb
      have hts := HSz.out
      clear hi0 hz0 hz1 hz2 HBB HO2 HRB H1 htb HBeB HA2 HBw HBk
      refine HTx.out.mono ?_
      rintro e w5 ⟨rfl, hb5⟩
      have HBe5 := Lib.hid (HBe4.out.trans (hb5.mono HBe4.out.size))
      have HB5 := Lib.hid (HB.out.later HBe5.out)
      obtain ⟨vals5, hvl5, hbk5⟩ := HB5.out.bk
      have x0 : w5.cell? ⟨bb, 0, none⟩ = some (.pointer (some ⟨bs, 0, none⟩)) := Lib.cell_of_heap hbk5.blk 0
      have HBk5 := Lib.hid hbk5
      have HVl5 := Lib.hid hvl5
      have HWa := Lib.hid (write_any w5 bs sv st tb HB5.out.ist)
      rw [HWr.out] at HWa
      clear hb5 hbk5 hvl5 HTx HBe4 HF4 H4
      go_wp2_with fail
      refine HWa.out.mono ?_
      rintro e w6 ⟨sv6, rfl, his6, hk6⟩
      have HI6 := Lib.hid his6
      have HK6 := Lib.hid hk6
      have HBk6 := Lib.hid (HBk5.out.touch hk6.touch (fun h => h.elim (fun e => HB.out.n1 e) (fun e => HB.out.n3 e)) (fun x hx h => h.elim (fun e => HB.out.n2 (e ▸ hx)) (fun e => HB.out.n4 x hx e)))
      have HFr6 := Lib.hid ((HR.out.touch (Touch.of_below (S := fun _ => False) HBe5.out) (fun _ _ => id)).touch hk6.touch (fun x hx h => h.elim (fun e => (HRs.out x hx).1 e) (fun e => (HRs.out x hx).2 e)))
      clear his6 hk6 x0 HWa
      go_upto_region 18 with fail
      have x3 : w6.cell? ⟨bb, 3, none⟩ = some (.slice ra k rc) := Lib.cell_of_heap HBk6.out.blk 3
      have z3 : w6.frozen? ⟨bb, 3, none⟩ = false := Lib.frozen_of_heap HBk6.out.blk 3
      have HCl := Lib.hid (fclone_ok w6.drew (.slice ao j cap) r (by have := HFr6.out; exact this.below (Below.refl _ _).drew) (by rw [← HM.out]; exact hm0) (by rw [← HM.out]; omega))
      rw [← HM.out] at HCl
      obtain ⟨i0, hi0, hz0, hz1, hz2⟩ := info_parts Tryd.infoSF
      have Z1 : 0 < 1 := by decide
      have L1 : k + 1 ≤ maxLen := by unfold maxLen; omega
      have L2 : (k + 1) * 24 ≤ 140737488355328 := by omega
      have hbb8 := lt_of_block HBk6.out.blk
      have HRow8 := Lib.hid (show w6.ownsRow 0 60 1 (.slice ra k rc) k vals5 from by have h1 := HBk6.out.row; have h2 := HVl5.out; rw [h2] at h1; exact h1)
      go_cut [78] from 70 to 80 (fun x wx => ∃ (ao4 : Option Addr) (cap4 : Nat) (u9 : Value), Hid (IsBk wx bb bs lk (.slice ao4 (k + 1) cap4) (vals5 ++ [u9]) ∧ Touch (fun x => x = bb ∨ (Value.slice ra k rc).ownBlock = some x) w6 wx ∧ (∀ x, (Value.slice ao4 (k + 1) cap4).ownBlock = some x → (Value.slice ra k rc).ownBlock = some x ∨ w6.heap.size ≤ x)))
      case first =>
        go_region_law (first
        | (refine step_own (by rfl) (.tmp 74) (.tmp 77) 58 rfl 60 i0 _ 1 24 Tryd.underlying58 hi0 hz0 hz1 hz2 rfl Z1 (.slice ra k rc) k _ (by rfl) HO9.out ⟨w9.heap.size, 0, none⟩ 1 1 [.slice ao9 j cap9] (by rfl) (by rfl) (new_cells _ _ _) (one_sl _ _ _) L1 L2 ?_; intro v4 w4 hown4 hg4 hn4; obtain ⟨ao4, cap4, rfl⟩ := own_shape hown4; have hq4 := (grown_heap hg4 (k := bb) (by have := HB9.out.size; simp; omega) HBk6.out.ne); have HQ4 := Lib.hid (And.intro ((heap_cell hq4).trans HQ10.out.1) ((World.frozen?_of_block hq4).trans HQ10.out.2)); have H4 := Lib.hid (And.intro hown4 (And.intro hg4 hn4)); clear hown4 hg4 hn4 hq4; have q41 := HQ4.out.1; have q42 := HQ4.out.2)
        | (go_simp; (refine HCl.out.mono ?_); rintro e w9 ⟨ao9, cap9, rfl, hfl9, hnw9, hb9⟩; have HQ9 := Lib.hid (And.intro ((heap_cell (hb9.block bb hbb8)).trans x3) ((World.frozen?_of_block (hb9.block bb hbb8)).trans z3)); have HB9 := Lib.hid (((Below.refl w6.heap.size w6).drew).trans hb9); have hA9 := (Below.refl w9.heap.size w9).alloc (Nat.le_refl _) (.cells #[.slice ao9 j cap9] 60); have HQ10 := Lib.hid (And.intro ((heap_cell (hA9.block bb (Nat.lt_of_lt_of_le hbb8 HB9.out.size))).trans HQ9.out.1) ((World.frozen?_of_block (hA9.block bb (Nat.lt_of_lt_of_le hbb8 HB9.out.size))).trans HQ9.out.2)); have HO9 := Lib.hid ((own_touch HRow8.out (Touch.of_below (S := fun _ => False) HB9.out) (fun _ _ => id)).alloc (.cells #[.slice ao9 j cap9] 60)); clear hfl9 hnw9 hb9 hA9; have q91 := HQ9.out.1; have q92 := HQ9.out.2; have q101 := HQ10.out.1; have q102 := HQ10.out.2))
        all_goals
          dsimp only [Exit.then]
          apply_assumption
          go_meet
          have hvl := HVl5.out
          have hp := bk_push0 (u := .slice ao9 j cap9) HBk6.out HB9.out (v4 := .slice ao4 (k + 1) cap4) ((Touch.refl (fun _ => False) w9).alloc (.cells #[.slice ao9 j cap9] 60)) (by rw [hvl]; exact H4.out.1) H4.out.2.1 H4.out.2.2
          have hs9 := HB9.out.size
          exact ⟨ao4, cap4, .slice ao9 j cap9, Lib.hid ⟨hp.1, hp.2, fun x hx => (H4.out.2.2 x hx).imp id (fun e => by simp at e; omega)⟩⟩
      case rest =>
        obtain ⟨ao4, cap4, u9, HC⟩ := hcut
        clear x3 z3 hi0 hz0 hz1 hz2 HCl hbb8 HRow8
        have x1 : wc.cell? ⟨bb, 1, none⟩ = some (.string ⟨#[97]⟩) := Lib.cell_of_heap HC.out.1.blk 1
        have HLk := Lib.hid (linked_ok ⟨#[97]⟩ tb (by decide) (by omega) wc)
        go_wp2_with fail
        refine HLk.out.mono ?_
        rintro e w10 ⟨rfl, hb10⟩
        have HB10 := Lib.hid hb10
        have HBk10 := Lib.hid (HC.out.1.touch (Touch.of_below (S := fun _ => False) hb10) id (fun _ _ => id))
        have y2 : w10.cell? ⟨bb, 2, none⟩ = some (.string lk) := Lib.cell_of_heap HBk10.out.blk 2
        have z2 : w10.frozen? ⟨bb, 2, none⟩ = false := Lib.frozen_of_heap HBk10.out.blk 2
        clear hb10 x1 HLk
        go_wp2
        go_ret2
        have s5 := HBe5.out.size
        have s6 := HK6.out.touch.size
        have i1 := lt_of_block HB5.out.ist.blk
        have i2 := lt_of_block HBk5.out.blk
        have T1 : Touch (fun x => x = bb ∨ (Value.slice ra k rc).ownBlock = some x) w6 (w10.setCell ⟨bb, 2, none⟩ (.string (lkB ⟨#[97]⟩ tb.data.toList))) := (HC.out.2.1.trans (Touch.of_below (S := fun _ => False) HB10.out) (fun x h => h.elim)).setCell (p := ⟨bb, 2, none⟩) (.inl (.inl rfl)) _
        have hs6 : ∀ x, sv6.ownBlock = some x → sv.ownBlock = some x ∨ w5.heap.size ≤ x := HK6.out.row
        have n3 : sv6.ownBlock ≠ some bb := fun e => (hs6 bb e).elim HB.out.n3 (fun h => by omega)
        have hrl : ∀ x, (Value.slice ra k rc).ownBlock = some x → x < w5.heap.size := fun x hx => own_lt HBk5.out.row hx
        have n4 : ∀ x, (Value.slice ra k rc).ownBlock = some x → sv6.ownBlock ≠ some x := fun x hx e => (hs6 x e).elim (HB.out.n4 x hx) (fun h => by have := hrl x hx; omega)
        refine ⟨.slice ao4 (k + 1) cap4, sv6, rfl, ⟨⟨vals5 ++ [u9], by rw [List.length_append, HVl5.out]; rfl, ?_⟩, ?_, HB.out.n1, ?_, n3, ?_⟩, ?_, ?_, ?_⟩
        · rw [HTb.out]
          exact bk_link HBk10.out _
        · rw [← HTbe.out]
          exact HI6.out.kept T1 (fun h => h.elim (fun e => HB.out.n1 e.symm) (fun e => HB.out.n2 e)) (fun x hx h => h.elim (fun e => n3 (e ▸ hx)) (fun e => n4 x e hx))
        · exact fun e => (HC.out.2.2 bs e).elim HB.out.n2 (fun h => by omega)
        · intro x hx e
          exact (HC.out.2.2 x hx).elim (fun h => n4 x h e) (fun h => by have := own_lt HI6.out.row e; omega)
        · exact ((Touch.of_below (S := fun x => (x = bb ∨ (Value.slice ra k rc).ownBlock = some x) ∨ (x = bs ∨ sv.ownBlock = some x)) HBe5.out).trans HK6.out.touch (fun x h => .inl (.inr h))).trans T1 (fun x h => .inl (.inl h))
        · exact fun x hx => (HC.out.2.2 x hx).imp id (fun h => by omega)
        · exact fun x hx => (hs6 x hx).imp id (fun h => by omega)
end Go.Proofs.YtllaahdbngjigaaDoor
