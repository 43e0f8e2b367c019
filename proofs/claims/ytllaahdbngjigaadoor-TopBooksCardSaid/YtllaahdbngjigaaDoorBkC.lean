/-
  book.read: as far as the writes are right.
-/
import Derived.Test.YtllaahdbngjigaaDoorBkB
import Derived.Deep.RegionHeld3
import Derived.Deep.DeepCutAuto
namespace Go.Proofs.YtllaahdbngjigaaDoor
open Go Go.RowKit
set_option linter.unusedVariables false
set_option linter.unusedSimpArgs false
def oA : ByteArray := ⟨#[97]⟩
/-- The link of the record at a place. -/
def lkS (ls : List (List Fd)) : Nat → ByteArray
  | 0 => lkB ⟨#[97]⟩ []
  | i + 1 => lkB ⟨#[97]⟩ (textL (ls.getD i []))
def FineAt (ls : List (List Fd)) (i : Nat) (lk : ByteArray) : Prop :=
  ∃ r, ls.getD i [] = ⟨⟨#[110]⟩, itB i⟩ :: ⟨⟨#[108, 97, 115, 116]⟩, lk⟩ :: r ∧ 0 < r.length ∧ r.length ≤ 60 ∧ ∀ f ∈ ls.getD i [], f.ok
/-- A book in memory. -/
structure IsBk (w : World) (bb bs : Nat) (lk : ByteArray) (rv : Value) (vals : List Value) : Prop where
  blk : w.heap[bb]? = some (.cells #[.pointer (some ⟨bs, 0, none⟩), .string ⟨#[97]⟩, .string lk, rv] 104 (0, 0))
  row : w.ownsRow 0 60 1 rv vals.length vals
  ne : rv.ownBlock ≠ some bb
/-- Its records. -/
def Recs (w : World) (bb : Nat) (rv : Value) (vals : List Value) (rs : List (List Fd)) : Prop :=
  vals.length = rs.length ∧ ∀ i, i < rs.length → Flds w (vals.getD i .nilIface) (rs.getD i []) ∧ ∀ k, (vals.getD i .nilIface).ownBlock = some k → k ≠ bb ∧ rv.ownBlock ≠ some k ∧ k < w.heap.size
theorem IsBk.touch {S : Nat → Prop} {w w' : World} {bb bs : Nat} {lk : ByteArray} {rv : Value} {vals : List Value} (h : IsBk w bb bs lk rv vals) (ht : Touch S w w') (n1 : ¬ S bb) (n2 : ∀ k, rv.ownBlock = some k → ¬ S k) : IsBk w' bb bs lk rv vals :=
  ⟨(ht.block bb (lt_of_block h.blk) n1).trans h.blk, own_touch h.row ht n2, h.ne⟩
theorem Recs.touch {S : Nat → Prop} {w w' : World} {bb : Nat} {rv : Value} {vals : List Value} {rs : List (List Fd)} (h : Recs w bb rv vals rs) (ht : Touch S w w') (hn : ∀ i, i < rs.length → ∀ k, (vals.getD i .nilIface).ownBlock = some k → ¬ S k) : Recs w' bb rv vals rs :=
  ⟨h.1, fun i hi => ⟨((h.2 i hi).1).touch ht (hn i hi), fun k hk => ⟨((h.2 i hi).2 k hk).1, ((h.2 i hi).2 k hk).2.1, Nat.lt_of_lt_of_le ((h.2 i hi).2 k hk).2.2 ht.size⟩⟩⟩
theorem Tryd.infoSF : (Tryd.prog.info? 60).map (fun i => (i.zero, i.size, i.bytes)) = some (some (.slice none 0 0), 1, 24) := by kernel_rfl
theorem one_sl (ao : Option Addr) (n c : Nat) : ∀ u ∈ [Value.slice ao n c], u.oneCell' = true := by intro u hu; simp at hu; subst hu; rfl
theorem getD_snoc_lt {α : Type} (l : List α) (x d : α) (i : Nat) (h : i < l.length) : (l ++ [x]).getD i d = l.getD i d := by
  simp [List.getD_eq_getElem?_getD, List.getElem?_append_left h]
theorem getD_snoc_eq {α : Type} (l : List α) (x d : α) : (l ++ [x]).getD l.length d = x := by
  simp [List.getD_eq_getElem?_getD]

theorem bk_push {w8 w9 wg w4 : World} {bb bs : Nat} {lk : ByteArray} {rv : Value} {vals : List Value} {rs : List (List Fd)} (h : IsBk w8 bb bs lk rv vals) (hr : Recs w8 bb rv vals rs) {u : Value} {l : List Fd} (hb9 : Below w8.heap.size w8 w9) (hu : Flds w9 u l)
    (hun : ∀ k, u.ownBlock = some k → w8.heap.size ≤ k ∧ k < w9.heap.size) {v4 : Value} (hT : Touch (fun _ => False) w9 wg) (hown : w4.ownsRow 0 60 1 v4 (vals.length + 1) (vals ++ [u])) (hg : wg.grownBy w4 rv.ownBlock) (hn : ∀ k, v4.ownBlock = some k → rv.ownBlock = some k ∨ wg.heap.size ≤ k) :
    IsBk (w4.setCell ⟨bb, 3, none⟩ v4) bb bs lk v4 (vals ++ [u]) ∧ Recs (w4.setCell ⟨bb, 3, none⟩ v4) bb v4 (vals ++ [u]) (rs ++ [l]) ∧ Touch (fun x => x = bb ∨ rv.ownBlock = some x) w8 (w4.setCell ⟨bb, 3, none⟩ v4) := by
  have hbb := lt_of_block h.blk
  have t9 : Touch (fun x => x = bb ∨ rv.ownBlock = some x) w8 w9 := Touch.of_below hb9
  have tg : Touch (fun x => x = bb ∨ rv.ownBlock = some x) w8 wg := t9.trans hT (fun x e => e.elim)
  have t4 : Touch (fun x => x = bb ∨ rv.ownBlock = some x) w8 w4 := tg.grown hg (fun k hk => .inl (.inr hk))
  have t5 : Touch (fun x => x = bb ∨ rv.ownBlock = some x) w8 (w4.setCell ⟨bb, 3, none⟩ v4) := t4.setCell (p := ⟨bb, 3, none⟩) (.inl (.inl rfl)) v4
  have hblk4 : w4.heap[bb]? = some (.cells #[.pointer (some ⟨bs, 0, none⟩), .string ⟨#[97]⟩, .string lk, rv] 104 (0, 0)) := by
    have h1 := hb9.block bb hbb
    have h2 := hT.block bb (Nat.lt_of_lt_of_le hbb hb9.size) id
    have h3 := hg.block bb (Nat.lt_of_lt_of_le hbb tg.size) (fun e => h.ne e.symm)
    rw [h3, h2, h1]; exact h.blk
  have hne4 : v4.ownBlock ≠ some bb := fun e => (hn bb e).elim h.ne (fun e2 => by have := tg.size; omega)
  have key : ∀ (x : Value) (m : List Fd), Flds w9 x m → (∀ k, x.ownBlock = some k → k ≠ bb ∧ rv.ownBlock ≠ some k ∧ k < w9.heap.size) → Flds (w4.setCell ⟨bb, 3, none⟩ v4) x m ∧ ∀ k, x.ownBlock = some k → k ≠ bb ∧ v4.ownBlock ≠ some k ∧ k < (w4.setCell ⟨bb, 3, none⟩ v4).heap.size := by
    intro x m hx hk
    have t : Touch (fun y => y = bb ∨ rv.ownBlock = some y) w9 (w4.setCell ⟨bb, 3, none⟩ v4) := (((hT.mono (S' := fun y => y = bb ∨ rv.ownBlock = some y) (fun _ e => e.elim)).grown hg (fun k hk => .inl (.inr hk)))).setCell (p := ⟨bb, 3, none⟩) (.inl (.inl rfl)) v4
    refine ⟨hx.touch t (fun k hk2 e => e.elim (hk k hk2).1 (hk k hk2).2.1), fun k hk2 => ⟨(hk k hk2).1, fun e => (hn k e).elim (hk k hk2).2.1 (fun e2 => ?_), Nat.lt_of_lt_of_le (hk k hk2).2.2 t.size⟩⟩
    have h1 := (hk k hk2).2.2
    have h2 := hT.size
    omega
  refine ⟨⟨by rw [hset hblk4]; rfl, by rw [List.length_append]; exact ownsRow_setCell_other hown hne4 v4, hne4⟩, ⟨by rw [List.length_append, List.length_append, hr.1]; rfl, fun i hi => ?_⟩, t5⟩
  rw [List.length_append, List.length_singleton] at hi
  by_cases hl : i < rs.length
  · rw [getD_snoc_lt _ _ _ _ hl, getD_snoc_lt _ _ _ _ (by rw [hr.1]; exact hl)]
    exact key _ _ ((hr.2 i hl).1.below hb9) (fun k hk => ⟨((hr.2 i hl).2 k hk).1, ((hr.2 i hl).2 k hk).2.1, Nat.lt_of_lt_of_le ((hr.2 i hl).2 k hk).2.2 hb9.size⟩)
  · obtain rfl : i = rs.length := by omega
    rw [getD_snoc_eq, show (vals ++ [u]).getD rs.length .nilIface = u by rw [← hr.1]; exact getD_snoc_eq _ _ _]
    exact key u l hu (fun k hk => ⟨fun e => by have := (hun k hk).1; omega, fun e => by have h1 := (hun k hk).1; have h2 := own_lt h.row e; omega, (hun k hk).2⟩)
/-- Its link is set. -/
theorem bk_link {w : World} {bb bs : Nat} {lk : ByteArray} {rv : Value} {vals : List Value} (h : IsBk w bb bs lk rv vals) (lk2 : ByteArray) : IsBk (w.setCell ⟨bb, 2, none⟩ (.string lk2)) bb bs lk2 rv vals :=
  ⟨by rw [hset h.blk]; rfl, ownsRow_setCell_other h.row h.ne _, h.ne⟩
/-- The state of read's loop. -/
structure RdI (w0 w : World) (bb ba bl bo B1 bs : Nat) (sv : Value) (st : St) (ls : List (List Fd)) (k : Nat) (rv : Value) (vals : List Value) : Prop where
  bk : IsBk w bb bs (lkS ls k) rv vals
  recs : Recs w bb rv vals ((ls.take k).map (·.drop 2))
  fol : Fol w ba bl bo k (lkS ls k) ⟨#[97]⟩
  ist : IsSt w bs sv st
  rvB : ∀ x, rv.ownBlock = some x → B1 ≤ x
  vB : ∀ i, i < k → ∀ x, (vals.getD i .nilIface).ownBlock = some x → B1 ≤ x
  below : Below w0.heap.size w0 w
  len : vals.length = k
  sz : B1 ≤ w.heap.size

def RdPost (w : World) (bs : Nat) (ls : List (List Fd)) (g n : Nat) (e : Ending) (w' : World) : Prop :=
  ∃ bb rv vals, e = .returned (.tuple #[.pointer (some ⟨bb, 0, none⟩), .int .i64 (if g = n then 0 else 15)]) ∧
      IsBk w' bb bs (lkS ls g) rv vals ∧ Recs w' bb rv vals ((ls.take g).map (·.drop 2)) ∧ vals.length = g ∧ w.heap.size ≤ bb ∧ (∀ x, rv.ownBlock = some x → w.heap.size ≤ x) ∧ (∀ i, i < g → ∀ x, (vals.getD i .nilIface).ownBlock = some x → w.heap.size ≤ x) ∧ Below w.heap.size w w'
set_option maxRecDepth 100000 in
set_option maxHeartbeats 8000000 in
theorem read_ok (w : World) (bs : Nat) (sv : Value) (st : St) (ls : List (List Fd)) (g : Nat) (hS : IsSt w bs sv st) (hd : st.down = false) (hws : st.ws = ls.map textB) (hlen : ls.length ≤ 40) (hg : g ≤ ls.length)
    (hfine : ∀ i, i < g → FineAt ls i (lkS ls i)) (hend : g < ls.length → ∃ lk2, FineAt ls g lk2 ∧ ¬ lk2.toList = (lkS ls g).toList) :
    Calls Tryd.prog 48 #[.pointer (some ⟨bs, 0, none⟩), .string ⟨#[97]⟩] w fun e w' => RdPost w bs ls g ls.length e w' := by
  have HNm := Lib.hid (show ∀ w0, Calls Tryd.prog 75 #[.string ⟨#[97]⟩] w0 fun e w' => e = .returned (.bool true) ∧ w0 = w' from fun w0 => (name_any ⟨#[97]⟩ w0).mono fun e w' h => ⟨by rw [h.1, show nameB ⟨#[97]⟩ = true by decide +kernel], h.2.symm⟩)
  have HDn := Lib.hid (down_any w bs sv st hS)
  rw [hd] at HDn
  have HL0 := Lib.hid (fun w => linked_ok ⟨#[97]⟩ ⟨#[]⟩ (by decide) (by decide) w)
  have HFw := Lib.hid (fun w => follow_ok ⟨#[97]⟩ (by decide) w)
  have HLen := Lib.hid (fun w' (h : IsSt w' bs sv st) => len_any w' bs sv st h)
  have HRd := Lib.hid (fun w' (h : IsSt w' bs sv st) (i : Int) => read_any w' bs sv st i h)
  have HS := Lib.hid hS
  have hbs := hS.lt
  have HBs := Lib.hid hbs
  have HW := Lib.hid hws
  have HD := Lib.hid hd
  have HFi := Lib.hid hfine
  have HEn := Lib.hid hend
  clear hS hd hws hfine hend hbs
  obtain ⟨n, hn⟩ : ∃ n, n = ls.length := ⟨_, rfl⟩
  rw [← hn] at hlen hg ⊢
  have HN := Lib.hid hn
  clear hn
  have hwl : st.ws.length = n := by rw [HW.out, List.length_map, HN.out]
  rw [hwl] at HLen
  clear hwl
  go_enter Tryd.func48, Tryd.ntmps48
  go_wp2_with fail
  refine (HNm.out _).mono ?_
  rintro e w1 ⟨rfl, rfl⟩
  go_wp2_with fail
  refine HDn.out.mono ?_
  rintro e w2 ⟨rfl, rfl⟩
  go_wp2_with fail
  refine (HL0.out _).mono ?_
  rintro e w3 ⟨rfl, hb3⟩
  have HB3 := Lib.hid hb3
  have hA := (Below.refl w3.heap.size w3).alloc (Nat.le_refl _) (.cells #[.pointer (some ⟨bs, 0, none⟩), .string ⟨#[97]⟩, .string (lkB ⟨#[97]⟩ []), .slice none 0 0] 104)
  have hX := heap_alloc_new w3 (.cells #[.pointer (some ⟨bs, 0, none⟩), .string ⟨#[97]⟩, .string (lkB ⟨#[97]⟩ []), .slice none 0 0] 104)
  have HA := Lib.hid hA
  have HX := Lib.hid hX
  have HZ3 := Lib.hid (show (w3.alloc (.cells #[.pointer (some ⟨bs, 0, none⟩), .string ⟨#[97]⟩, .string (lkB ⟨#[97]⟩ []), .slice none 0 0] 104)).heap.size = w3.heap.size + 1 by simp)
  clear hb3 hA hX HL0 HNm HDn
  go_wp2_with fail
  generalize w3.alloc (.cells #[.pointer (some ⟨bs, 0, none⟩), .string ⟨#[97]⟩, .string (lkB ⟨#[97]⟩ []), .slice none 0 0] 104) = w4 at *
  have HB4 := Lib.hid (HB3.out.trans (HA.out.mono HB3.out.size))
  have HBb := Lib.hid (show w.heap.size ≤ w3.heap.size from HB3.out.size)
  generalize w3.heap.size = bb at *
  refine (HFw.out w4).mono ?_
  rintro e w5 ⟨ba, bl, bo, rfl, hF, b1, b2, b3, b4, b5, b6, hb5⟩
  have HB5 := Lib.hid (HB4.out.trans (hb5.mono HB4.out.size))
  have HF5 := Lib.hid hF
  have HX5 := Lib.hid ((hb5.block bb (lt_of_block HX.out)).trans HX.out)
  have HNe := Lib.hid (show ba ≠ bl ∧ bl ≠ bo ∧ ba ≠ bo ∧ bb < ba ∧ bb < bl ∧ bb < bo ∧ ba < w5.heap.size ∧ bl < w5.heap.size ∧ bo < w5.heap.size from by
    have := HZ3.out
    exact ⟨b4, b5, b6, by omega, by omega, by omega, lt_of_block hF.ha, lt_of_block hF.hl, lt_of_block hF.ho⟩)
  have HI5 := Lib.hid (HS.out.kept (S := fun _ => False) (Touch.of_below HB5.out) id (fun _ _ => id))
  clear hF b1 b2 b3 b4 b5 b6 hb5 HFw HX HA HB3 HB4
  unfold folV
  go_wp2_with fail
  refine (HLen.out w5 HI5.out).mono ?_
  rintro e w6 ⟨rfl, rfl⟩
  clear HLen
  go_wp2_with fail
  obtain ⟨B1, hB1⟩ : ∃ B1, B1 = w5.heap.size := ⟨_, rfl⟩
  rw [← hB1] at HNe
  have HB1 := Lib.hid hB1
  clear hB1
  go_loopw [33] (fun i wr => ∃ (k : Nat) (rv : Value) (vals : List Value), i = .int .i64 (k : Int) ∧ k ≤ g ∧ Hid (RdI w wr bb ba bl bo B1 bs sv st ls k rv vals)) (fun i _ => n - (intOf i).toNat)
  case atStart =>
    refine ⟨0, .slice none 0 0, [], rfl, Nat.zero_le _, Lib.hid ⟨⟨HX5.out, ⟨by simp, .inl ⟨rfl, rfl⟩⟩, (fun e => by cases e)⟩, ⟨by simp, by simp⟩, HF5.out, HI5.out, (fun x hx => by cases hx), by omega, HB5.out, rfl, by rw [HB1.out]; exact Nat.le_refl _⟩⟩
  case round =>
    obtain ⟨k, rv, vals, rfl, hk, HR⟩ := hrel
    obtain ⟨ra, rc, rfl⟩ : ∃ ra rc, rv = .slice ra k rc := by
      obtain ⟨ra, rc, e⟩ := own_shape HR.out.bk.row
      exact ⟨ra, rc, by rw [e, HR.out.len]⟩
    by_cases hlt : k < n
    · have l1 : (k : Int) < (n : Int) := by omega
      have l0 : (0 : Int) ≤ (k : Int) := by omega
      have hil := HR.out.ist
      go_wp2_with fail
      refine (HRd.out wr hil k).mono ?_
      rintro e w7 ⟨rfl, rfl⟩
      rw [show rdV (st.rd k) = .tuple #[.string (textB (ls.getD k [])), .int .i64 0] from by
        have hk2 : k < ls.length := by rw [← HN.out]; exact hlt
        unfold rdV St.rd
        rw [if_neg (by rw [HD.out]; simp), if_neg (by rw [HW.out, List.length_map]; omega), HW.out]
        have e1 : (List.map textB ls).getD (k : Int).toNat ⟨#[]⟩ = textB (ls.getD k []) := by
          simp [List.getD_eq_getElem?_getD, List.getElem?_eq_getElem hk2]
        rw [e1]]
      clear hil
      by_cases hkg : k < g
      · obtain ⟨r, hr, hr1, hr2, hr3⟩ := HFi.out k hkg
        have HFr := Lib.hid (fol_right ba bl bo k (lkS ls k) ⟨#[97]⟩ r wr HR.out.fol HNe.out.1 HNe.out.2.1 HNe.out.2.2.1 (by omega) (by decide) hr1 hr2 (by rw [← hr]; exact hr3))
        rw [← hr] at HFr
        have HRr := Lib.hid (show r = (ls.getD k []).drop 2 ∧ 0 < r.length ∧ r.length ≤ 60 from ⟨by rw [hr]; rfl, hr1, hr2⟩)
        clear hr hr1 hr2 hr3
        go_wp2_with fail
        refine HFr.out.mono ?_
        rintro e w8 ⟨ao8, cap8, rfl, hfl8, hfol8, ht8⟩
        obtain ⟨rn, hrn⟩ : ∃ rn, rn = r.length := ⟨_, rfl⟩
        rw [← hrn] at hfl8 ⊢
        have HRn := Lib.hid hrn
        have hBk := HR.out.bk.touch ht8 (fun h => h.elim (fun e => by have := HNe.out.2.2.2.1; omega) (fun e => by have := HNe.out.2.2.2.2.1; omega)) (fun x hx h => by
          have h1 := HR.out.rvB x hx
          exact h.elim (fun e => by have := HNe.out.2.2.2.2.2.2.1; omega) (fun e => by have := HNe.out.2.2.2.2.2.2.2.1; omega))
        have hRc := HR.out.recs.touch ht8 (fun i hi x hx h => by
          have h1 := HR.out.vB i (by simp at hi; omega) x hx
          exact h.elim (fun e => by have := HNe.out.2.2.2.2.2.2.1; omega) (fun e => by have := HNe.out.2.2.2.2.2.2.2.1; omega))
        have hIs := HR.out.ist.kept ht8 (fun h => by
          have h1 := HBs.out
          have h2 := HB5.out.size
          have h3 := HBb.out
          exact h.elim (fun e => by have := HNe.out.2.2.2.1; omega) (fun e => by have := HNe.out.2.2.2.2.1; omega)) (fun x hx h => by
          have h1 := own_lt HS.out.row hx
          have h3 := HBb.out
          exact h.elim (fun e => by have := HNe.out.2.2.2.1; omega) (fun e => by have := HNe.out.2.2.2.2.1; omega))
        have hBe := HR.out.below.trans (ht8.below HR.out.below.size (fun x h => by
          have h3 := HBb.out
          exact h.elim (fun e => by have := HNe.out.2.2.2.1; omega) (fun e => by have := HNe.out.2.2.2.2.1; omega)))
        have HBk8 := Lib.hid hBk
        have HRc8 := Lib.hid hRc
        have HIs8 := Lib.hid hIs
        have HBe8 := Lib.hid hBe
        have HFo8 := Lib.hid hfol8
        have HFl8 := Lib.hid hfl8
        have hS8 := Nat.le_trans (show B1 ≤ wr.heap.size from HR.out.sz) ht8.size
        clear HFr ht8 hfol8 hBk hRc hIs hBe hrn
        have HCl := Lib.hid (fclone_ok w8.drew (.slice ao8 rn cap8) r (by have := HFl8.out; exact this.below (Below.refl _ _).drew) HRr.out.2.1 (by have := HRr.out.2.2; omega))
        rw [← HRn.out] at HCl
        have x3 : w8.cell? ⟨bb, 3, none⟩ = some (.slice ra k rc) := Lib.cell_of_heap HBk8.out.blk 3
        have z3 : w8.frozen? ⟨bb, 3, none⟩ = false := Lib.frozen_of_heap HBk8.out.blk 3
        obtain ⟨i0, hi0, hz0, hz1, hz2⟩ := info_parts Tryd.infoSF
        have Z1 : 0 < 1 := by decide
        have L1 : k + 1 ≤ maxLen := by unfold maxLen; omega
        have L2 : (k + 1) * 24 ≤ 140737488355328 := by omega
        have hbb8 := lt_of_block HBk8.out.blk
        have HRow8 := Lib.hid (show w8.ownsRow 0 60 1 (.slice ra k rc) k vals from by have h1 := HBk8.out.row; have h2 := HR.out.len; rw [h2] at h1; exact h1)
        go_upto_region 16 with fail
        go_cut [63] from 55 to 65 (fun x wx => ∃ (ao4 : Option Addr) (cap4 : Nat) (u9 : Value), Hid (IsBk wx bb bs (lkS ls k) (.slice ao4 (k + 1) cap4) (vals ++ [u9]) ∧ Recs wx bb (.slice ao4 (k + 1) cap4) (vals ++ [u9]) ((ls.take k).map (·.drop 2) ++ [r]) ∧ Touch (fun x => x = bb ∨ (Value.slice ra k rc).ownBlock = some x) w8 wx ∧ (∀ x, (Value.slice ao4 (k + 1) cap4).ownBlock = some x → B1 ≤ x) ∧ (∀ x, u9.ownBlock = some x → B1 ≤ x)))
        case first =>
          go_region_law (first
          | (refine step_own (by rfl) (.tmp 59) (.tmp 62) 58 rfl 60 i0 _ 1 24 Tryd.underlying58 hi0 hz0 hz1 hz2 rfl Z1 (.slice ra k rc) k _ (by rfl) HO9.out ⟨w9.heap.size, 0, none⟩ 1 1 [.slice ao9 rn cap9] (by rfl) (by rfl) (new_cells _ _ _) (one_sl _ _ _) L1 L2 ?_; intro v4 w4 hown4 hg4 hn4; obtain ⟨ao4, cap4, rfl⟩ := own_shape hown4; have hq4 := (grown_heap hg4 (k := bb) (by have := HB9.out.size; simp; omega) HBk8.out.ne); have HQ4 := Lib.hid (And.intro ((heap_cell hq4).trans HQ10.out.1) ((World.frozen?_of_block hq4).trans HQ10.out.2)); have H4 := Lib.hid (And.intro hown4 (And.intro hg4 hn4)); clear hown4 hg4 hn4 hq4; have q41 := HQ4.out.1; have q42 := HQ4.out.2)
          | (go_simp; (refine HCl.out.mono ?_); rintro e w9 ⟨ao9, cap9, rfl, hfl9, hnw9, hb9⟩; have HQ9 := Lib.hid (And.intro ((heap_cell (hb9.block bb hbb8)).trans x3) ((World.frozen?_of_block (hb9.block bb hbb8)).trans z3)); have HB9 := Lib.hid (((Below.refl w8.heap.size w8).drew).trans hb9); have hA9 := (Below.refl w9.heap.size w9).alloc (Nat.le_refl _) (.cells #[.slice ao9 rn cap9] 60); have HQ10 := Lib.hid (And.intro ((heap_cell (hA9.block bb (Nat.lt_of_lt_of_le hbb8 HB9.out.size))).trans HQ9.out.1) ((World.frozen?_of_block (hA9.block bb (Nat.lt_of_lt_of_le hbb8 HB9.out.size))).trans HQ9.out.2)); have HO9 := Lib.hid ((own_touch HRow8.out (Touch.of_below (S := fun _ => False) HB9.out) (fun _ _ => id)).alloc (.cells #[.slice ao9 rn cap9] 60)); have HFl9 := Lib.hid hfl9; have HNw9 := Lib.hid hnw9; clear hfl9 hnw9 hb9 hA9; have q91 := HQ9.out.1; have q92 := HQ9.out.2; have q101 := HQ10.out.1; have q102 := HQ10.out.2))
          all_goals
            dsimp only [Exit.then]
            apply_assumption
            go_meet
            have hvl := HR.out.len
            have hp := bk_push (u := .slice ao9 rn cap9) (l := r) HBk8.out HRc8.out HB9.out HFl9.out (fun x hx => HNw9.out x hx) ((Touch.refl (fun _ => False) w9).alloc (.cells #[.slice ao9 rn cap9] 60)) (v4 := .slice ao4 (k + 1) cap4) (by rw [hvl]; exact H4.out.1) H4.out.2.1 H4.out.2.2
            have hs9 := HB9.out.size
            exact ⟨ao4, cap4, .slice ao9 rn cap9, Lib.hid ⟨hp.1, hp.2.1, hp.2.2, fun x hx => (H4.out.2.2 x hx).elim (fun e => HR.out.rvB x e) (fun e => by simp at e; omega), fun x hx => Nat.le_trans hS8 (HNw9.out x hx).1⟩⟩
        case rest =>
          obtain ⟨ao4, cap4, u9, HC⟩ := hcut
          have y2 : wc.cell? ⟨bb, 2, none⟩ = some (.string (lkS ls k)) := Lib.cell_of_heap HC.out.1.blk 2
          have z2 : wc.frozen? ⟨bb, 2, none⟩ = false := Lib.frozen_of_heap HC.out.1.blk 2
          clear x3 z3 hi0 hz0 hz1 hz2
          go_wp2
          have HTl := Lib.hid ((Touch.refl (fun x => x = bb) wc).setCell (p := ⟨bb, 2, none⟩) (.inl rfl) (.string (lkB ⟨#[97]⟩ (textL (ls.getD k [])))))
          have HTa := Lib.hid (HC.out.2.2.1.trans HTl.out (fun x e => .inl (.inl e)))
          have HRv := Lib.hid (fun x hx => HR.out.rvB x hx)
          go_roundw
          case rel =>
            have hvl := HR.out.len
            refine ⟨k + 1, .slice ao4 (k + 1) cap4, vals ++ [u9], by go_num, by omega, Lib.hid ⟨bk_link HC.out.1 (lkS ls (k + 1)), ?_, ?_, ?_, HC.out.2.2.2.1, ?_, ?_, ?_, ?_⟩⟩
            · have h1 := HC.out.2.1.touch HTl.out (fun i hi x hx e => ((HC.out.2.1.2 i hi).2 x hx).1 e)
              have e1 : (ls.take (k + 1)).map (·.drop 2) = (ls.take k).map (·.drop 2) ++ [r] := by
                have hk2 : k < ls.length := by rw [← HN.out]; exact hlt
                rw [List.take_succ_eq_append_getElem hk2, List.map_append, HRr.out.1]
                simp [List.getD_eq_getElem?_getD, List.getElem?_eq_getElem hk2]
              rw [e1]
              exact h1
            · exact HFo8.out.later HTa.out (fun h => h.elim (fun e => by have := HNe.out.2.2.2.1; omega) (fun e => by have h1 := HRv.out ba e; have := HNe.out.2.2.2.2.2.2.1; omega)) (fun h => h.elim (fun e => by have := HNe.out.2.2.2.2.1; omega) (fun e => by have h1 := HRv.out bl e; have := HNe.out.2.2.2.2.2.2.2.1; omega)) (fun h => h.elim (fun e => by have := HNe.out.2.2.2.2.2.1; omega) (fun e => by have h1 := HRv.out bo e; have := HNe.out.2.2.2.2.2.2.2.2; omega))
            · have h1 := HBs.out
              have h3 := HBb.out
              have h5 := HB5.out.size
              have h6 := HB1.out
              exact HIs8.out.kept HTa.out (fun h => h.elim (fun e => by omega) (fun e => by have h1 := HRv.out bs e; omega)) (fun x hx h => by
                have h2 := own_lt HS.out.row hx
                exact h.elim (fun e => by omega) (fun e => by have h1 := HRv.out x e; omega))
            · intro i hi x hx
              by_cases h : i < k
              · rw [getD_snoc_lt _ _ _ _ (by omega)] at hx
                exact HR.out.vB i h x hx
              · obtain rfl : i = vals.length := by omega
                rw [getD_snoc_eq] at hx
                exact HC.out.2.2.2.2 x hx
            · exact HBe8.out.trans (HTa.out.below HBe8.out.size (fun x h => by
                have h3 := HBb.out
                have h5 := HB5.out.size
                have h6 := HB1.out
                exact h.elim (fun e => by omega) (fun e => by have h1 := HRv.out x e; omega)))
            · rw [List.length_append, hvl]; rfl
            · exact Nat.le_trans hS8 HTa.out.size
          case measure => simp [intOf]; omega
      · obtain rfl : k = g := by omega
        have hkn : k < ls.length := by rw [← HN.out]; exact hlt
        obtain ⟨lk2, ⟨r, hr, hr1, hr2, hr3⟩, hne⟩ := HEn.out hkn
        have HFr := Lib.hid (fol_wrong ba bl bo k (lkS ls k) lk2 ⟨#[97]⟩ r wr HR.out.fol hne (by omega) hr1 hr2 (by rw [← hr]; exact hr3))
        rw [← hr] at HFr
        clear hr hr1 hr2 hr3 hne hkn
        go_wp2_with fail
        refine HFr.out.mono ?_
        rintro e w8 ⟨rfl, hb8⟩
        have HT8 := Lib.hid (Touch.of_below (S := fun _ => False) hb8)
        have HB8 := Lib.hid (HR.out.below.trans (hb8.mono HR.out.below.size))
        clear hb8 HFr
        go_wp2
        go_ret2
        refine ⟨bb, _, vals, by rw [if_neg (by omega)]; rfl, HR.out.bk.touch HT8.out id (fun _ _ => id), HR.out.recs.touch HT8.out (fun _ _ _ _ => id), HR.out.len, HBb.out, fun x hx => ?_, fun i hi x hx => ?_, HB8.out⟩
        · have h1 := HR.out.rvB x hx
          have h2 := HB1.out
          have h3 := HB5.out.size
          omega
        · have h1 := HR.out.vB i hi x hx
          have h2 := HB1.out
          have h3 := HB5.out.size
          omega
    · obtain rfl : g = n := by omega
      obtain rfl : k = g := by omega
      go_wp2
      go_ret2
      refine ⟨bb, _, vals, by rw [if_pos rfl]; rfl, HR.out.bk, HR.out.recs, HR.out.len, HBb.out, fun x hx => ?_, fun i hi x hx => ?_, HR.out.below⟩
      · have h1 := HR.out.rvB x hx
        have h2 := HB1.out
        have h3 := HB5.out.size
        omega
      · have h1 := HR.out.vB i hi x hx
        have h2 := HB1.out
        have h3 := HB5.out.size
        omega
end Go.Proofs.YtllaahdbngjigaaDoor
