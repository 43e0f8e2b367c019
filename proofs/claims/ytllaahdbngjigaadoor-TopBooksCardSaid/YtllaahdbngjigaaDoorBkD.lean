/-
  book: Open, Check, Len, Flush, All.
-/
import Derived.Test.YtllaahdbngjigaaDoorBkC
import Derived.Deep.OwnRows
import Derived.Laws.OwnMore
namespace Go.Proofs.YtllaahdbngjigaaDoor
open Go Go.RowKit
set_option linter.unusedVariables false
set_option linter.unusedSimpArgs false
theorem open_ok (w : World) (bs : Nat) (sv : Value) (st : St) (ls : List (List Fd)) (hS : IsSt w bs sv st) (hd : st.down = false) (hws : st.ws = ls.map textB) (hlen : ls.length ≤ 40)
    (hfine : ∀ i, i < ls.length → FineAt ls i (lkS ls i)) :
    Calls Tryd.prog 15 #[.pointer (some ⟨bs, 0, none⟩), .string ⟨#[97]⟩] w fun e w' => RdPost w bs ls ls.length ls.length e w' := by
  have HR := Lib.hid (read_ok w bs sv st ls ls.length hS hd hws hlen (Nat.le_refl _) hfine (fun h => by omega))
  clear hS hd hws hlen hfine
  go_enter Tryd.func15, Tryd.ntmps15
  go_wp2_with fail
  refine HR.out.mono ?_
  rintro e w1 ⟨bb, rv, vals, rfl, h1⟩
  rw [if_pos rfl]
  have H1 := Lib.hid h1
  clear h1 HR
  go_wp2
  go_ret2
  exact ⟨bb, rv, vals, by rw [if_pos rfl]; rfl, H1.out⟩
/-- What Check tells. -/
def ChkPost (w : World) (g n : Nat) (e : Ending) (w' : World) : Prop := e = .returned (.tuple #[.int .i64 (g : Int), .int .i64 (if g = n then 0 else 15)]) ∧ Below w.heap.size w w'
theorem check_ok (w : World) (bs : Nat) (sv : Value) (st : St) (ls : List (List Fd)) (g : Nat) (hS : IsSt w bs sv st) (hd : st.down = false) (hws : st.ws = ls.map textB) (hlen : ls.length ≤ 40) (hg : g ≤ ls.length)
    (hfine : ∀ i, i < g → FineAt ls i (lkS ls i)) (hend : g < ls.length → ∃ lk2, FineAt ls g lk2 ∧ ¬ lk2.toList = (lkS ls g).toList) :
    Calls Tryd.prog 25 #[.pointer (some ⟨bs, 0, none⟩), .string ⟨#[97]⟩] w fun e w' => ChkPost w g ls.length e w' := by
  have HR := Lib.hid (read_ok w bs sv st ls g hS hd hws hlen hg hfine hend)
  clear hS hd hws hlen hfine hend hg
  obtain ⟨z, hz⟩ : ∃ z : Int, z = if g = ls.length then 0 else 15 := ⟨_, rfl⟩
  have HZ := Lib.hid hz
  clear hz
  go_enter Tryd.func25, Tryd.ntmps25
  go_wp2_with fail
  refine HR.out.mono ?_
  rintro e w1 ⟨bb, rv, vals, rfl, h1⟩
  rw [← HZ.out]
  obtain ⟨ra, rc, rfl⟩ : ∃ ra rc, rv = .slice ra g rc := by
    obtain ⟨ra, rc, e⟩ := own_shape h1.1.row
    exact ⟨ra, rc, by rw [e, h1.2.2.1]⟩
  have x3 : w1.cell? ⟨bb, 3, none⟩ = some (.slice ra g rc) := Lib.cell_of_heap h1.1.blk 3
  have H1 := Lib.hid h1
  clear h1 HR
  go_wp2
  go_ret2
  exact ⟨by rw [← HZ.out]; rfl, H1.out.2.2.2.2.2.2⟩
theorem blen_ok (w : World) (bb bs : Nat) (lk : ByteArray) (rv : Value) (vals : List Value) (h : IsBk w bb bs lk rv vals) :
    Calls Tryd.prog 19 #[.pointer (some ⟨bb, 0, none⟩)] w fun e w' => e = .returned (.int .i64 (vals.length : Int)) ∧ w = w' := by
  obtain ⟨ra, rc, rfl⟩ := own_shape h.row
  have x3 : w.cell? ⟨bb, 3, none⟩ = some (.slice ra vals.length rc) := Lib.cell_of_heap h.blk 3
  clear h
  generalize vals.length = n at *
  go_enter Tryd.func19, Tryd.ntmps19
  go_wp2
  go_ret
  exact ⟨rfl, rfl⟩
theorem flush_ok (w : World) (bb bs : Nat) (lk : ByteArray) (rv : Value) (vals : List Value) (sv : Value) (st : St) (h : IsBk w bb bs lk rv vals) (hs : IsSt w bs sv st) :
    Calls Tryd.prog 17 #[.pointer (some ⟨bb, 0, none⟩)] w fun e w' => e = .returned (.int .i64 st.sy.2) ∧ IsSt w' bs sv st.sy.1 ∧ Keep bs sv w sv w' := by
  have x0 : w.cell? ⟨bb, 0, none⟩ = some (.pointer (some ⟨bs, 0, none⟩)) := Lib.cell_of_heap h.blk 0
  have HS := Lib.hid (sync_any w bs sv st hs)
  clear h hs
  go_enter Tryd.func17, Tryd.ntmps17
  go_wp2_with fail
  refine HS.out.mono ?_
  rintro e w1 ⟨rfl, h1, h2⟩
  have H := Lib.hid (And.intro h1 h2)
  clear h1 h2 HS
  go_wp2
  go_ret
  exact ⟨rfl, H.out.1, H.out.2⟩
/-- A row of rows of fields. -/
def AllP (w : World) (rs : List (List Fd)) (e : Ending) (w' : World) : Prop := ∃ ao cap vals, e = .returned (.slice ao rs.length cap) ∧ Row w' (.slice ao rs.length cap) 1 rs.length vals ∧ vals.length = rs.length ∧ (∀ i, i < rs.length → Flds w' (vals.getD i .nilIface) (rs.getD i [])) ∧ Below w.heap.size w w'
theorem row_blk {w : World} {b : Nat} {us : List Value} {e n : Nat} (h : w.heap[b]? = some (.cells us.toArray e (0, 0))) (hn : us.length = n) (hm : n ≤ maxLen) : Row w (.slice (some ⟨b, 0, none⟩) n n) 1 n us := by
  refine ⟨by omega, some ⟨b, 0, none⟩, n, rfl, Nat.le_refl _, hm, (fun h => by cases h), fun a ha j u hu => ?_⟩
  cases ha
  have e : (⟨b, 0, none⟩ : Addr).add j = ⟨b, j, none⟩ := by cases j <;> simp [Addr.add]
  rw [e, Lib.cell_of_heap h j]
  simpa using hu
theorem made_sl (n : Nat) : madeCells #[Value.slice none 0 0] n = Array.replicate n (Value.slice none 0 0) := by
  apply Array.toList_inj.1
  rw [toList_madeCells_one]; simp
/-- The state of All's loop. -/
structure AllI (w w' : World) (bm n k : Nat) (rs : List (List Fd)) (us : List Value) : Prop where
  len : us.length = n
  blk : w'.heap[bm]? = some (.cells us.toArray 60 (0, 0))
  done : ∀ i, i < k → Flds w' (us.getD i .nilIface) (rs.getD i []) ∧ ∀ x, (us.getD i .nilIface).ownBlock = some x → x ≠ bm
  below : Below w.heap.size w w'
set_option maxRecDepth 20000 in
set_option maxHeartbeats 4000000 in
theorem all_ok (w : World) (bb bs : Nat) (lk : ByteArray) (rv : Value) (vals : List Value) (rs : List (List Fd)) (h : IsBk w bb bs lk rv vals) (hr : Recs w bb rv vals rs) (hl : rs.length ≤ 40) (hp : ∀ i, i < rs.length → 0 < (rs.getD i []).length ∧ (rs.getD i []).length ≤ 60) :
    Calls Tryd.prog 20 #[.pointer (some ⟨bb, 0, none⟩)] w fun e w' => AllP w rs e w' := by
  obtain ⟨n, hn⟩ : ∃ n, n = rs.length := ⟨_, rfl⟩
  obtain ⟨ra, rc, rfl⟩ : ∃ ra rc, rv = .slice ra n rc := by
    obtain ⟨ra, rc, e⟩ := own_shape h.row
    exact ⟨ra, rc, by rw [e, hr.1, hn]⟩
  have x3 : w.cell? ⟨bb, 3, none⟩ = some (.slice ra n rc) := Lib.cell_of_heap h.blk 3
  have HN := Lib.hid hn
  have HB := Lib.hid h
  have HR := Lib.hid hr
  have HP := Lib.hid hp
  rw [← hn] at hl
  clear h hr hp hn
  have MK := run_make_row' (P := Tryd.prog) 58 60 (.slice none 0 0) 24 Tryd.underlying58 Tryd.infoSF rfl .i64 .i64 n (by omega) (by omega) w
  rw [made_sl] at MK
  have hA := (Below.refl w.heap.size w).alloc (Nat.le_refl _) (.cells (Array.replicate n (Value.slice none 0 0)) 60)
  have hx := heap_alloc_new w (.cells (Array.replicate n (Value.slice none 0 0)) 60)
  have H0 := Lib.hid (show AllI w (w.alloc (.cells (Array.replicate n (Value.slice none 0 0)) 60)) w.heap.size n 0 rs (List.replicate n (.slice none 0 0)) from ⟨by simp, by rw [hx]; simp, (fun i hi => by omega), hA⟩)
  have x3' := cell_later hA x3
  clear hA hx
  go_enter Tryd.func20, Tryd.ntmps20
  go_wp2_with fail
  go_loopw [17] (fun i wr => ∃ (k : Nat) (us : List Value), i = .int .i64 (k : Int) ∧ k ≤ n ∧ Hid (AllI w wr w.heap.size n k rs us)) (fun i _ => n - (intOf i).toNat)
  case atStart => exact ⟨0, _, rfl, Nat.zero_le _, H0⟩
  case round =>
    obtain ⟨k, us, rfl, hk, HA⟩ := hrel
    clear MK x3 x3'
    by_cases hlt : k < n
    · have l1 : (k : Int) < (n : Int) := by omega
      have l0 : (0 : Int) ≤ (k : Int) := by omega
      have hkr : k < rs.length := by rw [← HN.out]; exact hlt
      obtain ⟨gb, off, cap', e, _, _, hgb, hc⟩ := Row.at (Row.of_own HB.out.row) (by rw [HR.out.1]; omega)
      obtain ⟨rfl, rfl⟩ : ra = some ⟨gb, off, none⟩ ∧ rc = cap' := by
        injection e with e1 e2 e3
        exact ⟨e1, e3⟩
      have c0 := hc k (by rw [HR.out.1]; exact hkr)
      have hfk := (HR.out.2 k hkr).1
      have hpk := HP.out k hkr
      have e1 : vals[k]'(by rw [HR.out.1]; exact hkr) = vals.getD k .nilIface := by
        simp [List.getD_eq_getElem?_getD, List.getElem?_eq_getElem (show k < vals.length by rw [HR.out.1]; exact hkr)]
      rw [e1] at c0
      generalize vals.getD k .nilIface = u at *
      have c0 : wr.cell? ⟨gb, off + k, none⟩ = some u := (HA.out.below.cell (p := ⟨gb, off + k, none⟩) hgb).trans c0
      have hfk := hfk.touch (Touch.of_below (S := fun _ => False) HA.out.below) (fun _ _ => id)
      obtain ⟨ua, uc, rfl, _⟩ := hfk.shape
      obtain ⟨m, hm⟩ : ∃ m, m = (rs.getD k []).length := ⟨_, rfl⟩
      have HCl := Lib.hid (fclone_ok wr _ _ hfk hpk.1 (by omega))
      rw [← hm] at HCl c0
      clear hc hfk hpk e1 hm
      go_wp2_with fail
      refine HCl.out.mono ?_
      rintro e w2 ⟨a2, c2, rfl, hf2, hn2, hb2⟩
      have hbm := lt_of_block HA.out.blk
      have hk2 : w2.heap[w.heap.size]? = some (.cells us.toArray 60 (0, 0)) := (hb2.block _ hbm).trans HA.out.blk
      have y0 : w2.cell? ⟨w.heap.size, k, none⟩ = some (us.getD k .nilIface) := by
        rw [Lib.cell_of_heap hk2 k]
        have := HA.out.len
        simp [List.getD_eq_getElem?_getD, List.getElem?_eq_getElem (show k < us.length by omega)]
      have z0 : w2.frozen? ⟨w.heap.size, k, none⟩ = false := Lib.frozen_of_heap hk2 k
      have HK := Lib.hid hk2
      have HF := Lib.hid hf2
      have HNw := Lib.hid hn2
      have HB2 := Lib.hid hb2
      have HBm := Lib.hid hbm
      clear hk2 hf2 hn2 hb2 hbm HCl c0
      go_wp2
      go_roundw
      case rel =>
        have ht := (Touch.refl (fun x => x = w.heap.size) w2).setCell (p := ⟨w.heap.size, k, none⟩) (.inl rfl) (.slice a2 m c2)
        refine ⟨k + 1, us.set k (.slice a2 m c2), by go_num, by omega, Lib.hid ⟨by rw [List.length_set]; exact HA.out.len, (hset HK.out).trans (by simp), fun i hi => ?_, (HA.out.below.trans (HB2.out.mono HA.out.below.size)).setCell (Nat.le_refl _) _⟩⟩
        have hlu := HA.out.len
        by_cases h : i = k
        · subst h
          have e2 : (us.set i (.slice a2 m c2)).getD i .nilIface = .slice a2 m c2 := by
            simp [List.getD_eq_getElem?_getD, List.getElem?_set, show i < us.length by omega]
          rw [e2]
          exact ⟨HF.out.touch ht (fun x hx e => by have h1 := (HNw.out x hx).1; have h2 := HBm.out; omega), fun x hx e => by have h1 := (HNw.out x hx).1; have h2 := HBm.out; omega⟩
        · have e2 : (us.set k (.slice a2 m c2)).getD i .nilIface = us.getD i .nilIface := by
            simp only [List.getD_eq_getElem?_getD, List.getElem?_set]
            rw [if_neg (fun e => h e.symm)]
          rw [e2]
          have hd := HA.out.done i (by omega)
          exact ⟨(hd.1.below HB2.out).touch ht (fun x hx e => hd.2 x hx e), hd.2⟩
      case measure => simp [intOf]; omega
    · obtain rfl : k = n := by omega
      go_wp2
      go_ret
      refine ⟨some ⟨w.heap.size, 0, none⟩, k, us, by rw [← HN.out]; rfl, ?_, by rw [HA.out.len, HN.out], fun i hi => (HA.out.done i (by rw [HN.out]; exact hi)).1, HA.out.below⟩
      rw [← HN.out]
      exact row_blk HA.out.blk HA.out.len (by unfold maxLen; omega)
end Go.Proofs.YtllaahdbngjigaaDoor
