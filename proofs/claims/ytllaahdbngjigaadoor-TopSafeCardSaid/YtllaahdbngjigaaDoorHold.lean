/-
  A hold in memory: its ship, its two maps, its weight; a load's box.
-/
import Derived.Test.YtllaahdbngjigaaDoorLdP
import Derived.Test.YtllaahdbngjigaaDoorMp
namespace Go.Proofs.YtllaahdbngjigaaDoor
open Go Go.RowKit Go.Maps Go.WideMaps
set_option maxRecDepth 20000
set_option linter.unusedVariables false
set_option linter.unusedSimpArgs false

def Ld.cells (x : Ld) : List Value := [.int .i64 x.b, .int .i64 x.r, .int .i64 x.t, .string x.nm, .int .i64 x.wt, .int .i64 x.cl, .int .i64 x.pt]
def Ld.arr (x : Ld) : Array Value := #[.int .i64 x.b, .int .i64 x.r, .int .i64 x.t, .string x.nm, .int .i64 x.wt, .int .i64 x.cl, .int .i64 x.pt]
def Ld.val (x : Ld) : Value := .agg #[.int .i64 x.b, .int .i64 x.r, .int .i64 x.t, .string x.nm, .int .i64 x.wt, .int .i64 x.cl, .int .i64 x.pt]
def slotV (b r t : Int) : Value := .agg #[.int .i64 b, .int .i64 r, .int .i64 t]
def shipT : ByteArray := ⟨#[115, 104, 105, 112]⟩
def Shp.val (s : Shp) : Value := .agg #[.string ⟨#[115, 104, 105, 112]⟩, .int .i64 s.bays, .int .i64 s.rows, .int .i64 s.tiers, .int .i64 s.stack, .int .i64 40, .int .i64 40, .int .i64 60, .int .i64 s.most]
def holdA (s : Shp) (bs bn : Nat) (tot : Int) : Array Value := #[.string ⟨#[115, 104, 105, 112]⟩, .int .i64 s.bays, .int .i64 s.rows, .int .i64 s.tiers, .int .i64 s.stack, .int .i64 40, .int .i64 40, .int .i64 60, .int .i64 s.most, .map (some bs), .map (some bn), .int .i64 tot]
def keyS (x : Ld) : Value × Value := (slotV x.b x.r x.t, x.val)
def keyN (x : Ld) : Value × Value := (.string x.nm, x.val)

theorem slot_laid : laidOutB Tryd.prog = true := by kernel_rfl
theorem slot_row : (35 : TypeId) < Tryd.prog.types.size := of_decide_eq_true (by kernel_rfl)
theorem slot_wide : (match Tryd.prog.underlying 35 with | some (.array _ _) | some (.struct _) => true | _ => false) = true := by rw [Tryd.underlying35]
theorem slotK : Keyed Tryd.prog 35 := Keyed.of_law (deep_law_laid slot_laid (m := 2) (by omega) slot_row (by kernel_rfl) slot_wide)
theorem nameK : Keyed Tryd.prog 9 := string_keyed Tryd.underlying9
theorem slot_kt : Tryd.prog.keyType 35 = true := by kernel_rfl
theorem slot_c : Tryd.prog.cellsOf 35 = 3 := by kernel_rfl
theorem int_c : Tryd.prog.cellsOf 3 = 1 := by kernel_rfl
theorem slot_sz : ∃ m, Tryd.prog.types.size = m + 1 := ⟨_, (Nat.succ_pred_eq_of_pos (Nat.lt_of_le_of_lt (Nat.zero_le _) slot_row)).symm⟩
theorem slot_key {b r t : Int} (hb : -4 ≤ b ∧ b ≤ 64) (hr : -4 ≤ r ∧ r ≤ 64) (ht : -4 ≤ t ∧ t ≤ 64) : ∃ l, keyOf Tryd.prog 35 (slotV b r t) = some l := by
  have w1 : (Lit.int .i64 b).wf = true := WalkArith.wf_i64 (by omega)
  have w2 : (Lit.int .i64 r).wf = true := WalkArith.wf_i64 (by omega)
  have w3 : (Lit.int .i64 t).wf = true := WalkArith.wf_i64 (by omega)
  obtain ⟨m, hm⟩ := slot_sz
  unfold keyOf slotV
  simp only [Tryd.underlying35]
  rw [if_pos (by simp [slot_kt, Value.formed, Tryd.underlying35, slot_c]), hm]
  unfold Program.keyLits
  simp only [Tryd.underlying35, Value.cells]
  rw [if_pos ⟨by rw [slot_c]; rfl, by simp⟩]
  simp [int_c, Program.keyLits, Tryd.underlying3, w1, w2, w3]
theorem name_key {s : ByteArray} (h : s.size ≤ 16) : ∃ l, keyOf Tryd.prog 9 (.string s) = some l := ⟨_, keyOf_string_mk Tryd.underlying9 (by unfold maxLen; omega)⟩

/-- A hold in memory. -/
structure HoldIs (w : World) (bh bs bn : Nat) (s : Shp) (L : List Ld) : Prop where
  h : w.heap[bh]? = some (.cells (holdA s bs bn (wsum L)) 78 (0, 0))
  ms : MP w bs (L.map keyS)
  mn : MP w bn (L.map keyN)
  ne2 : bs ≠ bn
/-- What holds of the loads of a hold. -/
def AllFine (L : List Ld) : Prop := ∀ x ∈ L, x.fine ∧ x.nm.size ≤ 16
def HoldS (bh bs bn : Nat) (k : Nat) : Prop := k = bh ∨ k = bs ∨ k = bn
theorem HoldIs.touch {S : Nat → Prop} {w w' : World} {bh bs bn : Nat} {s : Shp} {L : List Ld} (h : HoldIs w bh bs bn s L) (ht : Touch S w w') (hn : ∀ k, HoldS bh bs bn k → ¬ S k) : HoldIs w' bh bs bn s L :=
  ⟨(ht.block bh (lt_of_block h.h) (hn bh (.inl rfl))).trans h.h, h.ms.touch ht (hn bs (.inr (.inl rfl))), h.mn.touch ht (hn bn (.inr (.inr rfl))), h.ne2⟩
theorem HoldIs.below {w w' : World} {bh bs bn : Nat} {s : Shp} {L : List Ld} (h : HoldIs w bh bs bn s L) (hb : Below w.heap.size w w') : HoldIs w' bh bs bn s L :=
  h.touch (S := fun _ => False) (Touch.of_below hb) (fun _ _ => id)
theorem HoldIs.heap {w w' : World} {bh bs bn : Nat} {s : Shp} {L : List Ld} (h : HoldIs w bh bs bn s L) (hb : w'.heap = w.heap) : HoldIs w' bh bs bn s L := by
  obtain ⟨h1, ⟨e1, c1, m1⟩, ⟨e2, c2, m2⟩, h4⟩ := h
  exact ⟨by rw [hb]; exact h1, ⟨e1, c1, by rw [hb]; exact m1⟩, ⟨e2, c2, by rw [hb]; exact m2⟩, h4⟩
theorem HoldIs.cell {w : World} {bh bs bn : Nat} {s : Shp} {L : List Ld} (h : HoldIs w bh bs bn s L) {j : Nat} {v : Value} (hv : (holdA s bs bn (wsum L))[j]? = some v) : w.cell? ⟨bh, j, none⟩ = some v := by
  simp [World.cell?, h.h, hv]
theorem HoldIs.c0 {w : World} {bh bs bn : Nat} {s : Shp} {L : List Ld} (h : HoldIs w bh bs bn s L) : w.cell? ⟨bh, 0, none⟩ = some (.string ⟨#[115, 104, 105, 112]⟩) := h.cell (j := 0) rfl
theorem HoldIs.c1 {w : World} {bh bs bn : Nat} {s : Shp} {L : List Ld} (h : HoldIs w bh bs bn s L) : w.cell? ⟨bh, 1, none⟩ = some (.int .i64 s.bays) := h.cell (j := 1) rfl
theorem HoldIs.c2 {w : World} {bh bs bn : Nat} {s : Shp} {L : List Ld} (h : HoldIs w bh bs bn s L) : w.cell? ⟨bh, 2, none⟩ = some (.int .i64 s.rows) := h.cell (j := 2) rfl
theorem HoldIs.c3 {w : World} {bh bs bn : Nat} {s : Shp} {L : List Ld} (h : HoldIs w bh bs bn s L) : w.cell? ⟨bh, 3, none⟩ = some (.int .i64 s.tiers) := h.cell (j := 3) rfl
theorem HoldIs.c4 {w : World} {bh bs bn : Nat} {s : Shp} {L : List Ld} (h : HoldIs w bh bs bn s L) : w.cell? ⟨bh, 4, none⟩ = some (.int .i64 s.stack) := h.cell (j := 4) rfl
theorem HoldIs.c5 {w : World} {bh bs bn : Nat} {s : Shp} {L : List Ld} (h : HoldIs w bh bs bn s L) : w.cell? ⟨bh, 5, none⟩ = some (.int .i64 40) := h.cell (j := 5) rfl
theorem HoldIs.c6 {w : World} {bh bs bn : Nat} {s : Shp} {L : List Ld} (h : HoldIs w bh bs bn s L) : w.cell? ⟨bh, 6, none⟩ = some (.int .i64 40) := h.cell (j := 6) rfl
theorem HoldIs.c7 {w : World} {bh bs bn : Nat} {s : Shp} {L : List Ld} (h : HoldIs w bh bs bn s L) : w.cell? ⟨bh, 7, none⟩ = some (.int .i64 60) := h.cell (j := 7) rfl
theorem HoldIs.c8 {w : World} {bh bs bn : Nat} {s : Shp} {L : List Ld} (h : HoldIs w bh bs bn s L) : w.cell? ⟨bh, 8, none⟩ = some (.int .i64 s.most) := h.cell (j := 8) rfl
theorem HoldIs.c9 {w : World} {bh bs bn : Nat} {s : Shp} {L : List Ld} (h : HoldIs w bh bs bn s L) : w.cell? ⟨bh, 9, none⟩ = some (.map (some bs)) := h.cell (j := 9) rfl
theorem HoldIs.c10 {w : World} {bh bs bn : Nat} {s : Shp} {L : List Ld} (h : HoldIs w bh bs bn s L) : w.cell? ⟨bh, 10, none⟩ = some (.map (some bn)) := h.cell (j := 10) rfl
theorem HoldIs.c11 {w : World} {bh bs bn : Nat} {s : Shp} {L : List Ld} (h : HoldIs w bh bs bn s L) : w.cell? ⟨bh, 11, none⟩ = some (.int .i64 (wsum L)) := h.cell (j := 11) rfl
theorem HoldIs.lt {w : World} {bh bs bn : Nat} {s : Shp} {L : List Ld} (h : HoldIs w bh bs bn s L) : bh < w.heap.size ∧ bs < w.heap.size ∧ bn < w.heap.size := ⟨lt_of_block h.h, h.ms.lt, h.mn.lt⟩
theorem HoldIs.nes {w : World} {bh bs bn : Nat} {s : Shp} {L : List Ld} (h : HoldIs w bh bs bn s L) : bh ≠ bs ∧ bh ≠ bn := by
  obtain ⟨h1, ⟨e1, c1, m1, k1⟩, ⟨e2, c2, m2, k2⟩, h4⟩ := h
  exact ⟨(fun e => by rw [e, m1] at h1; cases h1), (fun e => by rw [e, m2] at h1; cases h1)⟩
theorem keysS {L : List Ld} (hL : AllFine L) : KeysAt Tryd.prog 35 (L.map keyS) := by
  intro p hp
  obtain ⟨x, hx, rfl⟩ := List.mem_map.1 hp
  have h := (hL x hx).1
  exact slot_key (by have := h.b; omega) (by have := h.r; omega) (by have := h.t; omega)
theorem keysN {L : List Ld} (hL : AllFine L) : KeysAt Tryd.prog 9 (L.map keyN) := by
  intro p hp
  obtain ⟨x, hx, rfl⟩ := List.mem_map.1 hp
  exact name_key (hL x hx).2
def zLd : Ld := ⟨0, 0, 0, ⟨#[]⟩, 0, 0, 0⟩
theorem ld_zero (w : World) : (zeroValue 37).run Tryd.prog w = .ok zLd.val w := by kernel_rfl
theorem slot_inj {b r t b' r' t' : Int} (h : slotV b r t = slotV b' r' t') : b = b' ∧ r = r' ∧ t = t' := by
  unfold slotV at h
  injection h with h
  simp at h
  exact h
theorem val_inj {x y : Ld} (h : x.val = y.val) : x = y := by
  unfold Ld.val at h
  injection h with h
  simp at h
  cases x; cases y
  simp_all
theorem HoldIs.ne {w : World} {bh bs bn : Nat} {s : Shp} {L : List Ld} (h : HoldIs w bh bs bn s L) : L.Pairwise slotNe := by
  have := List.pairwise_map.1 h.ms.nodup
  exact this.imp fun {x y} hn e => hn (by show slotV _ _ _ = slotV _ _ _; rw [e.1, e.2.1, e.2.2])
theorem HoldIs.nn {w : World} {bh bs bn : Nat} {s : Shp} {L : List Ld} (h : HoldIs w bh bs bn s L) : L.Pairwise (fun x y => x.nm ≠ y.nm) := by
  have := List.pairwise_map.1 h.mn.nodup
  exact this.imp fun {x y} hn e => hn (by show Value.string _ = Value.string _; rw [e])
/-- What a look-up by the slot tells. -/
def lookV (o : Option Ld) : Value := match o with
  | some y => .tuple #[y.val, .bool true]
  | none => .tuple #[zLd.val, .bool false]
theorem HoldIs.slot {w : World} {bh bs bn : Nat} {s : Shp} {L : List Ld} (h : HoldIs w bh bs bn s L) (hL : AllFine L) {b r t : Int} (hb : -4 ≤ b ∧ b ≤ 64) (hr : -4 ≤ r ∧ r ≤ 64) (ht : -4 ≤ t ∧ t ≤ 64) :
    (Instr.lookup 75 (.map (some bs)) (slotV b r t) true).run Tryd.prog w = .ok (lookV (atL L b r t)) w := by
  obtain ⟨l, hl⟩ := slot_key hb hr ht
  rcases mp_look slotK Tryd.underlying75 h.ms (keysS hL) hl (ld_zero w) true with ⟨v, hv, e⟩ | ⟨hn, e⟩
  · obtain ⟨y, hy, e2⟩ := List.mem_map.1 hv
    unfold keyS at e2
    injection e2 with e2 e3
    obtain ⟨rfl, rfl, rfl⟩ := slot_inj e2
    rw [e, ne_at h.ne hy, ← e3]
    rfl
  · rw [e]
    cases ha : atL L b r t with
    | none => rfl
    | some y =>
      obtain ⟨h1, h2, h3, h4⟩ := atL_some ha
      exact absurd (show slotV y.b y.r y.t = slotV b r t by rw [h2, h3, h4]) (hn _ (List.mem_map.2 ⟨y, h1, rfl⟩))
theorem HoldIs.name {w : World} {bh bs bn : Nat} {s : Shp} {L : List Ld} (h : HoldIs w bh bs bn s L) (hL : AllFine L) {m : ByteArray} (hm : m.size ≤ 16) (hn : ∀ y ∈ L, y.nm ≠ m) :
    (Instr.lookup 76 (.map (some bn)) (.string m) true).run Tryd.prog w = .ok (.tuple #[zLd.val, .bool false]) w := by
  obtain ⟨l, hl⟩ := name_key hm
  rcases mp_look nameK Tryd.underlying76 h.mn (keysN hL) hl (ld_zero w) true with ⟨v, hv, e⟩ | ⟨_, e⟩
  · obtain ⟨y, hy, e2⟩ := List.mem_map.1 hv
    unfold keyN at e2
    injection e2 with e2 e3
    injection e2 with e2
    exact absurd e2 (hn y hy)
  · rw [e]; rfl
theorem HoldIs.named {w : World} {bh bs bn : Nat} {s : Shp} {L : List Ld} (h : HoldIs w bh bs bn s L) (hL : AllFine L) {x : Ld} (hx : x ∈ L) :
    (Instr.lookup 76 (.map (some bn)) (.string x.nm) true).run Tryd.prog w = .ok (.tuple #[x.val, .bool true]) w := by
  obtain ⟨l, hl⟩ := name_key (hL x hx).2
  rcases mp_look nameK Tryd.underlying76 h.mn (keysN hL) hl (ld_zero w) true with ⟨v, hv, e⟩ | ⟨hn, e⟩
  · have hd := h.mn.nodup
    have hm : (Value.string x.nm, x.val) ∈ L.map keyN := List.mem_map.2 ⟨x, hx, rfl⟩
    have : v = x.val := by
      obtain ⟨i, hi, e1⟩ := List.mem_iff_getElem.1 hv
      obtain ⟨j, hj, e2⟩ := List.mem_iff_getElem.1 hm
      rcases Nat.lt_trichotomy i j with hlt | he | hlt
      · exact absurd (by rw [e1, e2]) (List.pairwise_iff_getElem.1 hd i j hi hj hlt)
      · subst he
        rw [e1] at e2
        injection e2
      · exact absurd (by rw [e1, e2]) (List.pairwise_iff_getElem.1 hd j i hj hi hlt)
    rw [e, this]; rfl
  · exact absurd rfl (hn (Value.string x.nm, x.val) (List.mem_map.2 ⟨x, hx, rfl⟩))

theorem allFine_mem {L : List Ld} (h : AllFine L) : ∀ x ∈ L, x.fine := fun x hx => (h x hx).1
theorem allFine_app {L : List Ld} (h : AllFine L) {x : Ld} (hx : x.fine) (hn : x.nm.size ≤ 16) : AllFine (L ++ [x]) := by
  intro y hy
  rcases List.mem_append.1 hy with hy | hy
  · exact h y hy
  · simp at hy; subst hy; exact ⟨hx, hn⟩
theorem btw {W w w' : World} (h1 : Below W.heap.size W w) (h2 : Below w.heap.size w w') : Below W.heap.size W w' := h1.trans (h2.mono h1.size)
theorem cell_alloc {w : World} {a : Addr} {v : Value} (h : w.cell? a = some v) (o : Obj) : (w.alloc o).cell? a = some v := (heap_cell (Below.heap_alloc w o a.block (World.block_lt_of_cell? _ _ h))).trans h
/-- A load in a block. -/
structure LdAt (w : World) (q : Nat) (x : Ld) : Prop where
  c0 : w.cell? ⟨q, 0, none⟩ = some (.int .i64 x.b)
  c1 : w.cell? ⟨q, 1, none⟩ = some (.int .i64 x.r)
  c2 : w.cell? ⟨q, 2, none⟩ = some (.int .i64 x.t)
  c3 : w.cell? ⟨q, 3, none⟩ = some (.string x.nm)
  c4 : w.cell? ⟨q, 4, none⟩ = some (.int .i64 x.wt)
  c5 : w.cell? ⟨q, 5, none⟩ = some (.int .i64 x.cl)
  c6 : w.cell? ⟨q, 6, none⟩ = some (.int .i64 x.pt)
theorem LdAt.below {w w' : World} {q : Nat} {x : Ld} (h : LdAt w q x) (hb : Below w.heap.size w w') : LdAt w' q x :=
  ⟨cell_later hb h.c0, cell_later hb h.c1, cell_later hb h.c2, cell_later hb h.c3, cell_later hb h.c4, cell_later hb h.c5, cell_later hb h.c6⟩
theorem LdAt.of_block {w : World} {q : Nat} {x : Ld} {t : TypeId} {fz : Nat × Nat} (h : w.heap[q]? = some (.cells #[.int .i64 x.b, .int .i64 x.r, .int .i64 x.t, .string x.nm, .int .i64 x.wt, .int .i64 x.cl, .int .i64 x.pt] t fz)) : LdAt w q x := by
  refine ⟨?_, ?_, ?_, ?_, ?_, ?_, ?_⟩ <;> simp [World.cell?, h]
end Go.Proofs.YtllaahdbngjigaaDoor
