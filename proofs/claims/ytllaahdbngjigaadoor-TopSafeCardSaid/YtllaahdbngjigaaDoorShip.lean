/-
  The ship and the loads that the statement asks about.
-/
import Derived.Test.YtllaahdbngjigaaDoorNew
import Derived.Test.YtllaahdbngjigaaDoorArgBx
import Derived.Laws.BytesArg
namespace Go.Proofs.YtllaahdbngjigaaDoor
open Go Go.RowKit
set_option linter.unusedVariables false
set_option linter.unusedSimpArgs false

/-- What ship tells. -/
def ShipPost (w : World) (s : Shp) (e : Ending) (w' : World) : Prop := e = .returned (.agg #[.string ⟨#[115, 104, 105, 112]⟩, .int .i64 s.bays, .int .i64 s.rows, .int .i64 s.tiers, .int .i64 s.stack, .int .i64 40, .int .i64 40, .int .i64 60, .int .i64 s.most]) ∧ Below w.heap.size w w'
set_option maxRecDepth 20000 in
set_option maxHeartbeats 2000000 in
theorem ship_any (a b c k m : Int) (ha : 0 ≤ a ∧ a ≤ 255) (hb : 0 ≤ b ∧ b ≤ 255) (hc : 0 ≤ c ∧ c ≤ 255) (hk : 0 ≤ k ∧ k ≤ 65535) (hm : 0 ≤ m ∧ m ≤ 65535) (w : World) :
    Calls Tryd.prog 6 #[.int .u8 a, .int .u8 b, .int .u8 c, .int .u16 k, .int .u16 m] w (ShipPost w ⟨1 + a % 3, 1 + b % 3, 1 + c % 3, k, m⟩) := by
  go_enter Tryd.func6, Tryd.ntmps6
  go_wp2
  refine bodyPost_ret (v := .agg #[.string ⟨#[115, 104, 105, 112]⟩, .int .i64 (1 + a % 3), .int .i64 (1 + b % 3), .int .i64 (1 + c % 3), .int .i64 k, .int .i64 40, .int .i64 40, .int .i64 60, .int .i64 m]) ?_ rfl ?_
  · simp [results, Tryd.results6, go_sem]
  · exact ⟨rfl, (Below.refl _ _).alloc (Nat.le_refl _) _⟩
theorem u8b {z : Int} (h : (Lit.int .u8 z).wf = true) : 0 ≤ z ∧ z ≤ 255 := by
  simp only [Lit.wf, Bool.and_eq_true, decide_eq_true_eq] at h
  have h1 : IntKind.u8.min = 0 := by decide
  have h2 : IntKind.u8.max = 255 := by decide
  omega
def nmOf (i : Nat) : ByteArray := strOfNums [98, 97 + (i : Int) % 26]
def ldOf (i : Nat) (x : Bx) : Ld := ⟨x.a % 3, x.b % 3, x.t % 3, nmOf i, 1 + x.w, x.c % 10, x.p % 5⟩
theorem nm_lets (i : Nat) (h : i < 20) : Lets (nmOf i) := by
  have k : ∀ i : Nat, i < 20 → (nmOf i).size = 2 ∧ (97 ≤ byt (nmOf i) 0 ∧ byt (nmOf i) 0 ≤ 122) ∧ (97 ≤ byt (nmOf i) 1 ∧ byt (nmOf i) 1 ≤ 122) := by decide
  obtain ⟨k1, k2, k3⟩ := k i h
  refine ⟨by omega, by omega, fun j hj => ?_⟩
  rw [k1] at hj
  match j, hj with
  | 0, _ => exact k2
  | 1, _ => exact k3
theorem nm_inj (i j : Nat) (hi : i < 20) (hj : j < 20) (h : nmOf i = nmOf j) : i = j := by
  have k : ∀ i : Nat, i < 20 → byt (nmOf i) 1 = 97 + i := by decide
  have := k i hi
  rw [h, k j hj] at this
  omega
theorem ldOf_ok (i : Nat) (x : Bx) (h : i < 20) (hx : x.wf) : (ldOf i x).ok := by
  have b0 := u8b hx.w
  have b1 := u8b hx.c
  have b2 := u8b hx.p
  have b3 := u8b hx.a
  have b4 := u8b hx.b
  have b5 := u8b hx.t
  refine ⟨⟨?_, ?_, ?_, ?_, ?_, ?_⟩, nm_lets i h⟩
  all_goals
    unfold ldOf
    dsimp only
    omega
def ldsN (l : List Bx) (k : Nat) : List Ld := (List.range k).map fun i => ldOf i (l.getD i default)
theorem ldsN_succ (l : List Bx) (k : Nat) (x : Bx) (h : l[k]? = some x) : ldsN l (k + 1) = ldsN l k ++ [ldOf k x] := by
  unfold ldsN
  rw [List.range_succ, List.map_append]
  simp [List.getD_eq_getElem?_getD, h]
theorem ldsN_len (l : List Bx) (k : Nat) : (ldsN l k).length = k := by simp [ldsN]
theorem ldsN_get (l : List Bx) (k i : Nat) (h : i < k) : (ldsN l k)[i]? = some (ldOf i (l.getD i default)) := by
  simp [ldsN, h]
/-- What loads tells. -/
def LoadPost (w : World) (l : List Bx) (n : Nat) (e : Ending) (w' : World) : Prop := ∃ v, e = .returned v ∧ Lds w' v (ldsN l n) ∧ Below w.heap.size w w'
set_option maxRecDepth 20000 in
set_option maxHeartbeats 4000000 in
theorem loads_of (w : World) (ao : Option Addr) (n cap : Nat) (l : List Bx) (h : Boxes w (.slice ao n cap) l) (hn : n = l.length) (hl : n ≤ 20) (hw : ∀ x ∈ l, x.wf) :
    Calls Tryd.prog 7 #[.slice ao n cap] w (LoadPost w l n) := by
  have HB := Lib.hid h
  have HN := Lib.hid hn
  have HW := Lib.hid hw
  obtain ⟨i0, hi, hz0, hz1, hz2⟩ := info_parts infoLd
  clear h hn hw
  go_enter Tryd.func7, Tryd.ntmps7
  go_wp2
  go_loopw [3, 8] (fun v i wr => ∃ k : Nat, k ≤ n ∧ i = .int .i64 (k : Int) ∧ Hid (wr.ownsRow w.heap.size 37 7 v k ((ldsN l k).flatMap Ld.cells) ∧ Below w.heap.size w wr)) (fun _ i _ => n - (intOf i).toNat)
  case atStart => exact ⟨0, Nat.zero_le _, rfl, Lib.hid ⟨World.ownsRow_nil _ _ _ _, Below.refl _ _⟩⟩
  case round =>
    obtain ⟨k, hk, rfl, HI⟩ := hrel
    by_cases hlt : k < n
    · have l1 : (k : Int) < (n : Int) := by omega
      have l0 : (0 : Int) ≤ (k : Int) := by omega
      obtain ⟨ab, aoff, rfl, hab, hat⟩ := HB.out.get HN.out (by omega)
      obtain ⟨x, hx⟩ : ∃ x, l[k]? = some x := ⟨_, List.getElem?_eq_getElem (by rw [← HN.out]; exact hlt)⟩
      obtain ⟨c0, c1, c2, c3, c4, c5⟩ := (hat k x hx).below HI.out.2
      have HX := Lib.hid (ldsN_succ l k x hx)
      have hxw := HW.out x (List.mem_of_getElem? hx)
      have b0 := u8b hxw.w
      have b1 := u8b hxw.c
      have b2 := u8b hxw.p
      have b3 := u8b hxw.a
      have b4 := u8b hxw.b
      have b5 := u8b hxw.t
      have hcv : (convert 73 9 (.slice (some ⟨wr.heap.size + 1, 0, none⟩) 2 2)).run Tryd.prog ((wr.alloc (.cells #[.int .u8 x.w, .int .u8 x.c, .int .u8 x.p, .int .u8 x.a, .int .u8 x.b, .int .u8 x.t] 72)).alloc (.cells #[.int .u8 98, .int .u8 (97 + (k : Int) % 26)] 5)) =
          .ok (.string (nmOf k)) ((wr.alloc (.cells #[.int .u8 x.w, .int .u8 x.c, .int .u8 x.p, .int .u8 x.a, .int .u8 x.b, .int .u8 x.t] 72)).alloc (.cells #[.int .u8 98, .int .u8 (97 + (k : Int) % 26)] 5)) :=
        run_convert_bytes_arg _ 73 5 Tryd.underlying73 Tryd.underlying5 (wr.heap.size + 1) 0 2 2 [98, 97 + (k : Int) % 26] rfl (fun i hi => by
          have e : (wr.alloc (.cells #[.int .u8 x.w, .int .u8 x.c, .int .u8 x.p, .int .u8 x.a, .int .u8 x.b, .int .u8 x.t] 72)).heap.size = wr.heap.size + 1 := by simp
          rw [← e, Nat.zero_add]
          match i, hi with
          | 0, _ => exact new_cell _ _ _ rfl
          | 1, _ => exact new_cell _ _ _ rfl) 9 Tryd.underlying9
      have HE := Lib.hid (show ldOf k x = ⟨x.a % 3, x.b % 3, x.t % 3, nmOf k, 1 + x.w, x.c % 10, x.p % 5⟩ from rfl)
      generalize nmOf k = nm at *
      have HR := Lib.hid HI.out.1
      have HB2 := Lib.hid HI.out.2
      have hle := HI.out.2.size
      have HO := Lib.hid (ld_one ⟨x.a % 3, x.b % 3, x.t % 3, nm, 1 + x.w, x.c % 10, x.p % 5⟩)
      clear hat hx hxw hab HI
      go_wp2_with (at_builtin; refine wp_app (W := w) (B := w.heap.size) rfl (.tmp 13) (.tmp 49) 28 rfl w.heap.size 37 i0 _ 7 64 Tryd.underlying28 hi hz0 hz1 hz2 rfl (by decide) _ k _ rfl ((HR.out.alloc _).alloc _) ((HB2.out.alloc hle _).alloc (by simp; omega) _) (Nat.le_refl _) (by simp; omega) #[.int .i64 (x.a % 3), .int .i64 (x.b % 3), .int .i64 (x.t % 3), .string nm, .int .i64 (1 + x.w), .int .i64 (x.c % 10), .int .i64 (x.p % 5)] _ (by first | rfl | (simp; done)) rfl rfl HO.out (by unfold maxLen; omega) (by omega) ?_; intro v2 w2 hown2 hb2 _; have HI2 := Lib.hid (show w2.ownsRow w.heap.size 37 7 v2 (k + 1) ((ldsN l (k + 1)).flatMap Ld.cells) ∧ Below w.heap.size w w2 from ⟨by rw [HX.out, HE.out, cells_flat]; exact hown2, hb2⟩); clear hown2 hb2)
      go_roundw
      case rel => exact ⟨k + 1, by omega, by go_num, HI2⟩
      case measure => simp [intOf]; omega
    · obtain rfl : k = n := by omega
      go_wp2
      go_ret
      exact ⟨_, rfl, by unfold Lds; rw [ldsN_len]; exact Row.of_own HI.out.1, HI.out.2⟩
end Go.Proofs.YtllaahdbngjigaaDoor
