/-
  The document's Pays; AveragePays.
-/
import Derived.Test.YtoaopgamfndfgaaRefPays
namespace Go.Proofs.Ytoaopgamfndfgaa
open Go Go.RowKit
set_option linter.unusedVariables false
set_option linter.unusedSimpArgs false

/-- A row of numbers of one's own: read and written. -/
theorem own_ints {w : World} {base n : Nat} {v : Value} {G : List Int} (h : w.ownsRow base 2 1 v n (G.map (Value.int .i64))) (hp : 0 < n) :
    ∃ g cap, v = .slice (some ⟨g, 0, none⟩) n cap ∧ base ≤ g ∧ g < w.heap.size ∧ (∀ c, c < n → w.cell? ⟨g, c, none⟩ = some (.int .i64 (G.getD c 0)) ∧ w.frozen? ⟨g, c, none⟩ = false) ∧
      ∀ c y, c < n → (w.setCell ⟨g, c, none⟩ (.int .i64 y)).ownsRow base 2 1 v n ((G.set c y).map (Value.int .i64)) := by
  have hl : G.length = n := by have := h.1; simpa using this
  have hrow := Row.of_own h
  obtain ⟨h1, h⟩ := h
  rcases h with ⟨rfl, rfl⟩ | ⟨g, cap, cur, rfl, h3, h4, h5, h6, h7, h8⟩
  · simp at h1; omega
  · refine ⟨g, cap, rfl, h3, lt_of_block h4, fun c hc => ⟨?_, by simp [World.frozen?, h4]⟩, fun c y hc => ⟨by simpa using h1, .inr ⟨g, cap, cur.setIfInBounds c (.int .i64 y), rfl, h3, heap_set h4, h5, h6, by simpa using h7, ?_⟩⟩⟩
    · obtain ⟨_, ao, cap', e, _, _, _, h9⟩ := hrow
      cases e
      have := h9 _ rfl c (.int .i64 (G.getD c 0)) (by rw [List.getElem?_map, List.getD_eq_getElem?_getD, List.getElem?_eq_getElem (by omega)]; rfl)
      rwa [add_in] at this
    · rw [List.map_set, ← h8]
      simp [List.take_set]

/-- How the document's Pays stands. -/
structure REnv (w0 : World) (bs bd n gb gc : Nat) (w : World) (G : List Int) (v : Value) (D : List De) : Prop where
  g : w.ownsRow bs 2 1 (.slice (some ⟨gb, 0, none⟩) n gc) n (G.map (Value.int .i64))
  d : w.ownsRow bd 40 4 v D.length (D.flatMap De.cells)
  lt : gb < bd
  l0 : w0.heap.size ≤ gb
  sz : bd ≤ w.heap.size
  b : Below w0.heap.size w0 w

theorem REnv.drewN {w0 w : World} {bs bd n gb gc : Nat} {G : List Int} {v : Value} {D : List De} (h : REnv w0 bs bd n gb gc w G v D) (q : Nat) : REnv w0 bs bd n gb gc (w.drewN q) G v D :=
  ⟨h.g, h.d, h.lt, h.l0, h.sz, below_drewN h.b q⟩

def RPPost (T : Nat) (W : List Nat) (l : List In1) (g : List Int) (S : Int) (w : World) (e : Ending) (w' : World) : Prop :=
  ∃ v out, e = .returned (.tuple #[v, .int .i64 0]) ∧ IsSplit T W out ∧ Des w' v (payAll l (getsL g out) S l.length).D ∧ Below w.heap.size w w'

/-- What stands behind so many rounds. -/
def paid (l : List In1) (G : List Int) (S : Int) : Nat → List Int × List De
  | 0 => (G, [])
  | k + 1 => ((payAll l G S k).G, (payAll l G S k).D)
/-- The state in which round k begins. -/
def begS (l : List In1) (G : List Int) (S : Int) : Nat → PS
  | 0 => ⟨G, S, []⟩
  | k + 1 => ⟨(payAll l G S k).G, (payAll l G S k).G.getD k 0, (payAll l G S k).D⟩
def begT (l : List In1) : Nat → ByteArray
  | 0 => emp
  | k + 1 => (l.getD k default).t
theorem beg_paid (l : List In1) (G : List Int) (S : Int) (k : Nat) : (begS l G S k).G = (paid l G S k).1 ∧ (begS l G S k).D = (paid l G S k).2 := by cases k <;> exact ⟨rfl, rfl⟩
theorem paid_next (l : List In1) (G : List Int) (S : Int) (k : Nat) : (paid l G S (k + 1)).1 = (scanTo l (begT l k) (begS l G S k) l.length).G ∧ (paid l G S (k + 1)).2 = (scanTo l (begT l k) (begS l G S k) l.length).D := by cases k <;> exact ⟨rfl, rfl⟩

set_option maxHeartbeats 2000000 in
theorem rpays_bad (ao bo : Option Addr) (n cap m cap2 : Nat) (l : List In1) (g : List Int) (S : Int) (w : World) (h : Ins w (.slice ao n cap) l) (hn : n = l.length) (h2 : Ints w (.slice bo m cap2) g) (hm : m = g.length) (hf : fewB l = true) (hw : wholeN l g S ≠ 0) :
    Calls Try.prog 13 #[.slice ao n cap, .slice bo m cap2, .int .i64 S] w fun e w' => e = .returned (.tuple #[.slice none 0 0, .int .i64 (wholeN l g S)]) ∧ Below w.heap.size w w' := by
  have HW := Lib.hid (rwhole_bad ao bo n cap m cap2 l g S w h hn h2 hm hf hw)
  generalize wholeN l g S = r at *
  have d3 : (r == 0) = false := by rw [beq_eq_false_iff_ne]; exact hw
  have d4 : (r != 0) = true := by simp [bne, d3]
  clear hw hn hm h h2 hf
  go_enter Try.func13, Try.ntmps13
  go_wp2_with fail
  refine HW.out.mono ?_
  rintro e w1 ⟨rfl, hb⟩
  have HB := Lib.hid hb
  clear hb
  go_wp2
  go_ret2
  exact ⟨rfl, HB.out⟩

set_option maxRecDepth 100000 in
set_option maxHeartbeats 16000000 in
theorem rpays_any (T : Nat) (W : List Nat) (ao bo : Option Addr) (n cap cap2 : Nat) (l : List In1) (g : List Int) (S : Int) (w : World) (h : Ins w (.slice ao n cap) l) (hn : n = l.length) (h2 : Ints w (.slice bo n cap2) g) (hf : fewB l = true) (hw : WholeOk l g S T W) :
    Calls Try.prog 13 #[.slice ao n cap, .slice bo n cap2, .int .i64 S] w (RPPost T W l g S w) := by
  have HW := Lib.hid (rwhole_any T W ao bo n cap cap2 l g S w h hn h2 hf hw)
  obtain ⟨i0, hi, hz0, hz1, hz2⟩ := info_parts Try.infoDebt
  have H := Lib.hid h
  have HO := Lib.hid hw
  have HN := Lib.hid hn
  have h31 : n ≤ 31 := by rw [hn]; exact ((few_iff l).1 hf).1
  have hp : 0 < n := by rw [hn]; exact hw.pos
  clear h hn h2 hf hw
  go_enter Try.func13, Try.ntmps13
  go_wp2_with fail
  refine HW.out.mono ?_
  intro e w1 hpost
  unfold RWPost at hpost
  obtain ⟨b1, v2, out, bs, rfl, hs, hown, hbs, hb⟩ := hpost
  have HS := Lib.hid hs
  obtain ⟨G, hG⟩ : ∃ G, G = getsL g out := ⟨_, rfl⟩
  rw [← hG] at hown
  have HG := Lib.hid hG
  have HGb := Lib.hid (fun j => gets_bd HO.out.may HO.out.gone HO.out.t1 hs HO.out.ss j)
  rw [← hG] at HGb
  obtain ⟨gb, gc, rfl, g1, g2, -, -⟩ := own_ints hown hp
  have HE0 := Lib.hid (show REnv w bs w1.heap.size n gb gc (w1.alloc (.cells #[] 40)) G (.slice (some ⟨w1.heap.size, 0, none⟩) 0 0) [] from
    ⟨hown.alloc _, ⟨rfl, .inr ⟨w1.heap.size, 0, #[], rfl, Nat.le_refl _, heap_alloc_new _ _, Nat.le_refl _, by unfold maxLen; omega, rfl, rfl⟩⟩, g2, by omega, by simp, (hb.alloc hb.size _)⟩)
  have HI := Lib.hid (H.out.get HN.out hp)
  obtain ⟨bl, off, rfl, hbl, hc⟩ := HI.out
  have HC := Lib.hid hc
  have HBl := Lib.hid hbl
  have HSb := Lib.hid (fun k => scan_bd (l := l) (t := begT l k) (s := begS l G S k) (M := 4398046511104) (by
    rw [(beg_paid l G S k).1]
    cases k with
    | zero => exact HGb.out
    | succ k => exact pay_bd (l := l) (S := S) HGb.out k))
  have HSd := Lib.hid (fun k => scan_debts l (begT l k) (begS l G S k))
  have HPd := Lib.hid (show ∀ k, (begS l G S k).D.length ≤ k * l.length from fun k => by
    rw [(beg_paid l G S k).2]
    cases k with
    | zero => exact Nat.zero_le _
    | succ k => exact pay_debts l G S k)
  have HGl := Lib.hid (show ∀ k c, (scanTo l (begT l k) (begS l G S k) c).G.length = n from fun k c => by
    rw [scan_len, (beg_paid l G S k).1]
    have e : G.length = n := by rw [hG, gets_len, HO.out.gl, HN.out]
    cases k with
    | zero => exact e
    | succ k => show (payAll l G S k).G.length = n; rw [pay_len]; exact e)
  have HS1 := Lib.hid HO.out.s1
  clear hs hG hown hbs hb g1 g2 hc hbl HW HI
  go_wp2_with fail
  have HP0 := Lib.hid (show (paid l G S 0).1 = G ∧ (paid l G S 0).2 = [] from ⟨rfl, rfl⟩)
  go_loopw [11, 12] (fun s i wr => ∃ (k : Nat) (v : Value), k ≤ n + 1 ∧ i = .int .i64 ((k : Int) - 1) ∧ s = v ∧ Hid (REnv w bs w1.heap.size n gb gc wr (paid l G S k).1 v (paid l G S k).2)) (fun _ i _ => n + 1 - (intOf i + 1).toNat)
  case atStart => exact ⟨0, _, Nat.zero_le _, rfl, rfl, by rw [HP0.out.1, HP0.out.2]; exact HE0⟩
  case round =>
    clear HE0 HP0
    obtain ⟨k, v, hk, rfl, rfl, hE⟩ := hrel
    by_cases hlt : k < n + 1
    · obtain ⟨z, hz⟩ : ∃ z, z = (k : Int) - 1 := ⟨_, rfl⟩
      rw [← hz]
      have l1 : z < (n : Int) := by omega
      have v1 : IntKind.i64.wrap (z + 1) = z + 1 := IntWalk.i64_in _ (by omega)
      have HZn := Lib.hid (show z + 1 = ((k + 1 : Nat) : Int) - 1 by omega)
      have HMs := Lib.hid (show (z + 1 + 1).toNat = k + 1 ∧ (z + 1).toNat = k by omega)
      have HE1 := Lib.hid (show REnv w bs w1.heap.size n gb gc wr (begS l G S k).G u11 (begS l G S k).D by
        rw [(beg_paid l G S k).1, (beg_paid l G S k).2]; exact hE.out)
      have HBn := Lib.hid (show (begS l G S k).n ≤ 4398046511104 by
        cases k with
        | zero => have := HS1.out; show S ≤ _; omega
        | succ k => exact (pay_bd (l := l) (S := S) HGb.out k k).2)
      clear hE
      by_cases hk0 : z < 0
      · have d1 : decide (0 ≤ z) = false := by rw [decide_eq_false_iff_not]; omega
        obtain rfl : k = 0 := by omega
        obtain ⟨k, hk0⟩ : ∃ k, k = 0 := ⟨_, rfl⟩
        have HN0 := Lib.hid (show Value.int .i64 S = .int .i64 (scanTo l (begT l k) (begS l G S k) 0).n by rw [hk0]; rfl)
        have HT0 := Lib.hid (show (⟨#[]⟩ : ByteArray) = begT l k by rw [hk0]; rfl)
        rw [← hk0] at HE1 HBn HMs HZn
        have hk := (show k ≤ n + 1 by omega)
        have hlt := (show k < n + 1 by omega)
        clear hz
        go_wp2_with fail
        rw [HT0.out]
        go_loopw [11, 13, 15] (fun s nn i wr => ∃ (c : Nat) (v : Value), c ≤ n ∧ i = .int .i64 (c : Int) ∧ nn = .int .i64 (scanTo l (begT l k) (begS l G S k) c).n ∧ s = v ∧ Hid (REnv w bs w1.heap.size n gb gc wr (scanTo l (begT l k) (begS l G S k) c).G v (scanTo l (begT l k) (begS l G S k) c).D)) (fun _ _ i _ => n - (intOf i).toNat)
        case atStart => exact ⟨0, _, Nat.zero_le _, rfl, HN0.out, rfl, HE1⟩
        case round =>
          clear HE1
          obtain ⟨c, v, hc, rfl, rfl, rfl, hE⟩ := hrel
          obtain ⟨s, hs⟩ : ∃ s, s = scanTo l (begT l k) (begS l G S k) c := ⟨_, rfl⟩
          have hsb := HSb.out k c
          have hsd := HSd.out k c
          have hpd := HPd.out k
          have hgl := HGl.out k c
          rw [← hs] at hE hsb hsd hgl ⊢
          have HSs := Lib.hid hs
          clear hs
          obtain ⟨sG, sn, sD⟩ := s
          dsimp only at hE hsb hsd hgl ⊢
          have hsn : sn ≤ 4398046511104 := Int.le_trans hsb.2 HBn.out
          have hdd : sD.length ≤ 2000 := by
            have h5 : k * l.length ≤ 32 * 31 := Nat.mul_le_mul (by omega) (by rw [← HN.out]; exact h31)
            omega
          have HGc := Lib.hid (hsb.1 c)
          clear hsb hsd hpd
          by_cases hcl : c < n
          · have l5 : (c : Int) < (n : Int) := by omega
            have l6 : (0 : Int) ≤ (c : Int) := by omega
            by_cases g1 : 0 < sn
            · have d5 : decide (0 < sn) = true := by rw [decide_eq_true_iff]; exact g1
              obtain ⟨gb', gc', e, gg1, gg2, gg3, gg4⟩ := own_ints hE.out.g hp
              cases e
              obtain ⟨c1, f1⟩ := gg3 c hcl
              have HSet := Lib.hid (fun y => gg4 c y hcl)
              have gy := HGc.out
              clear gg1 gg2 gg3 gg4
              obtain ⟨y, hy⟩ : ∃ y, y = sG.getD c 0 := ⟨_, rfl⟩
              rw [← hy] at c1 gy
              by_cases g2 : y < 0
              · have d6 : decide (y < 0) = true := by rw [decide_eq_true_iff]; exact g2
                obtain ⟨p, hpp⟩ : ∃ p, p = min sn (-y) := ⟨_, rfl⟩
                have HNx := Lib.hid (show scanTo l (begT l k) (begS l G S k) (c + 1) = ⟨sG.set c (y + p), sn - p, sD ++ [⟨(l.getD c default).t, begT l k, emp, p⟩]⟩ by
                  show stp l (begT l k) c (scanTo l (begT l k) (begS l G S k) c) = _
                  rw [← HSs.out, stp_yes (by exact g1) (by show sG.getD c 0 < 0; rw [← hy]; exact g2)]
                  dsimp only
                  rw [← hy, ← hpp])
                have hp1 : 1 ≤ p ∧ p ≤ sn ∧ p ≤ -y := by omega
                have v1 : IntKind.i64.wrap (y + p) = y + p := IntWalk.i64_in _ (by omega)
                have v2 : IntKind.i64.wrap (sn - p) = sn - p := IntWalk.i64_in _ (by omega)
                have v3 : IntKind.i64.wrap (-y) = -y := IntWalk.i64_in _ (by omega)
                have hpm : min sn (-y) = p := hpp.symm
                obtain ⟨c2, -⟩ := HC.out c hcl
                have c2 : wr.cell? ⟨bl, off + c * 2, none⟩ = some (.string (l.getD c default).t) := by rw [hE.out.b.cell (p := ⟨bl, off + c * 2, none⟩) HBl.out]; exact c2
                obtain ⟨nm, hnm⟩ : ∃ nm, nm = (l.getD c default).t := ⟨_, rfl⟩
                rw [← hnm] at c2 HNx
                have HBd := Lib.hid (Below.refl wr.heap.size wr)
                clear hpp hy hnm gy hp1 hgl hsn
                unfold emp at HNx
                generalize begT l k = tt at *
                go_wp2_with (at_builtin; refine wp_app (W := wr) (B := w1.heap.size) rfl (.tmp 69) (.tmp 78) 26 rfl w1.heap.size 40 i0 _ 4 56 Try.underlying26 hi hz0 hz1 hz2 rfl (by decide) _ _ _ rfl hE.out.d (Below.refl _ _) (Nat.le_refl _) hE.out.sz #[.string nm, .string tt, .string ⟨#[]⟩, .int .i64 p] _ (by first | rfl | (simp; done)) rfl rfl (debt_one ⟨nm, tt, ⟨#[]⟩, p⟩) (by unfold maxLen; omega) (by omega) ?_; intro v5 w5 hown5 hb5 hsz5; have c1 : w5.cell? ⟨gb, c, none⟩ = some (.int .i64 y) := (hb5.cell (p := ⟨gb, c, none⟩) hE.out.lt).trans c1; have f1 : w5.frozen? ⟨gb, c, none⟩ = false := (hb5.frozen (p := ⟨gb, c, none⟩) hE.out.lt).trans f1; have HO5 := Lib.hid hown5; have HB5 := Lib.hid hb5; have HZ5 := Lib.hid hsz5; clear hown5 hb5 hsz5)
                have HE5 := Lib.hid (show REnv w bs w1.heap.size n gb gc (w5.setCell ⟨gb, c, none⟩ (.int .i64 (y + p))) (sG.set c (y + p)) v5 (sD ++ [⟨nm, tt, ⟨#[]⟩, p⟩]) from by
                  have g5 := own_touch hE.out.g (S := fun x => w1.heap.size ≤ x) (w' := w5) ⟨HB5.out.os, HB5.out.tape, HB5.out.output, HB5.out.size, fun x hx hx2 => HB5.out.block x (by omega)⟩ (fun x hx hx2 => by cases hx; have hx2 : w1.heap.size ≤ gb := hx2; have := hE.out.lt; omega)
                  obtain ⟨gb', gc', e, _, _, _, g6⟩ := own_ints g5 hp
                  cases e
                  refine ⟨g6 c (y + p) hcl, ?_, hE.out.lt, hE.out.l0, by simp [World.setCell]; exact Nat.le_trans hE.out.sz HZ5.out, (hE.out.b.trans (HB5.out.mono (by have := hE.out.l0; have := hE.out.lt; omega))).setCell (p := ⟨gb, c, none⟩) hE.out.l0 _⟩
                  have e1 : (sD ++ [(⟨nm, tt, ⟨#[]⟩, p⟩ : De)]).length = sD.length + 1 := by simp
                  have e2 : (sD ++ [(⟨nm, tt, ⟨#[]⟩, p⟩ : De)]).flatMap De.cells = sD.flatMap De.cells ++ (⟨nm, tt, ⟨#[]⟩, p⟩ : De).cells := by simp
                  rw [e1, e2]
                  refine own_touch HO5.out ((Touch.refl (fun x => x = gb) w5).setCell (p := ⟨gb, c, none⟩) (.inl rfl) _) (fun x hx e => ?_)
                  have := own_block HO5.out hx; have := hE.out.lt; omega)
                go_roundw
                case rel => exact ⟨c + 1, v5, by omega, by go_num, by rw [HNx.out], rfl, by rw [HNx.out]; exact HE5⟩
                case measure => simp [intOf]; omega
              · have d6 : decide (y < 0) = false := by rw [decide_eq_false_iff_not]; exact g2
                have HNx := Lib.hid (show scanTo l (begT l k) (begS l G S k) (c + 1) = ⟨sG, sn, sD⟩ by
                  show stp l (begT l k) c (scanTo l (begT l k) (begS l G S k) c) = _
                  rw [← HSs.out]
                  exact stp_no (.inr (by show 0 ≤ sG.getD c 0; rw [← hy]; omega)))
                clear hy gy hgl hsn
                go_wp2
                go_roundw
                case rel => exact ⟨c + 1, _, by omega, by go_num, by rw [HNx.out], rfl, by rw [HNx.out]; exact hE⟩
                case measure => simp [intOf]; omega
            · have d5 : decide (0 < sn) = false := by rw [decide_eq_false_iff_not]; exact g1
              have HFin := Lib.hid (show (paid l G S (k + 1)).1 = sG ∧ (paid l G S (k + 1)).2 = sD by
                obtain ⟨q1, q2⟩ := paid_next l G S k
                have q3 : scanTo l (begT l k) (begS l G S k) l.length = ⟨sG, sn, sD⟩ := by
                  rw [HSs.out]
                  refine scan_skip (by rw [← HN.out]; exact hc) (fun j h1 h2 => ?_)
                  rw [← HSs.out]
                  exact .inl (by show sn ≤ 0; omega)
                rw [q3] at q1 q2
                exact ⟨q1, q2⟩)
              clear hgl hsn
              go_wp2
              go_roundw
              case rel => exact ⟨k + 1, _, by omega, by rw [HZn.out], rfl, by rw [HFin.out.1, HFin.out.2]; exact hE⟩
              case measure => have h9 := HMs.out; simp [intOf]; omega
          · obtain rfl : c = n := by omega
            have HFin := Lib.hid (show (paid l G S (k + 1)).1 = sG ∧ (paid l G S (k + 1)).2 = sD by
              obtain ⟨q1, q2⟩ := paid_next l G S k
              rw [← HN.out, ← HSs.out] at q1 q2
              exact ⟨q1, q2⟩)
            clear hgl hsn
            go_wp2
            go_roundw
            case rel => exact ⟨k + 1, _, by omega, by rw [HZn.out], rfl, by rw [HFin.out.1, HFin.out.2]; exact hE⟩
            case measure => have h9 := HMs.out; simp [intOf]; omega
      · have d1 : decide (0 ≤ z) = true := by rw [decide_eq_true_iff]; omega
        obtain ⟨j, rfl⟩ : ∃ j, k = j + 1 := ⟨k - 1, by omega⟩
        obtain rfl : z = (j : Int) := by omega
        have l3 : (0 : Int) ≤ (j : Int) := by omega
        have l4 : j < n := by omega
        obtain ⟨gb', gc', e, -, -, gg3, -⟩ := own_ints HE1.out.g hp
        cases e
        obtain ⟨c1, -⟩ := gg3 j l4
        obtain ⟨c2, -⟩ := HC.out j l4
        have c2 : wr.cell? ⟨bl, off + j * 2, none⟩ = some (.string (l.getD j default).t) := by rw [HE1.out.b.cell (p := ⟨bl, off + j * 2, none⟩) HBl.out]; exact c2
        have HN0 := Lib.hid (show Value.int .i64 ((begS l G S (j + 1)).G.getD j 0) = .int .i64 (scanTo l (begT l (j + 1)) (begS l G S (j + 1)) 0).n from rfl)
        have HT0 := Lib.hid (show (l.getD j default).t = begT l (j + 1) from rfl)
        generalize (begS l G S (j + 1)).G.getD j 0 = y0 at *
        generalize (l.getD j default).t = t0 at *
        have HE2 := Lib.hid (fun q => HE1.out.drewN q)
        clear hz gg3
        go_wp2_with fail
        go_quiet (fail)
        go_wp2_with fail
        rw [HT0.out]
        have HE1 := Lib.hid (HE2.out nq)
        clear HE2 c1 c2
        generalize wr.drewN nq = wq at *
        obtain ⟨k, hkj⟩ : ∃ k, k = j + 1 := ⟨_, rfl⟩
        rw [← hkj] at HE1 HBn HMs HZn HN0 HT0 hk hlt ⊢
        go_loopw [11, 13, 15] (fun s nn i wr => ∃ (c : Nat) (v : Value), c ≤ n ∧ i = .int .i64 (c : Int) ∧ nn = .int .i64 (scanTo l (begT l k) (begS l G S k) c).n ∧ s = v ∧ Hid (REnv w bs w1.heap.size n gb gc wr (scanTo l (begT l k) (begS l G S k) c).G v (scanTo l (begT l k) (begS l G S k) c).D)) (fun _ _ i _ => n - (intOf i).toNat)
        case atStart => exact ⟨0, _, Nat.zero_le _, rfl, HN0.out, rfl, HE1⟩
        case round =>
          clear HE1
          obtain ⟨c, v, hc, rfl, rfl, rfl, hE⟩ := hrel
          obtain ⟨s, hs⟩ : ∃ s, s = scanTo l (begT l k) (begS l G S k) c := ⟨_, rfl⟩
          have hsb := HSb.out k c
          have hsd := HSd.out k c
          have hpd := HPd.out k
          have hgl := HGl.out k c
          rw [← hs] at hE hsb hsd hgl ⊢
          have HSs := Lib.hid hs
          clear hs
          obtain ⟨sG, sn, sD⟩ := s
          dsimp only at hE hsb hsd hgl ⊢
          have hsn : sn ≤ 4398046511104 := Int.le_trans hsb.2 HBn.out
          have hdd : sD.length ≤ 2000 := by
            have h5 : k * l.length ≤ 32 * 31 := Nat.mul_le_mul (by omega) (by rw [← HN.out]; exact h31)
            omega
          have HGc := Lib.hid (hsb.1 c)
          clear hsb hsd hpd
          by_cases hcl : c < n
          · have l5 : (c : Int) < (n : Int) := by omega
            have l6 : (0 : Int) ≤ (c : Int) := by omega
            by_cases g1 : 0 < sn
            · have d5 : decide (0 < sn) = true := by rw [decide_eq_true_iff]; exact g1
              obtain ⟨gb', gc', e, gg1, gg2, gg3, gg4⟩ := own_ints hE.out.g hp
              cases e
              obtain ⟨c1, f1⟩ := gg3 c hcl
              have HSet := Lib.hid (fun y => gg4 c y hcl)
              have gy := HGc.out
              clear gg1 gg2 gg3 gg4
              obtain ⟨y, hy⟩ : ∃ y, y = sG.getD c 0 := ⟨_, rfl⟩
              rw [← hy] at c1 gy
              by_cases g2 : y < 0
              · have d6 : decide (y < 0) = true := by rw [decide_eq_true_iff]; exact g2
                obtain ⟨p, hpp⟩ : ∃ p, p = min sn (-y) := ⟨_, rfl⟩
                have HNx := Lib.hid (show scanTo l (begT l k) (begS l G S k) (c + 1) = ⟨sG.set c (y + p), sn - p, sD ++ [⟨(l.getD c default).t, begT l k, emp, p⟩]⟩ by
                  show stp l (begT l k) c (scanTo l (begT l k) (begS l G S k) c) = _
                  rw [← HSs.out, stp_yes (by exact g1) (by show sG.getD c 0 < 0; rw [← hy]; exact g2)]
                  dsimp only
                  rw [← hy, ← hpp])
                have hp1 : 1 ≤ p ∧ p ≤ sn ∧ p ≤ -y := by omega
                have v1 : IntKind.i64.wrap (y + p) = y + p := IntWalk.i64_in _ (by omega)
                have v2 : IntKind.i64.wrap (sn - p) = sn - p := IntWalk.i64_in _ (by omega)
                have v3 : IntKind.i64.wrap (-y) = -y := IntWalk.i64_in _ (by omega)
                have hpm : min sn (-y) = p := hpp.symm
                obtain ⟨c2, -⟩ := HC.out c hcl
                have c2 : wr.cell? ⟨bl, off + c * 2, none⟩ = some (.string (l.getD c default).t) := by rw [hE.out.b.cell (p := ⟨bl, off + c * 2, none⟩) HBl.out]; exact c2
                obtain ⟨nm, hnm⟩ : ∃ nm, nm = (l.getD c default).t := ⟨_, rfl⟩
                rw [← hnm] at c2 HNx
                have HBd := Lib.hid (Below.refl wr.heap.size wr)
                clear hpp hy hnm gy hp1 hgl hsn
                unfold emp at HNx
                generalize begT l k = tt at *
                go_wp2_with (at_builtin; refine wp_app (W := wr) (B := w1.heap.size) rfl (.tmp 69) (.tmp 78) 26 rfl w1.heap.size 40 i0 _ 4 56 Try.underlying26 hi hz0 hz1 hz2 rfl (by decide) _ _ _ rfl hE.out.d (Below.refl _ _) (Nat.le_refl _) hE.out.sz #[.string nm, .string tt, .string ⟨#[]⟩, .int .i64 p] _ (by first | rfl | (simp; done)) rfl rfl (debt_one ⟨nm, tt, ⟨#[]⟩, p⟩) (by unfold maxLen; omega) (by omega) ?_; intro v5 w5 hown5 hb5 hsz5; have c1 : w5.cell? ⟨gb, c, none⟩ = some (.int .i64 y) := (hb5.cell (p := ⟨gb, c, none⟩) hE.out.lt).trans c1; have f1 : w5.frozen? ⟨gb, c, none⟩ = false := (hb5.frozen (p := ⟨gb, c, none⟩) hE.out.lt).trans f1; have HO5 := Lib.hid hown5; have HB5 := Lib.hid hb5; have HZ5 := Lib.hid hsz5; clear hown5 hb5 hsz5)
                have HE5 := Lib.hid (show REnv w bs w1.heap.size n gb gc (w5.setCell ⟨gb, c, none⟩ (.int .i64 (y + p))) (sG.set c (y + p)) v5 (sD ++ [⟨nm, tt, ⟨#[]⟩, p⟩]) from by
                  have g5 := own_touch hE.out.g (S := fun x => w1.heap.size ≤ x) (w' := w5) ⟨HB5.out.os, HB5.out.tape, HB5.out.output, HB5.out.size, fun x hx hx2 => HB5.out.block x (by omega)⟩ (fun x hx hx2 => by cases hx; have hx2 : w1.heap.size ≤ gb := hx2; have := hE.out.lt; omega)
                  obtain ⟨gb', gc', e, _, _, _, g6⟩ := own_ints g5 hp
                  cases e
                  refine ⟨g6 c (y + p) hcl, ?_, hE.out.lt, hE.out.l0, by simp [World.setCell]; exact Nat.le_trans hE.out.sz HZ5.out, (hE.out.b.trans (HB5.out.mono (by have := hE.out.l0; have := hE.out.lt; omega))).setCell (p := ⟨gb, c, none⟩) hE.out.l0 _⟩
                  have e1 : (sD ++ [(⟨nm, tt, ⟨#[]⟩, p⟩ : De)]).length = sD.length + 1 := by simp
                  have e2 : (sD ++ [(⟨nm, tt, ⟨#[]⟩, p⟩ : De)]).flatMap De.cells = sD.flatMap De.cells ++ (⟨nm, tt, ⟨#[]⟩, p⟩ : De).cells := by simp
                  rw [e1, e2]
                  refine own_touch HO5.out ((Touch.refl (fun x => x = gb) w5).setCell (p := ⟨gb, c, none⟩) (.inl rfl) _) (fun x hx e => ?_)
                  have := own_block HO5.out hx; have := hE.out.lt; omega)
                go_roundw
                case rel => exact ⟨c + 1, v5, by omega, by go_num, by rw [HNx.out], rfl, by rw [HNx.out]; exact HE5⟩
                case measure => simp [intOf]; omega
              · have d6 : decide (y < 0) = false := by rw [decide_eq_false_iff_not]; exact g2
                have HNx := Lib.hid (show scanTo l (begT l k) (begS l G S k) (c + 1) = ⟨sG, sn, sD⟩ by
                  show stp l (begT l k) c (scanTo l (begT l k) (begS l G S k) c) = _
                  rw [← HSs.out]
                  exact stp_no (.inr (by show 0 ≤ sG.getD c 0; rw [← hy]; omega)))
                clear hy gy hgl hsn
                go_wp2
                go_roundw
                case rel => exact ⟨c + 1, _, by omega, by go_num, by rw [HNx.out], rfl, by rw [HNx.out]; exact hE⟩
                case measure => simp [intOf]; omega
            · have d5 : decide (0 < sn) = false := by rw [decide_eq_false_iff_not]; exact g1
              have HFin := Lib.hid (show (paid l G S (k + 1)).1 = sG ∧ (paid l G S (k + 1)).2 = sD by
                obtain ⟨q1, q2⟩ := paid_next l G S k
                have q3 : scanTo l (begT l k) (begS l G S k) l.length = ⟨sG, sn, sD⟩ := by
                  rw [HSs.out]
                  refine scan_skip (by rw [← HN.out]; exact hc) (fun j h1 h2 => ?_)
                  rw [← HSs.out]
                  exact .inl (by show sn ≤ 0; omega)
                rw [q3] at q1 q2
                exact ⟨q1, q2⟩)
              clear hgl hsn
              go_wp2
              go_roundw
              case rel => exact ⟨k + 1, _, by omega, by rw [HZn.out], rfl, by rw [HFin.out.1, HFin.out.2]; exact hE⟩
              case measure => have h9 := HMs.out; simp [intOf]; omega
          · obtain rfl : c = n := by omega
            have HFin := Lib.hid (show (paid l G S (k + 1)).1 = sG ∧ (paid l G S (k + 1)).2 = sD by
              obtain ⟨q1, q2⟩ := paid_next l G S k
              rw [← HN.out, ← HSs.out] at q1 q2
              exact ⟨q1, q2⟩)
            clear hgl hsn
            go_wp2
            go_roundw
            case rel => exact ⟨k + 1, _, by omega, by rw [HZn.out], rfl, by rw [HFin.out.1, HFin.out.2]; exact hE⟩
            case measure => have h9 := HMs.out; simp [intOf]; omega
    · obtain rfl : k = n + 1 := by omega
      obtain ⟨a5, c5, rfl⟩ := own_shape hE.out.d
      have l1 : decide ((((n + 1 : Nat) : Int) - 1) < (n : Int)) = false := by rw [decide_eq_false_iff_not]; omega
      have l2 : (((n + 1 : Nat) : Int) - 1) = (n : Int) := by omega
      rw [l2]
      have HFin := Lib.hid (show Des wr (.slice a5 (paid l G S (n + 1)).2.length c5) (payAll l (getsL g out) S l.length).D by
        unfold Des
        rw [← HG.out, ← HN.out]
        exact Row.of_own hE.out.d)
      go_wp2
      go_ret2
      exact ⟨_, out, rfl, HS.out, HFin.out, hE.out.b⟩

end Go.Proofs.Ytoaopgamfndfgaa
