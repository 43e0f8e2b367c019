/-
  The example by which each statement of the layer begins.
-/
import Derived.Test.YtamfdkigokicoaaFRec2
import Derived.Test.YtamfdkigokicoaaShareE
import Derived.BigQuiet
namespace Go.Proofs.Ytamfdkigokicoaa
open Go Go.RowKit
set_option linter.unusedVariables false
set_option linter.unusedSimpArgs false

theorem recover_any (w : World) (b : Nat) (v : Value) (f : Fi) (s : Int) (h : IsFi w b v f) :
    Calls Try.prog 16 #[.pointer (some ⟨b, 0, none⟩), .int .i64 s] w fun e w' => ∃ vg, e = .returned (.tuple #[vg, .int .i64 (f.recover s).2.2]) ∧ IsFi w' b v (f.recover s).1 ∧ Ens w' vg (f.recover s).2.1 ∧ Keep b v w v w' := by
  by_cases h1 : s < 1 ∨ 1099511627776 < s
  · have e1 : f.recover s = (f, [], 3) := by unfold Fi.recover; rw [if_pos h1]
    rw [e1]
    refine (recover_bad w b v f s h h1).mono ?_
    rintro e w' ⟨rfl, hb⟩
    exact ⟨_, rfl, h.below hb, Row.nil _ _, Keep.of_below hb⟩
  · by_cases h2 : outF f < s
    · have e1 : f.recover s = (f, [], 10) := by unfold Fi.recover; rw [if_neg h1, if_pos h2]
      rw [e1]
      refine (recover_fund w b v f s h (by omega) (by omega) h2).mono ?_
      rintro e w' ⟨rfl, hb⟩
      exact ⟨_, rfl, h.below hb, Row.nil _ _, Keep.of_below hb⟩
    · have e1 : f.recover s = ((recF f s).1, (recF f s).2, 0) := by unfold Fi.recover; rw [if_neg h1, if_neg h2]
      rw [e1]
      exact recover_ok w b v f s h (by omega) (by omega) (by omega)

def pEx (i : ByteArray) (z : Int) : Po := ⟨i, ⟨#[102]⟩, ⟨#[116]⟩, z, 0, .slice none 0 0, [], 0, 9, 1000⟩
theorem policy_any (i : ByteArray) (z : Int) (w : World) :
    Calls Try.prog 27 #[.string i, .int .i64 z] w fun e w' => e = .returned (.agg #[.string i, .string ⟨#[102]⟩, .string ⟨#[116]⟩, .int .i64 z, .int .i64 0, .slice none 0 0, .int .i64 0, .int .i64 9, .int .i64 1000]) ∧ Below w.heap.size w w' := by
  go_enter Try.func27, Try.ntmps27
  go_wp2
  exact bodyPost_ret (v := .agg #[.string i, .string ⟨#[102]⟩, .string ⟨#[116]⟩, .int .i64 z, .int .i64 0, .slice none 0 0, .int .i64 0, .int .i64 9, .int .i64 1000]) (by simp [results, Try.results27, go_sem]) rfl ⟨rfl, (Below.refl _ _).alloc (Nat.le_refl _) _⟩

def exP : List Po := [pEx ⟨#[97]⟩ 60, pEx ⟨#[98]⟩ 30]
theorem row_lit (w : World) (e sz n : Nat) (cs : Array Value) (h : cs.size = n * sz) (hn : n ≤ maxLen) : Row (w.alloc (.cells cs e)) (.slice (some ⟨w.heap.size, 0, none⟩) n n) sz n cs.toList := by
  refine ⟨by simpa using h, some ⟨w.heap.size, 0, none⟩, n, rfl, Nat.le_refl _, hn, (fun h => by cases h), fun a ha j u hu => ?_⟩
  cases ha
  exact new_cells w cs e j u hu
def exC : Array Value := #[.string ⟨#[97]⟩, .string ⟨#[102]⟩, .string ⟨#[116]⟩, .int .i64 60, .int .i64 0, .slice none 0 0, .int .i64 0, .int .i64 9, .int .i64 1000, .string ⟨#[98]⟩, .string ⟨#[102]⟩, .string ⟨#[116]⟩, .int .i64 30, .int .i64 0, .slice none 0 0, .int .i64 0, .int .i64 9, .int .i64 1000]
theorem ex_pos (w : World) : Pos (w.alloc (.cells exC 32)) (.slice (some ⟨w.heap.size, 0, none⟩) 2 2) exP := by
  refine ⟨row_lit w 32 9 2 exC rfl (by unfold maxLen; omega), fun o ho => ?_⟩
  simp only [exP, List.mem_cons, List.not_mem_nil, or_false] at ho
  rcases ho with rfl | rfl
  · exact Row.nil _ _
  · exact Row.nil _ _
theorem ex_may : allMay exP = true := by decide +kernel
theorem ex_lines : linesN exP = [60, 30] := by decide +kernel
theorem ex_split : ∀ out, IsSplit 45 [60, 30] out → out = [30, 15] := fun out h => h.unique ⟨[0, 1], by decide, by unfold Srtd Lx; decide, by decide⟩
theorem aw_share (loss : Int) (out : List Nat) (W : World) (h0 : shareB loss exP = true) (hs : ∀ o, IsShared loss exP o → o = out) :
    Calls Try.prog 11 #[.int .i64 loss, .slice (some ⟨W.heap.size, 0, none⟩) 2 2] (W.alloc (.cells exC 32)) fun e w' => ∃ b, e = .returned (.tuple #[.slice (some ⟨b, 0, none⟩) 2 2, .int .i64 0]) ∧ Blk w' b (natI out) ∧ Below W.heap.size W w' := by
  have hb0 := (Below.refl W.heap.size W).alloc (Nat.le_refl _) (.cells exC 32)
  refine (share_any loss _ 2 2 exP _ (ex_pos W) rfl (by decide) h0).mono ?_
  rintro e w' ⟨b, o, rfl, hsh, hbk, _, hb⟩
  obtain rfl := hs o hsh
  exact ⟨b, rfl, hbk, bt hb0 hb⟩
theorem ex_s1 : ∀ o, IsShared 45 exP o → o = [30, 15] := fun o h => by
  rcases h with ⟨h1, _⟩ | ⟨_, h1⟩
  · rw [ex_lines] at h1; exact absurd h1 (by decide)
  · rw [ex_lines] at h1; exact ex_split o h1
theorem ex_s2 : ∀ o, IsShared 200 exP o → o = [60, 30] := fun o h => by
  rcases h with ⟨_, h1⟩ | ⟨h1, _⟩
  · rw [h1, ex_lines]
  · rw [ex_lines] at h1; exact absurd h1 (by decide)
theorem lit_iA (W : World) (xs : List Int) (cs : Array Value) (n : Nat) (hc : cs = iA xs) (hn : n = xs.length) (hl : n ≤ 4096) : Ints (W.alloc (.cells cs 2)) (.slice (some ⟨W.heap.size, 0, none⟩) n n) xs := by
  subst hc
  exact (blk_new W xs).ints hn hl
theorem aw_same (b1 : Nat) (xs : List Int) (cs : Array Value) (hc : cs = iA xs) (hl : xs.length = 2) (W : World) (h : Blk W b1 xs) :
    Calls Try.prog 28 #[.slice (some ⟨b1, 0, none⟩) 2 2, .slice (some ⟨W.heap.size, 0, none⟩) 2 2] (W.alloc (.cells cs 2)) fun e w' => e = .returned (.bool true) ∧ Below W.heap.size W w' := by
  have hb0 := (Below.refl W.heap.size W).alloc (Nat.le_refl _) (.cells cs 2)
  refine (same_any _ _ xs xs _ ((h.below hb0).ints hl.symm (by decide)) (lit_iA W xs cs 2 hc hl.symm (by decide))).mono ?_
  rintro e w' ⟨rfl, m, rfl⟩
  exact ⟨by simp, below_drewN hb0 m⟩
def exF : Fi := Fi.new 100 100
theorem ex_claim : exF.claim ⟨#[97]⟩ (pEx ⟨#[97]⟩ 60) = (⟨100, 100, [⟨⟨#[97]⟩, 60, 0⟩], 0⟩, 60, 0) := by rfl
theorem ex_rec : (Fi.recover ⟨100, 100, [⟨⟨#[97]⟩, 60, 0⟩], 0⟩ 80).2 = ([⟨⟨#[97]⟩, ⟨#[]⟩, 60⟩, ⟨⟨#[]⟩, ⟨#[]⟩, 20⟩], 0) := by rfl
theorem aw_claim (W : World) (b : Nat) (v : Value) (h : IsFi W b v exF) :
    Calls Try.prog 19 #[.pointer (some ⟨b, 0, none⟩), .string ⟨#[97]⟩, .agg #[.string ⟨#[97]⟩, .string ⟨#[102]⟩, .string ⟨#[116]⟩, .int .i64 60, .int .i64 0, .slice none 0 0, .int .i64 0, .int .i64 9, .int .i64 1000]] W fun e w' => ∃ v', e = .returned (.tuple #[.int .i64 60, .int .i64 0]) ∧ IsFi w' b v' ⟨100, 100, [⟨⟨#[97]⟩, 60, 0⟩], 0⟩ ∧ Keep b v W v' w' := by
  have h1 := claim_any W b v exF ⟨#[97]⟩ (pEx ⟨#[97]⟩ 60) h (by decide) (Row.nil _ _)
  rw [ex_claim] at h1
  exact h1
theorem aw_rec (W : World) (b : Nat) (v : Value) (h : IsFi W b v ⟨100, 100, [⟨⟨#[97]⟩, 60, 0⟩], 0⟩) :
    Calls Try.prog 16 #[.pointer (some ⟨b, 0, none⟩), .int .i64 80] W fun e w' => ∃ bl off c, e = .returned (.tuple #[.slice (some ⟨bl, off, none⟩) 2 c, .int .i64 0]) ∧ w'.cell? ⟨bl, off, none⟩ = some (.string ⟨#[97]⟩) ∧ w'.cell? ⟨bl, off + 1, none⟩ = some (.string ⟨#[]⟩) ∧ w'.cell? ⟨bl, off + 2, none⟩ = some (.int .i64 60) ∧ w'.cell? ⟨bl, off + 5, none⟩ = some (.int .i64 20) ∧ Keep b v W v w' := by
  refine (recover_any W b v _ 80 h).mono ?_
  rintro e w' ⟨vg, rfl, h1, h2, h3⟩
  rw [ex_rec] at h2
  rw [ex_rec]
  obtain ⟨ao, cap, rfl, _⟩ := h2.shape
  obtain ⟨bl, off, rfl, _, hc⟩ := h2.get rfl (by decide)
  obtain ⟨c0, c1, c2⟩ := hc 0 (by decide)
  obtain ⟨d0, d1, d2⟩ := hc 1 (by decide)
  exact ⟨bl, off, cap, rfl, by simpa using c0, by simpa using c1, by simpa using c2, d2, h3⟩

set_option maxRecDepth 100000 in
set_option maxHeartbeats 8000000 in
theorem awake44_any (w : World) : Calls Try.prog 9 #[] w fun e w' => e = .returned (.bool true) ∧ Below w.heap.size w w' := by
  have HP := Lib.hid (fun i z w => policy_any i z w)
  go_enter Try.func9, Try.ntmps9
  go_wp2_with fail
  refine (HP.out _ _ _).mono ?_
  rintro e w1 ⟨rfl, hb1⟩
  have HB1 := Lib.hid hb1
  clear hb1
  go_wp2_with fail
  refine (HP.out _ _ _).mono ?_
  rintro e w2 ⟨rfl, hb2⟩
  have HB2 := Lib.hid (bt HB1.out hb2)
  clear hb2
  go_wp2_with fail
  refine (aw_share 45 [30, 15] w2 (by decide +kernel) ex_s1).mono ?_
  rintro e w3 ⟨b1, rfl, hk1, hb3⟩
  have HB3 := Lib.hid (bt HB2.out hb3)
  have HK1 := Lib.hid hk1
  clear hb3 hk1 HB1 HB2
  go_wp2_with fail
  refine (HP.out _ _ _).mono ?_
  rintro e w4 ⟨rfl, hb4⟩
  have HK1 := Lib.hid (HK1.out.below hb4)
  have HB4 := Lib.hid (bt HB3.out hb4)
  clear hb4
  go_wp2_with fail
  refine (HP.out _ _ _).mono ?_
  rintro e w5 ⟨rfl, hb5⟩
  have HK1 := Lib.hid (HK1.out.below hb5)
  have HB5 := Lib.hid (bt HB4.out hb5)
  clear hb5 HB3 HB4
  go_wp2_with fail
  refine (aw_share 200 [60, 30] w5 (by decide +kernel) ex_s2).mono ?_
  rintro e w6 ⟨b2, rfl, hk2, hb6⟩
  have HK1 := Lib.hid (HK1.out.below hb6)
  have HB6 := Lib.hid (bt HB5.out hb6)
  have HK2 := Lib.hid hk2
  clear hb6 hk2 HB5
  go_wp2_with fail
  refine (aw_same b1 [30, 15] _ rfl rfl w6 HK1.out).mono ?_
  rintro e w7 ⟨rfl, hb7⟩
  have HK2 := Lib.hid (HK2.out.below hb7)
  have HB7 := Lib.hid (bt HB6.out hb7)
  clear hb7 HB6 HK1
  go_wp2_with fail
  refine (aw_same b2 [60, 30] _ rfl rfl w7 HK2.out).mono ?_
  rintro e w8 ⟨rfl, hb8⟩
  have HB8 := Lib.hid (bt HB7.out hb8)
  clear hb8 HB7 HK2
  go_wp2_with fail
  refine (new_ok 100 100 w8 (by decide)).mono ?_
  rintro e w9 ⟨rfl, hf, hb9⟩
  have HF9 := Lib.hid (show IsFi w9 w8.heap.size (.slice none 0 0) exF from hf)
  have HB9 := Lib.hid (bt HB8.out hb9)
  have HB89 := Lib.hid hb9
  have HS8 := Lib.hid HB8.out.size
  clear hf hb9 HB8
  obtain ⟨bf, hbf⟩ : ∃ b, b = w8.heap.size := ⟨_, rfl⟩
  rw [← hbf] at HF9 HS8 ⊢
  have HBf := Lib.hid hbf
  clear hbf HB89
  go_wp2_with fail
  refine (HP.out _ _ _).mono ?_
  rintro e wa ⟨rfl, hba⟩
  have HFa := Lib.hid (HF9.out.below hba)
  have HBa := Lib.hid (bt HB9.out hba)
  have HSa := Lib.hid HBa.out.size
  clear hba HF9 HB9
  go_wp2_with fail
  refine (aw_claim wa bf _ HFa.out).mono ?_
  rintro e wb ⟨vb, rfl, hfb, hkb⟩
  have HFb := Lib.hid hfb
  have HBb := Lib.hid (HBa.out.trans (hkb.touch.below HBa.out.size (fun x hx => hx.elim (fun e => by rw [e]; exact HS8.out) (fun e => by simp [Value.ownBlock] at e))))
  have HKb := Lib.hid hkb
  clear hfb hkb HBa
  go_wp2_with fail
  refine (aw_rec wb bf vb HFb.out).mono ?_
  rintro e wc ⟨bl, off, cp, rfl, c0, c1, c2, c5, hkc⟩
  have HBc := Lib.hid (HBb.out.trans (hkc.touch.below HBb.out.size (fun x hx => hx.elim (fun e => by rw [e]; exact HS8.out) (fun e => by
    rcases HKb.out.row x e with e | e
    · simp [Value.ownBlock] at e
    · exact Nat.le_trans HSa.out e))))
  clear hkc HBb
  go_wp2
  go_ret
  exact ⟨rfl, HBc.out⟩
end Go.Proofs.Ytamfdkigokicoaa
