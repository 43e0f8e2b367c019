/-
  Custody: New, Begin, Hand, History.
-/
import Derived.Test.YtofkeipfkglljaaDoorCusA
namespace Go.Proofs.YtofkeipfkglljaaDoor
open Go Go.RowKit
set_option linter.unusedVariables false
set_option linter.unusedSimpArgs false

theorem cus_new (w : World) :
    Calls Tryd.prog 5 #[] w fun e w' => e = .returned (.pointer (some ⟨w.heap.size + 1, 0, none⟩)) ∧ BM0 w' w.heap.size ∧ w'.heap[w.heap.size + 1]? = some (.cells #[.map (some w.heap.size)] 52 (0, 0)) ∧ Below w.heap.size w w' := by
  have hmm := @run_makeMap Tryd.prog 50
  have h1 := heap_alloc_new w (.map #[] 0)
  have h2 := heap_alloc_new (w.alloc (.map #[] 0)) (.cells #[.map (some w.heap.size)] 52)
  have hs : (w.alloc (.map #[] 0)).heap.size = w.heap.size + 1 := by simp
  rw [hs] at h2
  have b1 := (Below.refl w.heap.size w).alloc (Nat.le_refl _) (.map #[] 0)
  have b2 := b1.alloc b1.size (.cells #[.map (some w.heap.size)] 52)
  have b3 := (Below.refl (w.alloc (.map #[] 0)).heap.size (w.alloc (.map #[] 0))).alloc (Nat.le_refl _) (.cells #[.map (some w.heap.size)] 52)
  have H := Lib.hid (And.intro (show BM0 ((w.alloc (.map #[] 0)).alloc (.cells #[.map (some w.heap.size)] 52)) w.heap.size from (b3.block w.heap.size (by rw [hs]; omega)).trans h1) (And.intro h2 b2))
  clear h1 h2 hs b1 b2 b3
  go_enter Tryd.func5, Tryd.ntmps5
  go_wp2
  go_ret
  exact ⟨rfl, H.out.1, H.out.2.1, H.out.2.2⟩

theorem txs_lit (w : World) (ss : List ByteArray) (n b : Nat) (hn : n = ss.length) (hb : b = w.heap.size) (hl : n ≤ 4) : Txs (w.alloc (.cells (ss.map Value.string).toArray 9)) (.slice (some ⟨b, 0, none⟩) n n) ss := by
  subst hn hb
  refine ⟨by simp, some ⟨w.heap.size, 0, none⟩, ss.length, rfl, Nat.le_refl _, by unfold maxLen; omega, (fun h => by cases h), fun a ha j u hu => ?_⟩
  cases ha
  exact new_cells w _ _ j u (by simpa using hu)

theorem bq' {W w w' : World} (h1 : Below W.heap.size W w) (h2 : Below w.heap.size w w') : Below W.heap.size W w' := h1.trans (h2.mono h1.size)
theorem own_litk5 (w : World) (cs : Array Value) (e : Nat) (h : cs.size = 5) : (w.alloc (.cells cs e)).ownsRow 0 e 5 (.slice (some ⟨w.heap.size, 0, none⟩) 1 1) 1 cs.toList := by
  refine ⟨by simp [h], .inr ⟨w.heap.size, 1, cs, rfl, Nat.zero_le _, heap_alloc_new _ _, Nat.le_refl _, by unfold maxLen; omega, h, ?_⟩⟩
  rw [List.take_of_length_le (by simp [h])]
/-- The first hand. -/
def hand0 : Hand := ⟨⟨#[98, 111, 120]⟩, ⟨#[]⟩, ⟨#[115]⟩, ⟨#[114, 105, 103, 97]⟩, 0⟩
set_option maxRecDepth 20000 in
set_option maxHeartbeats 2000000 in
theorem begin_ok (w : World) (bc bm : Nat) (hc : w.heap[bc]? = some (.cells #[.map (some bm)] 52 (0, 0))) (hm : BM0 w bm) :
    Calls Tryd.prog 6 #[.pointer (some ⟨bc, 0, none⟩), .string ⟨#[98, 111, 120]⟩, .string ⟨#[115]⟩, .string ⟨#[114, 105, 103, 97]⟩, .int .i64 0] w fun e w' => ∃ v, e = .returned (.int .i64 0) ∧ CH w' bc bm v [hand0] ∧ Touch (fun k => k = bm) w w' ∧ (∀ k, v.ownBlock = some k → w.heap.size ≤ k) := by
  have b1 := (Below.refl w.heap.size w).alloc (Nat.le_refl _) (.cells #[.string ⟨#[98, 111, 120]⟩, .string ⟨#[115]⟩, .string ⟨#[114, 105, 103, 97]⟩] 9)
  have HNm := Lib.hid (names_ok _ 3 3 [⟨#[98, 111, 120]⟩, ⟨#[115]⟩, ⟨#[114, 105, 103, 97]⟩] _ (show Txs (w.alloc (.cells #[.string ⟨#[98, 111, 120]⟩, .string ⟨#[115]⟩, .string ⟨#[114, 105, 103, 97]⟩] 9)) (.slice (some ⟨w.heap.size, 0, none⟩) 3 3) [⟨#[98, 111, 120]⟩, ⟨#[115]⟩, ⟨#[114, 105, 103, 97]⟩] from txs_lit w [⟨#[98, 111, 120]⟩, ⟨#[115]⟩, ⟨#[114, 105, 103, 97]⟩] 3 w.heap.size rfl rfl (by omega)) rfl (by omega) (by intro s hs; simp at hs; rcases hs with rfl | rfl | rfl <;> decide))
  have HDy := Lib.hid (fun w => isday_ok 0 (by omega) (by omega) w)
  have HM1 := Lib.hid (hm.touch (Touch.of_below (S := fun _ => False) b1) id)
  have hcl := lt_of_block hc
  have hml := lt_of_block hm
  have HC1 := Lib.hid ((b1.block bc hcl).trans hc)
  have HNe := Lib.hid (show bc ≠ bm from fun e => by rw [e, show w.heap[bm]? = _ from hm] at hc; cases hc)
  have HLt := Lib.hid (And.intro hcl hml)
  have HB1 := Lib.hid b1
  have c0 : (w.alloc (.cells #[.string ⟨#[98, 111, 120]⟩, .string ⟨#[115]⟩, .string ⟨#[114, 105, 103, 97]⟩] 9)).cell? ⟨bc, 0, none⟩ = some (.map (some bm)) := by
    have := HC1.out
    simp [World.cell?, this]
  have hlk := HM1.out.look
  have hln := HM1.out.len
  have HS1 := Lib.hid (show (w.alloc (.cells #[.string ⟨#[98, 111, 120]⟩, .string ⟨#[115]⟩, .string ⟨#[114, 105, 103, 97]⟩] 9)).heap.size = w.heap.size + 1 by simp)
  clear hc hm b1 hcl hml
  go_enter Tryd.func6, Tryd.ntmps6
  go_wp2_with fail
  refine HNm.out.mono ?_
  rintro e w1 ⟨rfl, rfl⟩
  go_wp2_with fail
  refine (HDy.out _).mono ?_
  rintro e w1 ⟨rfl, rfl⟩
  clear HNm HDy
  generalize w.alloc (.cells #[.string ⟨#[98, 111, 120]⟩, .string ⟨#[115]⟩, .string ⟨#[114, 105, 103, 97]⟩] 9) = wa at *
  have HL1 := Lib.hid (And.intro (show bc < wa.heap.size by have := HLt.out.1; have := HS1.out; omega) (show bm < wa.heap.size by have := HLt.out.2; have := HS1.out; omega))
  have b2 := (Below.refl wa.heap.size wa).alloc (Nat.le_refl _) (.cells #[.string ⟨#[98, 111, 120]⟩, .string ⟨#[]⟩, .string ⟨#[115]⟩, .string ⟨#[114, 105, 103, 97]⟩, .int .i64 0] 35)
  have HO := Lib.hid (own_litk5 wa #[.string ⟨#[98, 111, 120]⟩, .string ⟨#[]⟩, .string ⟨#[115]⟩, .string ⟨#[114, 105, 103, 97]⟩, .int .i64 0] 35 rfl)
  obtain ⟨w5, hup, hm5, ht5⟩ := (HM1.out.touch (Touch.of_below (S := fun _ => False) b2) id).put (.slice (some ⟨wa.heap.size, 0, none⟩) 1 1)
  have HT5 := Lib.hid (((Touch.refl (fun k => k = bm) w).mono (fun _ h => h)).trans (S' := fun k => k = bm) ((Touch.of_below (S := fun k => k = bm) (bq' HB1.out b2)).trans ht5 (fun x hx => .inl hx)) (fun x hx => .inl hx))
  have HX := Lib.hid (show CH w5 bc bm (.slice (some ⟨wa.heap.size, 0, none⟩) 1 1) [hand0] from
    ⟨(ht5.block bc (by have := HL1.out.1; simp; omega) (fun e => HNe.out e)).trans ((b2.block bc HL1.out.1).trans HC1.out), hm5, own_touch HO.out ht5 (fun k hk e => by
      have h2 : some wa.heap.size = some k := hk
      injection h2 with h2
      have h3 : k = bm := e
      have := HL1.out.2; omega), (fun e => by
      have h2 : some wa.heap.size = some bc := e
      injection h2 with h2
      have := HL1.out.1; omega), (fun e => by
      have h2 : some wa.heap.size = some bm := e
      injection h2 with h2
      have := HL1.out.2; omega), HNe.out⟩)
  have HFr := Lib.hid (show w.heap.size ≤ wa.heap.size by have := HS1.out; omega)
  have heq0 : (binOp BinOp.eql 50 (.map (some bm)) (.map none)).run Tryd.prog wa = .ok (.bool false) wa := by kernel_rfl
  clear b2 hm5 ht5 HO HM1 HC1
  go_wp2
  go_ret
  refine ⟨_, rfl, HX.out, HT5.out, fun k hk => ?_⟩
  have h2 : some wa.heap.size = some k := hk
  injection h2 with h2
  have := HFr.out; omega
end Go.Proofs.YtofkeipfkglljaaDoor
