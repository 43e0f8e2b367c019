/-
  Custody: History.
-/
import Derived.Test.YtofkeipfkglljaaDoorCusC
namespace Go.Proofs.YtofkeipfkglljaaDoor
open Go Go.RowKit
set_option linter.unusedVariables false
set_option linter.unusedSimpArgs false

theorem lit05 (W : World) (e : TypeId) (n : Nat) (h : n = W.heap.size) : (W.alloc (.cells #[] e)).ownsRow 0 e 5 (.slice (some ⟨n, 0, none⟩) 0 0) 0 [] := by
  subst h
  refine ⟨by simp, .inr ⟨W.heap.size, 0, #[], rfl, Nat.zero_le _, heap_alloc_new _ _, Nat.le_refl _, by unfold maxLen; omega, by simp, by simp⟩⟩

set_option maxRecDepth 20000 in
set_option maxHeartbeats 2000000 in
theorem clone_ok (w : World) (v : Value) (hs : List Hand) (h : Hands w v hs) (hp : 0 < hs.length) (hl : hs.length ≤ 100) :
    Calls Tryd.prog 16 #[v] w fun e w' => ∃ v', e = .returned v' ∧ Hands w' v' hs ∧ Below w.heap.size w w' := by
  obtain ⟨bk, off, cap, rfl, k1, k2, k3, k4⟩ := h.at hp
  obtain ⟨n, HN⟩ : ∃ n, Hid (n = hs.length) := ⟨_, Lib.hid rfl⟩
  rw [← HN.out] at k1 hl hp h ⊢
  have hA := (Below.refl w.heap.size w).alloc (Nat.le_refl _) (.cells #[] 35)
  have HO := Lib.hid (lit05 w 35 _ rfl)
  have HR := Lib.hid (show Row (w.alloc (.cells #[] 35)) (.slice (some ⟨bk, off, none⟩) n cap) 5 n (hs.flatMap Hand.cells) from by rw [HN.out] at h ⊢; exact Row.below h hA)
  have HA := Lib.hid hA
  have L1 : 0 + n ≤ maxLen := by unfold maxLen; omega
  have L2 : (0 + n) * 72 ≤ 140737488355328 := by omega
  have Z5 : 0 < 5 := by decide
  obtain ⟨i0, hi0, hz0, hz1, hz2⟩ := info_parts Tryd.infoHa
  have H1 := Lib.hid (show ∀ u ∈ hs.flatMap Hand.cells, u.oneCell' = true from fun u hu => by
    obtain ⟨a, _, ha⟩ := List.mem_flatMap.1 hu
    exact Hand.one a u ha)
  have heq0 : (binOp BinOp.eql 36 (.slice (some ⟨bk, off, none⟩) n cap) (.slice none 0 0)).run Tryd.prog w = .ok (.bool false) w := by kernel_rfl
  clear hA h k4
  go_enter Tryd.func16, Tryd.ntmps16
  go_wp2_with (at_builtin; refine wpList_row (by rfl) (.tmp 5) (.tmp 6) 36 (by rfl) 35 i0 _ 5 72 Tryd.underlying36 hi0 hz0 hz1 hz2 rfl Z5 (.slice (some ⟨w.heap.size, 0, none⟩) 0 0) 0 [] (by rfl) HO.out (some ⟨bk, off, none⟩) n cap (hs.flatMap Hand.cells) (by rfl) HR.out H1.out L1 L2 ?_)
  intro v1 w1 hown1 ht1 hn1
  have H5 := Lib.hid (And.intro hown1 (And.intro ht1 hn1))
  obtain ⟨ao1, cap1, rfl⟩ := own_shape hown1
  clear hown1 ht1 hn1
  go_wp2
  go_ret
  obtain ⟨hown1, ht1, hn1⟩ := H5.out
  refine ⟨_, rfl, ?_, ?_⟩
  · have := Row.of_own hown1
    unfold Hands
    rw [← HN.out]
    first | exact this | (simp only [Nat.zero_add] at this; exact this)
  · exact HA.out.trans (ht1.below HA.out.size (fun x hx => by
      have h2 : some w.heap.size = some x := hx
      injection h2 with h2
      omega))

theorem history_ok (w : World) (bc bm : Nat) (v : Value) (hs : List Hand) (h : CH w bc bm v hs) (hp : 0 < hs.length) (hl : hs.length ≤ 100) :
    Calls Tryd.prog 8 #[.pointer (some ⟨bc, 0, none⟩), .string ⟨#[98, 111, 120]⟩] w fun e w' => ∃ v', e = .returned v' ∧ Hands w' v' hs ∧ Below w.heap.size w w' := by
  have e0 : w.cell? ⟨bc, 0, none⟩ = some (.map (some bm)) := by
    have := h.hc
    simp [World.cell?, this]
  have hlk := (show BM w bm _ from h.hm).look false
  have HC := Lib.hid (fun w => clone_ok w v hs)
  have HH := Lib.hid h.hands
  obtain ⟨bk, off, cap, rfl, _⟩ := h.hands.at hp
  clear h
  go_enter Tryd.func8, Tryd.ntmps8
  go_wp2_with fail
  refine (HC.out w HH.out hp hl).mono ?_
  rintro e w1 ⟨v1, rfl, h1, h2⟩
  go_wp2
  go_ret
  exact ⟨_, rfl, h1, h2⟩
end Go.Proofs.YtofkeipfkglljaaDoor
