/-
  bay: Loads: all loads of a hold, by bay, row and tier.
-/
import Derived.Test.YtllaahdbngjigaaDoorSeq
import Derived.Test.YtllaahdbngjigaaDoorMSby
import Derived.Test.YtllaahdbngjigaaDoorUnb
import Derived.Shelf.SlSortCmp.NoneTotal
namespace Go.Proofs.YtllaahdbngjigaaDoor
open Go Go.RowKit Go.Sort Go.Maps Go.Proofs
set_option linter.unusedVariables false
set_option linter.unusedSimpArgs false

theorem values_any (w : World) (b : Nat) : Calls Tryd.prog 44 #[.map (some b)] w fun e w' =>
    e = .returned (.func (.func 73) #[] #[.pointer (some ⟨w.heap.size, 0, none⟩)]) ∧ w' = w.alloc (.cells #[.map (some b)] 75) := by
  go_enter Tryd.func44, Tryd.ntmps44
  go_wp2
  go_ret
  exact ⟨rfl, rfl⟩
def LoadsPost (w : World) (L : List Ld) (e : Ending) (w' : World) : Prop := ∃ v ls, e = .returned v ∧ Lds w' v ls ∧ ls.Perm L ∧ ls.Pairwise (fun x y => ltOf cmA y x = false) ∧ Below w.heap.size w w' ∧ Fresh w v
/-- What Collect tells. -/
def ColPost (w : World) (L : List Ld) (e : Ending) (w' : World) : Prop := ∃ (v : Value) (ls : List Ld), e = .returned v ∧ ls.Perm L ∧ w'.ownsRow w.heap.size 37 7 v ls.length (ls.flatMap Ld.cells) ∧ Below w.heap.size w w'
theorem collect_any (w : World) (Bm b : Nat) (L : List Ld) (hBm : Bm < w.heap.size) (hm : w.cell? ⟨Bm, 0, none⟩ = some (.map (some b))) (hM : MP w b (L.map keyS)) (hl : L.length ≤ 20) :
    Calls Tryd.prog 71 #[.func (.func 73) #[] #[.pointer (some ⟨Bm, 0, none⟩)]] w (ColPost w L) := by
  obtain ⟨es, c, h1, h2, h3⟩ := hM
  have hL : es.toList.map (·.val) = L.map Ld.val := by
    have := congrArg (List.map Prod.snd) h3
    simpa [List.map_map, Function.comp_def, keyS] using this
  have hsz : es.size ≤ 100 := by
    have := congrArg List.length h3
    simp at this; omega
  refine (callsIn_wide (n := 3)).1 ((collect_in Fence.wide 3 trivial trivial rfl (by decide) _ _ trivial (enters_of Tryd.func73 (by kernel_rfl) rfl) (fun xs => xs.Perm L) es.size hsz w
    (vals_gives Fence.wide (3 - 1 - 1) trivial rfl (by decide) Bm b es c L w hBm hm ⟨h1, h2⟩ hL)).mono ?_)
  rintro e w' ⟨v, ss, rfl, hS, hrow, hb⟩
  exact ⟨v, ss, rfl, hS, hrow, hb⟩
theorem sortN (w : World) : Calls Tryd.prog 72 #[.slice none 0 0, .func (.func 45) #[] #[]] w fun e w' => e = .returned (.tuple #[]) ∧ w' = w :=
  AnyF.slices_SortFunc_none (P := Tryd.prog) (ρ := sortRen) { sortLays with } none 0 _ w
/-- One sort, of a row of one's own. -/
def SfPost (w : World) (g n cap : Nat) (l : List Ld) (e : Ending) (w' : World) : Prop :=
  e = .returned (.tuple #[]) ∧ ∃ ls : List Ld, Lds w' (.slice (some ⟨g, 0, none⟩) n cap) ls ∧ ls.Perm l ∧ ls.Pairwise (fun x y => ltOf cmA y x = false) ∧ Touch (fun k => k = g) w w'
theorem sortF2 (w : World) (base n g cap : Nat) (l : List Ld) (h : w.ownsRow base 37 7 (.slice (some ⟨g, 0, none⟩) n cap) n (l.flatMap Ld.cells)) (hn : n = l.length) (hg : g < w.heap.size) (h1 : n ≤ cap) (h2 : cap ≤ maxLen) (hl : n ≤ 100) :
    Calls Tryd.prog 72 #[.slice (some ⟨g, 0, none⟩) n cap, .func (.func 45) #[] #[]] w (SfPost w g n cap l) := by
  have hH := own_holdsK h hn
  subst hn
  have hs : l.toArray.size = l.length := by simp
  refine (sortF_any g 0 cap l.toArray w hH hg (by rw [hs]; omega)).mono ?_
  rintro e w' ⟨rfl, d', n, os, hp, hsd, rfl⟩
  rw [hs] at hp hsd
  have hd := hp.1.trans hs
  refine ⟨rfl, d'.toList, holdsK_lds (sortW_holds hH hg hp.1) (by omega) h2 _ hd.symm, permIn_all hp hs, sorted_list hd (fun i j hij hj => hsd i j (Nat.zero_le _) hij hj), sortW_touch _ _ _ _ _ _⟩
set_option maxHeartbeats 2000000 in
theorem sorted_any (w : World) (Bm b : Nat) (L : List Ld) (hBm : Bm < w.heap.size) (hm : w.cell? ⟨Bm, 0, none⟩ = some (.map (some b))) (hM : MP w b (L.map keyS)) (hl : L.length ≤ 20) :
    Calls Tryd.prog 43 #[.func (.func 73) #[] #[.pointer (some ⟨Bm, 0, none⟩)], .func (.func 45) #[] #[]] w (LoadsPost w L) := by
  have HC := Lib.hid (collect_any w Bm b L hBm hm hM hl)
  have HL := Lib.hid hl
  clear hBm hm hM hl
  go_enter Tryd.func43, Tryd.ntmps43
  go_wp2_with fail
  refine HC.out.mono ?_
  rintro e w1 ⟨v, ls, rfl, hp, hown, hb⟩
  have HB := Lib.hid (And.intro hb hp)
  clear hb hp HC
  have hlen : ls.length ≤ 20 := by rw [HB.out.2.length_eq]; exact HL.out
  obtain ⟨n, hn⟩ : ∃ n, n = ls.length := ⟨_, rfl⟩
  rw [← hn] at hown hlen
  rcases own_slice hown with ⟨rfl, h0⟩ | ⟨g, cap2, rfl, h1, h2, h3, h4⟩
  · have HS := Lib.hid (sortN w1)
    have HE := Lib.hid (show ls = [] from List.eq_nil_of_length_eq_zero (by omega))
    clear hown h0 hn
    go_wp2_with fail
    refine HS.out.mono ?_
    rintro e w2 ⟨rfl, rfl⟩
    go_wp2
    go_ret
    exact ⟨_, [], rfl, Row.nil _ _, by have := HB.out.2; rw [HE.out] at this; exact this, by simp, HB.out.1, fresh_nil _⟩
  · have HS := Lib.hid (sortF2 w1 _ n g cap2 ls hown hn h2 h3 h4 (by omega))
    have HG := Lib.hid h1
    clear hown h1 h2 h3 h4 hn
    go_wp2_with fail
    refine HS.out.mono ?_
    rintro e w2 ⟨rfl, l2, k1, k2, k3, k4⟩
    have HK := Lib.hid (And.intro k1 (And.intro k2 (And.intro k3 k4)))
    clear k1 k2 k3 k4 HS
    go_wp2
    go_ret
    obtain ⟨k1, k2, k3, k4⟩ := HK.out
    exact ⟨_, l2, rfl, k1, k2.trans HB.out.2, k3, HB.out.1.trans (k4.below HB.out.1.size (fun x hx => hx ▸ HG.out)), fresh_at _ _ _ _ HG.out⟩
set_option maxHeartbeats 2000000 in
theorem loads_any (w : World) (bh bs bn : Nat) (s : Shp) (L : List Ld) (h : HoldIs w bh bs bn s L) (hl : L.length ≤ 20) :
    Calls Tryd.prog 12 #[.pointer (some ⟨bh, 0, none⟩)] w (LoadsPost w L) := by
  have c9 := h.c9
  have hb1 := (Below.refl w.heap.size w).alloc (Nat.le_refl _) (.cells #[.map (some bs)] 75)
  have HV := Lib.hid (values_any w bs)
  have HS := Lib.hid (sorted_any (w.alloc (.cells #[.map (some bs)] 75)) w.heap.size bs L (by simp) (new_cell _ _ _ rfl) (h.ms.below hb1) hl)
  have HB := Lib.hid hb1
  clear h hl hb1
  go_enter Tryd.func12, Tryd.ntmps12
  go_wp2_with fail
  refine HV.out.mono ?_
  rintro e w1 ⟨rfl, rfl⟩
  go_wp2_with fail
  refine HS.out.mono ?_
  rintro e w2 ⟨v, ls, rfl, k1, k2, k3, k4, k5⟩
  have HK := Lib.hid (And.intro k1 (And.intro k2 (And.intro k3 (And.intro k4 k5))))
  clear k1 k2 k3 k4 k5 HS HV
  go_wp2
  go_ret
  obtain ⟨k1, k2, k3, k4, k5⟩ := HK.out
  exact ⟨_, ls, rfl, k1, k2, k3, btw HB.out k4, fun a m cap h => Nat.le_trans HB.out.size (k5 a m cap h)⟩
end Go.Proofs.YtllaahdbngjigaaDoor
