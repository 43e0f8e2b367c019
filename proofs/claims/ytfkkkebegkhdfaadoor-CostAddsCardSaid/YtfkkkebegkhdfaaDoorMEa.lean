/-
  Each; the document's; the example. (Put together of XEach, XREach, XCAw.)
-/
import Derived.Test.YtfkkkebegkhdfaaDoorMLd
import Derived.Test.YtfkkkebegkhdfaaDoorEven
import Derived.Deep.RegionLaw
import Derived.Test.YtfkkkebegkhdfaaDoorRefSplit
import Derived.OwnWalk
import Derived.Test.YtfkkkebegkhdfaaDoorShare
namespace Go.Proofs.YtfkkkebegkhdfaaDoor
open Go Go.RowKit
set_option linter.unusedVariables false
set_option linter.unusedSimpArgs false

/-- By what the buyer's costs are shared: by the lines' worth; or by their counts, if nothing is worth anything. -/
def wgtI (l : List Li) : List Int := if totL l = 0 then cntL l else worthL l
def wgtN (l : List Li) : List Nat := (wgtI l).map Int.toNat
theorem wgt_len (l : List Li) : (wgtI l).length = l.length := by unfold wgtI; split <;> simp [cntL, worthL]
theorem wgtN_len (l : List Li) : (wgtN l).length = l.length := by simp [wgtN, wgt_len]
theorem ints_le : ∀ {W : List Int}, (∀ z ∈ W, 0 ≤ z) → ∀ z ∈ W, z ≤ W.sum
  | [], _, z, hz => by cases hz
  | x :: W, h, z, hz => by
    have h0 := h x (by simp)
    have h1 : 0 ≤ W.sum := by
      have : ∀ (W : List Int), (∀ z ∈ W, 0 ≤ z) → 0 ≤ W.sum := by
        intro W
        induction W with
        | nil => intro _; simp
        | cons y W ih => intro hy; have := hy y (by simp); have := ih (fun u hu => hy u (by simp [hu])); rw [List.sum_cons]; omega
      exact this W (fun u hu => h u (by simp [hu]))
    rw [List.sum_cons]
    rcases List.mem_cons.1 hz with e | hz
    · subst e; omega
    · have := ints_le (W := W) (fun u hu => h u (by simp [hu])) z hz; omega
theorem wgt_bd {l : List Li} (h : linesB l = true) (ht : totL l ≤ 1099511627776) : ∀ z ∈ wgtI l, 0 ≤ z ∧ z ≤ 1099511627776 := by
  intro z hz
  unfold wgtI at hz
  split at hz
  · obtain ⟨x, hx, rfl⟩ := List.mem_map.1 hz
    have := line_nums h hx
    omega
  · have h1 := worth_each h z hz
    have h2 := ints_le (fun u hu => (worth_each h u hu).1) z hz
    have h3 : (worthL l).sum = totL l := rfl
    omega
theorem wgt_nat {l : List Li} (h : linesB l = true) (ht : totL l ≤ 1099511627776) : natI (wgtN l) = wgtI l := by
  unfold natI wgtN
  rw [List.map_map]
  have : ∀ (W : List Int), (∀ z ∈ W, 0 ≤ z) → W.map ((fun x : Nat => (x : Int)) ∘ Int.toNat) = W := by
    intro W
    induction W with
    | nil => intro _; rfl
    | cons y W ih => intro hy; rw [List.map_cons, ih (fun u hu => hy u (by simp [hu]))]; congr 1; have := hy y (by simp); show ((y.toNat : Nat) : Int) = y; omega
  exact this _ (fun z hz => (wgt_bd h ht z hz).1)
theorem wgt_pos {l : List Li} (h : linesB l = true) (h1 : 1 ≤ l.length) : ∃ z ∈ wgtI l, 0 < z := by
  unfold wgtI
  split
  · have hm : l[0] ∈ l := List.getElem_mem (by omega)
    have := line_nums h hm
    exact ⟨l[0].s, List.mem_map.2 ⟨l[0], hm, rfl⟩, by omega⟩
  · rename_i hne
    by_cases hx : ∃ z ∈ worthL l, 0 < z
    · exact hx
    · exfalso
      apply hne
      have hz : ∀ z ∈ worthL l, z = 0 := fun z hz => by
        have h1 := (worth_each h z hz).1
        have h2 : ¬ 0 < z := fun h0 => hx ⟨z, hz, h0⟩
        omega
      have : ∀ (W : List Int), (∀ z ∈ W, z = 0) → W.sum = 0 := by
        intro W
        induction W with
        | nil => intro _; rfl
        | cons y W ih => intro hy; rw [List.sum_cons, hy y (by simp), ih (fun u hu => hy u (by simp [hu]))]; rfl
      exact this _ hz
theorem wgt_sum {l : List Li} (h : linesB l = true) (h1 : 1 ≤ l.length) (ht : totL l ≤ 1099511627776) : 0 < (wgtN l).sum := by
  obtain ⟨z, hz, hp⟩ := wgt_pos h h1
  have hm : z.toNat ∈ wgtN l := List.mem_map.2 ⟨z, hz, rfl⟩
  have : ∀ (W : List Nat) (x : Nat), x ∈ W → x ≤ W.sum := by
    intro W
    induction W with
    | nil => intro x hx; cases hx
    | cons y W ih =>
      intro x hx
      rw [List.sum_cons]
      rcases List.mem_cons.1 hx with e | hx
      · omega
      · have := ih x hx; omega
  have := this _ _ hm
  omega
theorem wgt_wrong {l : List Li} {T : Nat} (h : linesB l = true) (h1 : 1 ≤ l.length) (h64 : l.length ≤ 64) (ht : totL l ≤ 1099511627776) (hT : T ≤ 1099511627776) : wrongN (T : Int) (wgtI l) = 0 := by
  have hb := wgt_bd h ht
  obtain ⟨z0, hz0, hp0⟩ := wgt_pos h h1
  unfold wrongN
  have hl := wgt_len l
  rw [if_neg, if_neg, if_neg]
  · rintro ⟨h2, h3⟩
    rw [List.any_eq_false] at h3
    exact h3 z0 hz0 (by simp [is_pos]; omega)
  · rintro (h2 | h2 | h2)
    · omega
    · omega
    · obtain ⟨z, hz, hp⟩ := List.any_eq_true.1 h2
      have := hb z hz
      simp [is_over] at hp
      omega
  · rintro (h2 | h2 | h2)
    · omega
    · rw [h2] at hl; simp at hl; omega
    · obtain ⟨z, hz, hp⟩ := List.any_eq_true.1 h2
      have := hb z hz
      simp [is_neg] at hp
      omega

/-- Each line's part. -/
def eachL (l : List Li) (out : List Nat) : List Int := (List.range l.length).map fun i => ((out.getD i 0 : Nat) : Int) + (worthL l).getD i 0
theorem each_len (l : List Li) (out : List Nat) : (eachL l out).length = l.length := by simp [eachL]
theorem each_get {l : List Li} {out : List Nat} {i : Nat} (h : i < l.length) : (eachL l out).getD i 0 = ((out.getD i 0 : Nat) : Int) + (worthL l).getD i 0 := by
  simp [eachL, List.getD_eq_getElem?_getD, h]

theorem Blk.other {w : World} {b b' k : Nat} {xs : List Int} {v : Value} (h : Blk w b xs) (hn : b ≠ b') : Blk (w.setCell ⟨b', k, none⟩ v) b xs := (Below.heap_setCell _ _ _ _ hn).trans h

def EachP (P : Int × Int × Int) (ls : List Li) (w : World) (e : Ending) (w' : World) : Prop :=
  ((P.2.2 ≠ 0 ∧ e = .returned (.tuple #[.slice none 0 0, .int .i64 P.2.2])) ∨
    (P.2.2 = 0 ∧ ∃ b out, e = .returned (.tuple #[.slice (some ⟨b, 0, none⟩) ls.length ls.length, .int .i64 0]) ∧ IsSplit P.2.1.toNat (wgtN ls) out ∧ Blk w' b (eachL ls out) ∧ w.heap.size ≤ b)) ∧ Below w.heap.size w w'

set_option maxRecDepth 100000 in
set_option maxHeartbeats 16000000 in
theorem each_any (o : Od) (ao : Option Addr) (n cap : Nat) (l : List Co) (w : World) (h : OdOk w o) (hc : Cos w (.slice ao n cap) l) (hn : n = l.length) (hcap : n ≤ 4096) (hw : Terms w) :
    Calls Tryd.prog 17 #[o.val, .slice ao n cap] w (EachP (partsN o l) o.l w) := by
  have hba := (Below.refl w.heap.size w).alloc (Nat.le_refl _) (.cells o.cells.toArray 33)
  have HP := Lib.hid (parts_any o ao n cap l _ (h.below hba) (Row.below hc hba) hn hcap (hw.below hba))
  have HB := Lib.hid hba
  have HL := Lib.hid (h.row.below hba)
  have HBd := Lib.hid (fun e => parts_bd o l e)
  have HAp := Lib.hid (fun (e : o.may = true) => may_apart e)
  generalize partsN o l = P at *
  obtain ⟨T, S, E⟩ := P
  clear hba hc hn hcap hw
  obtain ⟨on, os, ob, oc, of, ot, term, lo, m, lcap, ls, e, hm, hc1, hc2⟩ := Od.apart h
  clear h
  subst e
  unfold Od.val Od.cells at HP
  unfold Od.cells at HB HL
  unfold Od.val Od.cells
  dsimp only at HP HB HL HBd HAp ⊢
  by_cases g : E = 0
  · subst g
    obtain ⟨hmay, -, hpe, ht0, hs0, hts⟩ := HBd.out rfl
    obtain ⟨-, hli, -, -, -, -, h1, h64⟩ := HAp.out hmay

    have hT : T = totL ls := congrArg (fun x => x.1) hpe
    have hS : S = _ := congrArg (fun x => x.2.1) hpe
    dsimp only at hS
    rw [← hS] at hs0 hts
    obtain ⟨Sn, hSn⟩ := Int.eq_ofNat_of_zero_le hs0
    clear hpe hmay hS HBd HAp
    subst hSn
    have ht1 : totL ls ≤ 1099511627776 := by omega
    have hwr := wgt_wrong (l := ls) (T := Sn) hli h1 h64 ht1 (by omega)
    rw [← wgt_nat hli ht1] at hwr
    have HSp := Lib.hid (fun W v hi => split_any Sn v (wgtN ls) W hi hwr)
    have HWn := Lib.hid (wgt_nat hli ht1)
    have HWv := Lib.hid (show wgtI ls = if totL ls = 0 then cntL ls else worthL ls from rfl)
    have HLw := Lib.hid (wgt_len ls)
    have HLw2 := Lib.hid (worth_len ls)
    have HLn := Lib.hid (wgtN_len ls)
    have HNu := Lib.hid (fun k (hk : k < ls.length) => line_nums hli (x := ls.getD k default) (by rw [List.getD_eq_getElem?_getD, List.getElem?_eq_getElem hk]; exact List.getElem_mem hk))
    have HWb := Lib.hid (show ∀ z ∈ worthL ls, 0 ≤ z ∧ z ≤ 1099511627776 from fun z hz => by
      have h1 := worth_each hli z hz
      have h2 := ints_le (fun u hu => (worth_each hli u hu).1) z hz
      have h3 : (worthL ls).sum = totL ls := rfl
      omega)
    have HSle := Lib.hid (show ∀ out i, IsSplit Sn (wgtN ls) out → out.getD i 0 ≤ 1099511627776 from fun out i hs => Nat.le_trans (split_le hs (fun _ => wgt_sum hli h1 ht1) i) (by omega))
    have hm64 : m ≤ 64 := by omega
    have hm1 : 1 ≤ m := by omega
    have HM := Lib.hid hm
    have HTv := Lib.hid hT
    have MK : ∀ w, (Instr.makeSlice 37 (.int .i64 (m : Int)) (.int .i64 (m : Int))).run Tryd.prog w = .ok (.slice (some ⟨w.heap.size, 0, none⟩) m m) (w.alloc (.cells (iA (List.replicate m 0)) 2)) := fun w => by
      rw [← zeros_nums, ← made_nums]; exact run_make_row' _ _ _ 8 Tryd.underlying37 Tryd.infoI64 rfl _ _ m (by omega) (by omega) w
    have HMK := Lib.hid MK
    clear ht0 hs0 hts hli h1 h64 ht1 hwr hm hT MK hc1 hc2
    go_enter Tryd.func17, Tryd.ntmps17
    go_wp2_with fail
    refine HP.out.mono ?_
    rintro e w1 ⟨rfl, hb1⟩
    have HB1 := Lib.hid (bt HB.out hb1)
    have p7 := box_at0 (j := 7) (v := .slice lo m lcap) hb1 rfl
    have H1 := Lib.hid (HL.out.below hb1)
    have hx1 := (Below.refl w1.heap.size w1).alloc (Nat.le_refl _) (.cells (iA (List.replicate m 0)) 2)
    have p7b := cell_later hx1 p7
    have hs1 : (w1.alloc (.cells (iA (List.replicate m 0)) 2)).heap.size = w1.heap.size + 1 := by simp
    have hx2 := (Below.refl (w1.heap.size + 1) (w1.alloc (.cells (iA (List.replicate m 0)) 2))).alloc (by rw [hs1]; exact Nat.le_refl _) (.cells (iA (List.replicate m 0)) 2)
    have p7c : ((w1.alloc (.cells (iA (List.replicate m 0)) 2)).alloc (.cells (iA (List.replicate m 0)) 2)).cell? ⟨w.heap.size, 7, none⟩ = some (.slice lo m lcap) := by
      have hlt := World.block_lt_of_cell? _ _ p7b
      have := hx2.cell (p := ⟨w.heap.size, 7, none⟩) (by rw [hs1] at hlt; exact hlt)
      rw [this]; exact p7b
    have HK1 := Lib.hid ((hx2.block w1.heap.size (by omega)).trans (blk_new w1 (List.replicate m 0)))
    have HK2 := Lib.hid (show Blk ((w1.alloc (.cells (iA (List.replicate m 0)) 2)).alloc (.cells (iA (List.replicate m 0)) 2)) (w1.heap.size + 1) (List.replicate m 0) from by
      have := blk_new (w1.alloc (.cells (iA (List.replicate m 0)) 2)) (List.replicate m 0)
      rw [hs1] at this; exact this)
    have HX2 := Lib.hid (hx1.trans (hx2.mono (by omega)))
    have MK := HMK.out
    clear hb1 hx1 hx2 hs1 HP
    go_wp2_with fail
    generalize (w1.alloc (.cells (iA (List.replicate m 0)) 2)).alloc (.cells (iA (List.replicate m 0)) 2) = w2 at *
    have HB2 := Lib.hid (bt HB1.out HX2.out)
    have H2 := Lib.hid (H1.out.below HX2.out)
    obtain ⟨bw, hbw⟩ : ∃ b, b = w1.heap.size := ⟨_, rfl⟩
    obtain ⟨bt', hbt⟩ : ∃ b, b = w1.heap.size + 1 := ⟨_, rfl⟩
    rw [← hbt] at HK2
    rw [← hbw] at HK1
    rw [← hbt, ← hbw]
    have n1 : bw ≠ bt' := by omega
    have n2 : bt' ≠ bw := by omega
    have HLo := Lib.hid (show w1.heap.size ≤ bw ∧ w1.heap.size ≤ bt' by omega)
    clear hbw hbt MK p7 p7b
    go_loopw [36] (fun i wr => ∃ k : Nat, k ≤ m ∧ i = .int .i64 (k : Int) ∧ Hid (Blk wr bw (mixL (worthL ls) (List.replicate m 0) k)) ∧ Hid (Blk wr bt' (mixL (wgtI ls) (List.replicate m 0) k)) ∧ Hid (Below w1.heap.size w1 wr)) (fun i _ => m - (intOf i).toNat)
    case atStart => exact ⟨0, Nat.zero_le _, rfl, Lib.hid (by rw [mix_zero]; exact HK1.out), Lib.hid (by rw [mix_zero]; exact HK2.out), HX2⟩
    case round =>
      clear HK1 HK2 HX2 HB2 HB p7c
      obtain ⟨k, hk, rfl, hA, hW, hb⟩ := hrel
      by_cases hlt : k < m
      · have l1 : (k : Int) < (m : Int) := by omega
        have l0 : (0 : Int) ≤ (k : Int) := by omega
        have hkl : k < ls.length := by rw [← HM.out]; exact hlt
        have hLi : Lins wr (.slice lo m lcap) ls := H1.out.below hb.out
        obtain ⟨bl, off, rfl, hbl, hcc⟩ := hLi.get HM.out (by omega)
        obtain ⟨c0, c1, c2⟩ := hcc k hlt
        have HS1 := Lib.hid (mix_set (A := worthL ls) (B := List.replicate m (0 : Int)) (k := k) (by rw [HLw2.out, List.length_replicate, HM.out]) (by rw [HLw2.out]; exact hkl))
        have HS2 := Lib.hid (mix_set (A := wgtI ls) (B := List.replicate m (0 : Int)) (k := k) (by rw [HLw.out, List.length_replicate, HM.out]) (by rw [HLw.out]; exact hkl))
        have hwg := worth_get ls k
        have hcg := cnt_get ls k
        have hzb := HWb.out ((worthL ls).getD k 0) (by rw [List.getD_eq_getElem?_getD, List.getElem?_eq_getElem (by rw [HLw2.out]; exact hkl)]; exact List.getElem_mem _)
        rw [hwg] at HS1 hzb
        have HS3 := Lib.hid (show (wgtI ls).getD k 0 = if T = 0 then (ls.getD k default).s else (ls.getD k default).s * (ls.getD k default).z by
          rw [HWv.out, HTv.out]
          split
          · exact hcg
          · exact hwg)
        have hba := (Below.refl wr.heap.size wr).alloc (Nat.le_refl _) (.cells #[.string (ls.getD k default).t, .int .i64 (ls.getD k default).s, .int .i64 (ls.getD k default).z] 44)
        have HA1 := Lib.hid (hA.out.below hba)
        have HW1 := Lib.hid (hW.out.below hba)
        have HBx := Lib.hid (hb.out.trans (hba.mono hb.out.size))
        have a1 := HA1.out.cell (mix_get (by rw [HLw2.out, List.length_replicate, HM.out]) (by rw [HLw2.out]; exact hkl))
        have a2 := HA1.out.free k
        have b1 := HW1.out.cell (mix_get (by rw [HLw.out, List.length_replicate, HM.out]) (by rw [HLw.out]; exact hkl))
        have b2 := HW1.out.free k
        generalize ls.getD k default = p at *
        obtain ⟨pt, ps, pz⟩ := p
        dsimp only at c0 c1 c2 HS1 HS3 hzb a1 a2 b1 b2 HA1 HW1 HBx
        obtain ⟨Z, hZ⟩ : ∃ Z, Z = ps * pz := ⟨_, rfl⟩
        have v1 : IntKind.i64.wrap (ps * pz) = Z := by rw [← hZ]; exact IntWalk.i64_in _ (by rw [hZ]; omega)
        rw [← hZ] at HS1 HS3
        generalize (List.replicate m (0 : Int)).getD k 0 = q0 at *
        have hl1 : wr.heap.size ≠ bw := by have := hA.out.lt; omega
        have hl2 : wr.heap.size ≠ bt' := by have := hW.out.lt; omega
        have q1 : (((wr.alloc (.cells #[.string pt, .int .i64 ps, .int .i64 pz] 44)).setCell ⟨bw, k, none⟩ (.int .i64 Z)).setCell ⟨bt', k, none⟩ (.int .i64 Z)).cell? ⟨wr.heap.size, 1, none⟩ = some (.int .i64 ps) := by
          have h9 := (Below.heap_setCell ((wr.alloc (.cells #[.string pt, .int .i64 ps, .int .i64 pz] 44)).setCell ⟨bw, k, none⟩ (.int .i64 Z)) ⟨bt', k, none⟩ (.int .i64 Z) _ hl2).trans (Below.heap_setCell (wr.alloc (.cells #[.string pt, .int .i64 ps, .int .i64 pz] 44)) ⟨bw, k, none⟩ (.int .i64 Z) _ hl1)
          refine (heap_cell (a := ⟨wr.heap.size, 1, none⟩) h9).trans ?_
          unfold World.cell?; rw [heap_alloc_new]; rfl
        clear hcc hLi hwg hcg hzb hZ hba hl1 hl2
        by_cases gT : T = 0
        · have d1 : (T == 0) = true := by simp [gT]
          have HG := Lib.hid gT
          clear gT
          go_wp2
          go_roundw
          case rel =>
            refine ⟨k + 1, by omega, by go_num, Lib.hid ?_, Lib.hid ?_, Lib.hid ?_⟩
            · rw [← HS1.out]
              exact ((HA1.out.set k Z).other n1).other n1
            · rw [← HS2.out, HS3.out, if_pos HG.out]
              have h9 := (((HW1.out.other (b' := bw) (k := k) (v := .int .i64 Z) n2).set k Z).set k ps)
              rw [List.set_set] at h9
              exact h9
            · exact ((HBx.out.setCell (p := ⟨bw, k, none⟩) HLo.out.1 _).setCell (p := ⟨bt', k, none⟩) HLo.out.2 _).setCell (p := ⟨bt', k, none⟩) HLo.out.2 _
          case measure => simp [intOf]; omega
        · have d1 : (T == 0) = false := by simp [gT]
          have HG := Lib.hid gT
          clear gT
          go_wp2
          go_roundw
          case rel =>
            refine ⟨k + 1, by omega, by go_num, Lib.hid ?_, Lib.hid ?_, Lib.hid ?_⟩
            · rw [← HS1.out]
              exact (HA1.out.set k Z).other n1
            · rw [← HS2.out, HS3.out, if_neg HG.out]
              exact (HW1.out.other (b' := bw) (k := k) (v := .int .i64 Z) n2).set k Z
            · exact (HBx.out.setCell (p := ⟨bw, k, none⟩) HLo.out.1 _).setCell (p := ⟨bt', k, none⟩) HLo.out.2 _
          case measure => simp [intOf]; omega
      · obtain rfl : k = m := by omega
        have HAw := Lib.hid (show Blk wr bw (worthL ls) by have hx := hA.out; rwa [mix_all (by rw [HLw2.out, HM.out]) (by simp)] at hx)
        have hWw : Blk wr bt' (wgtI ls) := by have hx := hW.out; rwa [mix_all (by rw [HLw.out, HM.out]) (by simp)] at hx
        have HS := Lib.hid (HSp.out wr (.slice (some ⟨bt', 0, none⟩) k k) (by rw [HWn.out]; exact hWw.ints (by rw [HLw.out, HM.out]) (by omega)))
        have HB3 := Lib.hid (bt HB1.out hb.out)
        clear hA hW hWw hb
        go_wp2_with fail
        refine HS.out.mono ?_
        rintro e w4 ⟨u, out, rfl, hsp, hpt, hb4⟩
        obtain ⟨b, rfl, hbk, hblo⟩ := hpt.blk
        have hol : out.length = k := by rw [hsp.len, HLn.out, HM.out]
        have HOl := Lib.hid hol
        have HSpl := Lib.hid hsp
        have HAw4 := Lib.hid (HAw.out.below hb4)
        have hne : b ≠ bw := by have := HAw.out.lt; omega
        have hne2 : bw ≠ b := by omega
        have HBk := Lib.hid hbk
        have HB4 := Lib.hid (bt HB3.out hb4)
        have HLb := Lib.hid (show w.heap.size ≤ b by have := HB3.out.size; omega)
        have HOb := Lib.hid (fun i => HSle.out out i hsp)
        rw [hol]
        clear hsp hpt hbk hblo hb4 hol
        go_wp2_with fail
        go_loopw [75] (fun i wr => ∃ j : Nat, j ≤ k ∧ i = .int .i64 (j : Int) ∧ Hid (Blk wr b (mixL (eachL ls out) (natI out) j)) ∧ Hid (Blk wr bw (worthL ls)) ∧ Hid (Below w.heap.size w wr)) (fun i _ => k - (intOf i).toNat)
        case atStart => exact ⟨0, Nat.zero_le _, rfl, Lib.hid (by rw [mix_zero]; exact HBk.out), HAw4, HB4⟩
        case round =>
          clear HBk HAw4 HB4
          obtain ⟨j, hj, rfl, hE, hA, hb⟩ := hrel
          by_cases hlt : j < k
          · have l1 : (j : Int) < (k : Int) := by omega
            have l0 : (0 : Int) ≤ (j : Int) := by omega
            have hjl : j < ls.length := by rw [← HM.out]; exact hlt
            have le1 : (eachL ls out).length = (natI out).length := by rw [each_len]; simp [natI]; rw [HOl.out, HM.out]
            have HSt := Lib.hid (mix_set (A := eachL ls out) (B := natI out) (k := j) le1 (by rw [each_len]; exact hjl))
            rw [each_get hjl] at HSt
            have a1 := hE.out.cell (mix_get (k := j) le1 (by rw [each_len]; exact hjl))
            have a2 := hE.out.free j
            have hzb := HWb.out ((worthL ls).getD j 0) (by rw [List.getD_eq_getElem?_getD, List.getElem?_eq_getElem (by rw [HLw2.out]; exact hjl)]; exact List.getElem_mem _)
            have b1 := hA.out.cell (k := j) (x := (worthL ls).getD j 0) (by rw [List.getD_eq_getElem?_getD, List.getElem?_eq_getElem (by rw [HLw2.out]; exact hjl)]; rfl)
            have hob := HOb.out j
            have e1 : (natI out).getD j 0 = ((out.getD j 0 : Nat) : Int) := by simp [natI, List.getD_eq_getElem?_getD, show j < out.length by rw [HOl.out]; exact hlt]
            rw [e1] at a1
            generalize out.getD j 0 = O at *
            generalize (worthL ls).getD j 0 = Z at *
            have v1 : IntKind.i64.wrap ((O : Int) + Z) = (O : Int) + Z := IntWalk.i64_in _ (by omega)
            clear le1 hzb hob e1
            go_wp2_with fail
            go_region
            all_goals
              go_wp2
              go_roundw
              case rel => exact ⟨j + 1, by omega, by go_num, Lib.hid (by rw [← HSt.out]; exact hE.out.set j _), Lib.hid (hA.out.other hne2), Lib.hid ((hb.out.setCell (p := ⟨b, j, none⟩) HLb.out _).drew)⟩
              case measure => simp [intOf]; omega
          · obtain rfl : j = k := by omega
            have HF := Lib.hid (show Blk wr b (eachL ls out) by have hx := hE.out; rwa [mix_all (by rw [each_len, HM.out]) (by simp [natI]; exact HOl.out)] at hx)
            go_wp2
            go_ret2
            exact ⟨.inr ⟨rfl, b, out, by rw [← HM.out]; rfl, by rw [Int.toNat_natCast]; exact HSpl.out, HF.out, HLb.out⟩, hb.out⟩
  · have e0 : (E != 0) = true := by simp [bne, g]
    have e1 : (E == 0) = false := by simp [g]
    have HG := Lib.hid g
    clear g HBd HAp hm hc1 hc2
    go_enter Tryd.func17, Tryd.ntmps17
    go_wp2_with fail
    refine HP.out.mono ?_
    rintro e w1 ⟨rfl, hb1⟩
    have HB1 := Lib.hid (bt HB.out hb1)
    clear hb1
    go_wp2
    go_ret2
    exact ⟨.inl ⟨HG.out, rfl⟩, HB1.out⟩


/-- Two rows of numbers that grow beside each other. -/
structure GI2 (w0 w : World) (v1 : Value) (n1 : Nat) (l1 : List Int) (v2 : Value) (n2 : Nat) (l2 : List Int) : Prop where
  r1 : w.ownsRow 0 2 1 v1 n1 (l1.map (Value.int .i64))
  r2 : w.ownsRow 0 2 1 v2 n2 (l2.map (Value.int .i64))
  g1 : ∀ k, v1.ownBlock = some k → w0.heap.size ≤ k
  g2 : ∀ k, v2.ownBlock = some k → w0.heap.size ≤ k
  ne : ∀ k, v1.ownBlock = some k → v2.ownBlock ≠ some k
  bel : Below w0.heap.size w0 w
theorem GI2.later {w0 w w' : World} {v1 v2 : Value} {n1 n2 : Nat} {l1 l2 : List Int} (h : GI2 w0 w v1 n1 l1 v2 n2 l2) (hb : Below w.heap.size w w') : GI2 w0 w' v1 n1 l1 v2 n2 l2 :=
  ⟨own_touch h.r1 (Touch.of_below (S := fun _ => False) hb) (fun _ _ e => e), own_touch h.r2 (Touch.of_below (S := fun _ => False) hb) (fun _ _ e => e), h.g1, h.g2, h.ne, bt h.bel hb⟩
theorem GI2.swap {w0 w : World} {v1 v2 : Value} {n1 n2 : Nat} {l1 l2 : List Int} (h : GI2 w0 w v1 n1 l1 v2 n2 l2) : GI2 w0 w v2 n2 l2 v1 n1 l1 := ⟨h.r2, h.r1, h.g2, h.g1, fun k h1 h2 => h.ne k h2 h1, h.bel⟩
theorem GI2.app1 {w0 w w' : World} {v1 v2 v' : Value} {n1 n2 : Nat} {l1 l2 : List Int} (h : GI2 w0 w v1 n1 l1 v2 n2 l2) (z : Int) (hr : w'.ownsRow 0 2 1 v' (n1 + 1) (l1.map (Value.int .i64) ++ [.int .i64 z])) (hg : w.grownBy w' v1.ownBlock) (hlo : ∀ k, v'.ownBlock = some k → v1.ownBlock = some k ∨ w.heap.size ≤ k) :
    GI2 w0 w' v' (n1 + 1) (l1 ++ [z]) v2 n2 l2 := by
  have ht : Touch (fun k => v1.ownBlock = some k) w w' := (Touch.refl _ w).grown hg (fun k hk => .inl hk)
  refine ⟨by simpa using hr, own_touch h.r2 ht (fun k h2 h1 => h.ne k h1 h2), fun k hk => ?_, h.g2, fun k hk h2 => ?_, h.bel.trans (ht.below h.bel.size (fun x hx => h.g1 x hx))⟩
  · rcases hlo k hk with e | e
    · exact h.g1 k e
    · exact Nat.le_trans h.bel.size e
  · rcases hlo k hk with e | e
    · exact h.ne k e h2
    · have := own_lt h.r2 h2; omega
theorem i_take {l : List Int} {k : Nat} (h : k < l.length) : l.take (k + 1) = l.take k ++ [l.getD k 0] := by
  rw [List.take_succ_eq_append_getElem h, List.getD_eq_getElem?_getD, List.getElem?_eq_getElem h]; rfl
theorem litI (W : World) (n : Nat) (h : n = W.heap.size) : (W.alloc (.cells #[] 2)).ownsRow 0 2 1 (.slice (some ⟨n, 0, none⟩) 0 0) 0 ([].map (Value.int .i64)) := by
  subst h
  exact ⟨by simp, .inr ⟨W.heap.size, 0, #[], rfl, Nat.zero_le _, heap_alloc_new _ _, Nat.le_refl _, by unfold maxLen; omega, by simp, by simp⟩⟩
theorem GI2.start (w : World) : GI2 w ((w.alloc (.cells #[] 2)).alloc (.cells #[] 2)) (.slice (some ⟨w.heap.size, 0, none⟩) 0 0) 0 [] (.slice (some ⟨w.heap.size + 1, 0, none⟩) 0 0) 0 [] := by
  have s1 : (w.alloc (.cells #[] 2)).heap.size = w.heap.size + 1 := by simp
  have b2 := (Below.refl (w.alloc (.cells #[] 2)).heap.size (w.alloc (.cells #[] 2))).alloc (Nat.le_refl _) (.cells #[] 2)
  refine ⟨own_touch (litI w _ rfl) (Touch.of_below (S := fun _ => False) b2) (fun _ _ e => e), litI _ _ (by rw [s1]), fun k hk => ?_, fun k hk => ?_, fun k hk h2 => ?_, bt ((Below.refl _ _).alloc (Nat.le_refl _) _) b2⟩
  · have e1 := Option.some.inj (show some w.heap.size = some k from hk); omega
  · have e1 := Option.some.inj (show some (w.heap.size + 1) = some k from hk); omega
  · have e1 := Option.some.inj (show some w.heap.size = some k from hk)
    have e2 := Option.some.inj (show some (w.heap.size + 1) = some k from h2); omega
theorem own_ints {w : World} {a : Option Addr} {n q : Nat} {l : List Int} (h : w.ownsRow 0 2 1 (.slice a n q) n (l.map (Value.int .i64))) (hn : n = l.length) : Ints w (.slice a n q) l := by
  have := Row.of_own h
  unfold Ints
  rw [← hn]; exact this

set_option maxRecDepth 100000 in
set_option maxHeartbeats 32000000 in
theorem reach_any (o : Od) (ao : Option Addr) (n cap : Nat) (l : List Co) (w : World) (h : OdOk w o) (hc : Cos w (.slice ao n cap) l) (hn : n = l.length) (hcap : n ≤ 4096) (hwf : ∀ x ∈ l, x.wf) :
    Calls Tryd.prog 18 #[o.val, .slice ao n cap] w (EachP (partsN o l) o.l w) := by
  have hba := (Below.refl w.heap.size w).alloc (Nat.le_refl _) (.cells o.cells.toArray 33)
  have HP := Lib.hid (rlanded_any o ao n cap l _ (h.below hba) (Row.below hc hba) hn hcap hwf)
  have HB := Lib.hid hba
  have HL := Lib.hid (h.row.below hba)
  have HBd := Lib.hid (fun e => parts_bd o l e)
  have HAp := Lib.hid (fun (e : o.may = true) => may_apart e)
  have HTi := Lib.hid (fun h => term_is (o := o) h)
  have HLd := Lib.hid (show landN o l = if (partsN o l).2.2 ≠ 0 then (0, (partsN o l).2.2) else ((partsN o l).1 + (partsN o l).2.1, 0) from rfl)
  have HOf := Lib.hid (fun W (hb : Below w.heap.size w W) (ht : isB o.term = true) => by have := rof_any true ao n cap o.term l W (Row.below hc hb) hn hcap ht; rw [ofL_true] at this; exact this)
  have HSm := Lib.hid (fun W v m c (hl : coL l = true) (hm : m = (buyL (cosT o.term) l).length) (hr : Cos W (.slice v m c) (buyL (cosT o.term) l)) => rcsum_any v m c _ W hr hm (by have := List.length_filter_le (fun o' : Co => decide (cosT o.term ≤ o'.s)) l; unfold buyL at hm; omega) (fun o' ho => (co_nums (co_buy _ hl) o' ho).2.2))
  generalize landN o l = Ld at *
  generalize partsN o l = P at *
  obtain ⟨T, S, E⟩ := P
  clear hba hc hn hcap hwf
  obtain ⟨on, os, ob, oc, of, ot, term, lo, m, lcap, ls, e, hm, hc1, hc2⟩ := Od.apart h
  clear h
  subst e
  unfold Od.val Od.cells at HP
  unfold Od.cells at HB HL
  unfold Od.val Od.cells
  dsimp only at HP HB HL HBd HAp HLd HOf HSm HTi ⊢
  by_cases g : E = 0
  · subst g
    obtain ⟨hmay, hcl, hpe, ht0, hs0, hts⟩ := HBd.out rfl
    obtain ⟨-, hli, -, -, -, -, h1, h64⟩ := HAp.out hmay
    have hti := HTi.out hmay

    have hT : T = totL ls := congrArg (fun x => x.1) hpe
    have hS : S = _ := congrArg (fun x => x.2.1) hpe
    dsimp only at hS
    have hLd : Ld = (T + S, 0) := by rw [HLd.out]; rfl
    subst hLd
    dsimp only at HP
    have HO1 := Lib.hid (fun W hb => HOf.out W hb hti)
    have HM1 := Lib.hid (fun W v m c hm hr => HSm.out W v m c hcl hm hr)
    unfold OfPost at HO1
    generalize buyL (cosT term) l = bL at *
    rw [← hS] at HM1 hs0 hts
    obtain ⟨Sn, hSn⟩ := Int.eq_ofNat_of_zero_le hs0
    clear hpe hmay hS HBd HAp HTi HOf HSm HLd hcl hti
    subst hSn
    have ht1 : totL ls ≤ 1099511627776 := by omega
    have hwr := wgt_wrong (l := ls) (T := Sn) hli h1 h64 ht1 (by omega)
    rw [← wgt_nat hli ht1] at hwr
    have HSp := Lib.hid (fun W a nn q (hi : Ints W (.slice a nn q) (natI (wgtN ls))) (hn : nn = (wgtN ls).length) => refsplit_any Sn a nn q (wgtN ls) W hi hn hwr)
    have HWn := Lib.hid (wgt_nat hli ht1)
    have HWv := Lib.hid (show wgtI ls = if totL ls = 0 then cntL ls else worthL ls from rfl)
    have HLw2 := Lib.hid (worth_len ls)
    have HLc := Lib.hid (show (cntL ls).length = ls.length by simp [cntL])
    have HLn := Lib.hid (wgtN_len ls)
    have HWb := Lib.hid (show ∀ z ∈ worthL ls, 0 ≤ z ∧ z ≤ 1099511627776 from fun z hz => by
      have h1 := worth_each hli z hz
      have h2 := ints_le (fun u hu => (worth_each hli u hu).1) z hz
      have h3 : (worthL ls).sum = totL ls := rfl
      omega)
    have HTk := Lib.hid (tot_tk hli h64)
    have HTv := Lib.hid hT
    have HSle := Lib.hid (show ∀ out i, IsSplit Sn (wgtN ls) out → out.getD i 0 ≤ 1099511627776 from fun out i hs => Nat.le_trans (split_le hs (fun _ => wgt_sum hli h1 ht1) i) (by omega))
    have hm64 : m ≤ 64 := by omega
    have HM := Lib.hid hm
    have HPos := Lib.hid (show 0 < m by omega)
    obtain ⟨i0, hi, hz0, hz1, hz2⟩ := info_parts Tryd.infoI64
    clear ht0 hs0 hts hli h1 h64 ht1 hwr hm hT hc1 hc2
    go_enter Tryd.func18, Tryd.ntmps18
    go_wp2_with fail
    refine HP.out.mono ?_
    rintro e w1 ⟨rfl, hb1⟩
    have HB1 := Lib.hid (bt HB.out hb1)
    have HG0 := Lib.hid (GI2.start w1)
    have HP7 := Lib.hid (box_at0 (j := 7) (v := .slice lo m lcap) hb1 rfl)
    have HP6 := Lib.hid (box_at0 (j := 6) (v := .int .i64 term) hb1 rfl)
    have H1 := Lib.hid (HL.out.below hb1)
    clear hb1 HP HB HL
    go_wp2_with fail
    go_loopw [8, 9, 10, 11] (fun x1 x2 s i wr => ∃ (k : Nat) (a1 : Option Addr) (q1 : Nat) (a2 : Option Addr) (q2 : Nat), k ≤ m ∧ i = .int .i64 (k : Int) ∧ x1 = .slice a1 k q1 ∧ x2 = .slice a2 k q2 ∧ s = .int .i64 (((worthL ls).take k).sum) ∧ Hid (GI2 w1 wr (.slice a1 k q1) k ((worthL ls).take k) (.slice a2 k q2) k ((cntL ls).take k))) (fun _ _ _ i _ => m - (intOf i).toNat)
    case atStart => exact ⟨0, _, _, _, _, Nat.zero_le _, rfl, rfl, rfl, rfl, HG0⟩
    case round =>
      clear HG0
      obtain ⟨k, a1, q1, a2, q2, hk, rfl, rfl, rfl, rfl, hG⟩ := hrel
      have p7 := cell_later hG.out.bel HP7.out
      by_cases hlt : k < m
      · have l1 : (k : Int) < (m : Int) := by omega
        have l0 : (0 : Int) ≤ (k : Int) := by omega
        have hkl : k < ls.length := by rw [← HM.out]; exact hlt
        obtain ⟨bl, off, rfl, hbl, hcc⟩ := H1.out.get HM.out (by omega)
        obtain ⟨c0, d1, d2⟩ := hcc k hlt
        have c1 := cell_later hG.out.bel d1
        have c2 := cell_later hG.out.bel d2
        have HT1 := Lib.hid (i_take (l := worthL ls) (k := k) (by rw [HLw2.out]; exact hkl))
        have HT2 := Lib.hid (i_take (l := cntL ls) (k := k) (by rw [HLc.out]; exact hkl))
        have hwg := worth_get ls k
        have hcg := cnt_get ls k
        have hzb := HWb.out ((worthL ls).getD k 0) (by rw [List.getD_eq_getElem?_getD, List.getElem?_eq_getElem (by rw [HLw2.out]; exact hkl)]; exact List.getElem_mem _)
        rw [hwg] at HT1 hzb
        rw [hcg] at HT2
        have t0 := HTk.out k
        have t1 := HTk.out (k + 1)
        have HSt := Lib.hid (tot_take hkl)
        rw [HSt.out] at t1
        generalize ls.getD k default = p at *
        obtain ⟨pt, ps, pz⟩ := p
        dsimp only at c1 c2 d1 HT1 HT2 hzb HSt t1
        have HD1 := Lib.hid d1
        obtain ⟨Z, hZ⟩ : ∃ Z, Z = ps * pz := ⟨_, rfl⟩
        have v1 : IntKind.i64.wrap (ps * pz) = Z := by rw [← hZ]; exact IntWalk.i64_in _ (by rw [hZ]; omega)
        rw [← hZ] at HT1 HSt t1
        generalize ((worthL ls).take k).sum = Sk at *
        have v2 : IntKind.i64.wrap (Sk + Z) = Sk + Z := IntWalk.i64_in _ (by omega)
        have L1 : k + 1 ≤ maxLen := by unfold maxLen; omega
        have L2 : (k + 1) * 8 ≤ 140737488355328 := by omega
        have Z1 : 0 < 1 := by decide
        have HA := Lib.hid ((Below.refl wr.heap.size wr).alloc (Nat.le_refl _) (.cells #[.int .i64 Z] 2))
        have HGa := Lib.hid (hG.out.later HA.out.drew)
        have m7 := cell_later HA.out p7
        have m1 := cell_later HA.out c1
        have m2 := cell_later HA.out c2
        have HZv := Lib.hid (show ((worthL ls).take (k + 1)).getD k 0 = Z by
          have hlen : ((worthL ls).take k).length = k := by rw [List.length_take, HLw2.out]; omega
          rw [HT1.out, List.getD_eq_getElem?_getD, List.getElem?_append_right (by omega), hlen]; simp)
        have HLk := Lib.hid (show k + 1 = ((worthL ls).take (k + 1)).length by rw [List.length_take, HLw2.out]; omega)
        clear hcc hwg hcg hzb hZ t0 t1 c0 d1 d2
        go_wp2_with fail
        go_upto_region 10 with fail
        go_cut [8] from 33 to 48 (fun x wx => ∃ a4 q4, x = .slice a4 (k + 1) q4 ∧ Hid (GI2 w1 wx (.slice a4 (k + 1) q4) (k + 1) ((worthL ls).take (k + 1)) (.slice a2 k q2) k ((cntL ls).take k)) ∧ ∃ wy, wy = wx)
        case first =>
          go_region_law (refine step_own rfl (.tmp 33) (.tmp 47) 37 rfl 2 i0 (.int .i64 0) 1 8 Tryd.underlying37 hi hz0 hz1 hz2 rfl Z1 _ _ _ rfl HGa.out.r1 ⟨wr.heap.size, 0, none⟩ 1 1 [.int .i64 Z] rfl rfl (new_cells _ _ _) (one_int _ _) L1 L2 ?_; intro v4 w4 hown4 hg4 hn4; obtain ⟨a4, q4, rfl⟩ := own_shape hown4; have HX4 := Lib.hid (HGa.out.app1 Z hown4 hg4 hn4); clear hown4 hg4 hn4)
          all_goals
            dsimp only [Exit.then]
            apply_assumption
            go_meet
            exact ⟨_, _, rfl, Lib.hid (by rw [HT1.out]; exact HX4.out), _, rfl⟩
        case rest =>
          obtain ⟨a4, q4, rfl, hG4, w4, hw4⟩ := hcut
          subst hw4
          have p7 := cell_later hG4.out.bel HP7.out
          have c1 := cell_later hG4.out.bel HD1.out
          have HG5 := Lib.hid (hG4.out.later ((Below.refl w4.heap.size w4).alloc (Nat.le_refl _) (.cells #[.int .i64 ps] 2)))
          clear m1 m2 m7 c2 HGa HA
          go_wp2_with (at_builtin; refine wpList_own rfl (.tmp 49) (.tmp 56) 37 rfl 2 i0 (.int .i64 0) 1 8 Tryd.underlying37 hi hz0 hz1 hz2 rfl (by decide) _ _ _ rfl HG5.out.r2 ⟨w4.heap.size, 0, none⟩ 1 1 [.int .i64 ps] rfl rfl (new_cells w4 #[.int .i64 ps] _) (one_int _ _) L1 L2 ?_; intro v6 w6 hown6 hg6 hn6; obtain ⟨a6, q6, rfl⟩ := own_shape hown6; have HG6 := Lib.hid (HG5.out.swap.app1 ps hown6 hg6 hn6).swap; clear hown6 hg6 hn6; obtain ⟨b4, o4, rfl, hb4, hc4⟩ := (own_ints HG6.out.r1 HLk.out).get HLk.out (by omega); have z4 := hc4 k (by omega); rw [HZv.out] at z4; clear hb4 hc4)
          go_roundw
          case rel => exact ⟨k + 1, _, _, _, _, by omega, by go_num, rfl, rfl, by rw [HSt.out], Lib.hid (by rw [HT2.out]; exact HG6.out)⟩
          case measure => simp [intOf]; omega
      · obtain rfl : k = m := by omega
        have ew : (worthL ls).take k = worthL ls := List.take_of_length_le (by rw [HLw2.out, HM.out]; exact Nat.le_refl _)
        have ec : (cntL ls).take k = cntL ls := List.take_of_length_le (by rw [HLc.out, HM.out]; exact Nat.le_refl _)
        rw [ew, ec] at hG
        rw [ew, show (worthL ls).sum = T from HTv.out.symm]
        clear ew ec
        have hk1 : 0 < k := HPos.out
        by_cases gT : T = 0
        · have d1 : (T == 0) = true := by simp [gT]
          have HB2 := Lib.hid (bt HB1.out hG.out.bel)
          have HO2 := Lib.hid (HO1.out wr HB2.out)
          have p6 := cell_later hG.out.bel HP6.out
          have HWi := Lib.hid (show Ints wr (.slice a2 k q2) (natI (wgtN ls)) by
            rw [HWn.out, HWv.out, if_pos (by rw [← HTv.out]; exact gT)]
            exact own_ints hG.out.r2 (by rw [HLc.out, HM.out]))
          obtain ⟨bv, ov, rfl, hbv, hcv⟩ := (own_ints hG.out.r1 (by rw [HLw2.out, HM.out])).get (by rw [HLw2.out, HM.out]) hk1
          have HCv := Lib.hid hcv
          have HBv := Lib.hid hbv
          clear gT hbv hcv
          go_wp2_with fail
          refine HO2.out.mono ?_
          rintro e w3 ⟨x3, y3, rfl, r3, hb3⟩
          have HB3 := Lib.hid (bt HB2.out hb3)
          have HM3 := Lib.hid (HM1.out w3 x3 _ y3 rfl r3.cos)
          have HX3 := Lib.hid hb3
          clear hb3 r3
          go_wp2_with fail
          refine HM3.out.mono ?_
          rintro e w4 ⟨rfl, hb4⟩
          have HB4 := Lib.hid (bt HB3.out hb4)
          have HX4 := Lib.hid (bt HX3.out hb4)
          have HS4 := Lib.hid (HSp.out w4 _ k _ (Ints.below HWi.out HX4.out) (by rw [HLn.out, HM.out]))
          unfold RefPost at HS4
          clear hb4
          go_wp2_with fail
          refine HS4.out.mono ?_
          rintro e w5 ⟨u, out, rfl, hsp, hpt, hb5⟩
          obtain ⟨b, rfl, hbk, hblo⟩ := hpt.blk
          have hol : out.length = k := by rw [hsp.len, HLn.out, HM.out]
          have HOl := Lib.hid hol
          have HSpl := Lib.hid hsp
          have HBk := Lib.hid hbk
          have hs4 := HX4.out.size
          have hbv2 := HBv.out
          have HNe := Lib.hid (show bv ≠ b by omega)
          have HCw := Lib.hid (show ∀ j, j < k → w5.cell? ⟨bv, ov + j, none⟩ = some (.int .i64 ((worthL ls).getD j 0)) from fun j hj => cell_later (bt HX4.out hb5) (HCv.out j hj))
          have HB5 := Lib.hid (bt HB4.out hb5)
          have HLb := Lib.hid (show w.heap.size ≤ b by have := HB4.out.size; omega)
          have HOb := Lib.hid (fun i => HSle.out out i hsp)
          rw [hol]
          clear hsp hpt hbk hblo hb5 hol hs4 hbv2 p6
          go_wp2_with fail
          go_loopw [14] (fun i wr => ∃ j : Nat, j ≤ k ∧ i = .int .i64 (j : Int) ∧ Hid (Blk wr b (mixL (eachL ls out) (natI out) j)) ∧ Hid (Touch (fun x => x = b) w5 wr)) (fun i _ => k - (intOf i).toNat)
          case atStart => exact ⟨0, Nat.zero_le _, rfl, Lib.hid (by rw [mix_zero]; exact HBk.out), Lib.hid (Touch.refl _ _)⟩
          case round =>
            clear HBk
            obtain ⟨j, hj, rfl, hE, hT⟩ := hrel
            by_cases hlt : j < k
            · have l1 : (j : Int) < (k : Int) := by omega
              have l0 : (0 : Int) ≤ (j : Int) := by omega
              have hjl : j < ls.length := by rw [← HM.out]; exact hlt
              have le1 : (eachL ls out).length = (natI out).length := by rw [each_len]; simp [natI]; rw [HOl.out, HM.out]
              have HSt := Lib.hid (mix_set (A := eachL ls out) (B := natI out) (k := j) le1 (by rw [each_len]; exact hjl))
              rw [each_get hjl] at HSt
              have a1 := hE.out.cell (mix_get (k := j) le1 (by rw [each_len]; exact hjl))
              have a2 := hE.out.free j
              have hzb := HWb.out ((worthL ls).getD j 0) (by rw [List.getD_eq_getElem?_getD, List.getElem?_eq_getElem (by rw [HLw2.out]; exact hjl)]; exact List.getElem_mem _)
              have b1 := cell_touch (HCw.out j hlt) hT.out HNe.out
              have hob := HOb.out j
              have e1 : (natI out).getD j 0 = ((out.getD j 0 : Nat) : Int) := by simp [natI, List.getD_eq_getElem?_getD, show j < out.length by rw [HOl.out]; exact hlt]
              rw [e1] at a1
              generalize out.getD j 0 = O at *
              generalize (worthL ls).getD j 0 = Z at *
              have v1 : IntKind.i64.wrap ((O : Int) + Z) = (O : Int) + Z := IntWalk.i64_in _ (by omega)
              clear le1 hzb hob e1
              go_wp2_with fail
              go_region
              all_goals
                go_wp2
                go_roundw
                case rel => exact ⟨j + 1, by omega, by go_num, Lib.hid (by rw [← HSt.out]; exact hE.out.set j _), Lib.hid ((hT.out.setCell (p := ⟨b, j, none⟩) (.inl rfl) _).drew)⟩
                case measure => simp [intOf]; omega
            · obtain rfl : j = k := by omega
              have HF := Lib.hid (show Blk wr b (eachL ls out) by have hx := hE.out; rwa [mix_all (by rw [each_len, HM.out]) (by simp [natI]; exact HOl.out)] at hx)
              have HBf := Lib.hid (HB5.out.trans (hT.out.below HB5.out.size (fun x hx => by subst hx; exact HLb.out)))
              go_wp2
              go_ret2
              exact ⟨.inr ⟨rfl, b, out, by rw [← HM.out]; rfl, by rw [Int.toNat_natCast]; exact HSpl.out, HF.out, HLb.out⟩, HBf.out⟩
        · have d1 : (T == 0) = false := by simp [gT]
          have HB2 := Lib.hid (bt HB1.out hG.out.bel)
          have HO2 := Lib.hid (HO1.out wr HB2.out)
          have p6 := cell_later hG.out.bel HP6.out
          have HWi := Lib.hid (show Ints wr (.slice a1 k q1) (natI (wgtN ls)) by
            rw [HWn.out, HWv.out, if_neg (by rw [← HTv.out]; exact gT)]
            exact own_ints hG.out.r1 (by rw [HLw2.out, HM.out]))
          obtain ⟨bv, ov, rfl, hbv, hcv⟩ := (own_ints hG.out.r1 (by rw [HLw2.out, HM.out])).get (by rw [HLw2.out, HM.out]) hk1
          have HCv := Lib.hid hcv
          have HBv := Lib.hid hbv
          clear gT hbv hcv
          go_wp2_with fail
          refine HO2.out.mono ?_
          rintro e w3 ⟨x3, y3, rfl, r3, hb3⟩
          have HB3 := Lib.hid (bt HB2.out hb3)
          have HM3 := Lib.hid (HM1.out w3 x3 _ y3 rfl r3.cos)
          have HX3 := Lib.hid hb3
          clear hb3 r3
          go_wp2_with fail
          refine HM3.out.mono ?_
          rintro e w4 ⟨rfl, hb4⟩
          have HB4 := Lib.hid (bt HB3.out hb4)
          have HX4 := Lib.hid (bt HX3.out hb4)
          have HS4 := Lib.hid (HSp.out w4 _ k _ (Ints.below HWi.out HX4.out) (by rw [HLn.out, HM.out]))
          unfold RefPost at HS4
          clear hb4
          go_wp2_with fail
          refine HS4.out.mono ?_
          rintro e w5 ⟨u, out, rfl, hsp, hpt, hb5⟩
          obtain ⟨b, rfl, hbk, hblo⟩ := hpt.blk
          have hol : out.length = k := by rw [hsp.len, HLn.out, HM.out]
          have HOl := Lib.hid hol
          have HSpl := Lib.hid hsp
          have HBk := Lib.hid hbk
          have hs4 := HX4.out.size
          have hbv2 := HBv.out
          have HNe := Lib.hid (show bv ≠ b by omega)
          have HCw := Lib.hid (show ∀ j, j < k → w5.cell? ⟨bv, ov + j, none⟩ = some (.int .i64 ((worthL ls).getD j 0)) from fun j hj => cell_later (bt HX4.out hb5) (HCv.out j hj))
          have HB5 := Lib.hid (bt HB4.out hb5)
          have HLb := Lib.hid (show w.heap.size ≤ b by have := HB4.out.size; omega)
          have HOb := Lib.hid (fun i => HSle.out out i hsp)
          rw [hol]
          clear hsp hpt hbk hblo hb5 hol hs4 hbv2 p6
          go_wp2_with fail
          go_loopw [14] (fun i wr => ∃ j : Nat, j ≤ k ∧ i = .int .i64 (j : Int) ∧ Hid (Blk wr b (mixL (eachL ls out) (natI out) j)) ∧ Hid (Touch (fun x => x = b) w5 wr)) (fun i _ => k - (intOf i).toNat)
          case atStart => exact ⟨0, Nat.zero_le _, rfl, Lib.hid (by rw [mix_zero]; exact HBk.out), Lib.hid (Touch.refl _ _)⟩
          case round =>
            clear HBk
            obtain ⟨j, hj, rfl, hE, hT⟩ := hrel
            by_cases hlt : j < k
            · have l1 : (j : Int) < (k : Int) := by omega
              have l0 : (0 : Int) ≤ (j : Int) := by omega
              have hjl : j < ls.length := by rw [← HM.out]; exact hlt
              have le1 : (eachL ls out).length = (natI out).length := by rw [each_len]; simp [natI]; rw [HOl.out, HM.out]
              have HSt := Lib.hid (mix_set (A := eachL ls out) (B := natI out) (k := j) le1 (by rw [each_len]; exact hjl))
              rw [each_get hjl] at HSt
              have a1 := hE.out.cell (mix_get (k := j) le1 (by rw [each_len]; exact hjl))
              have a2 := hE.out.free j
              have hzb := HWb.out ((worthL ls).getD j 0) (by rw [List.getD_eq_getElem?_getD, List.getElem?_eq_getElem (by rw [HLw2.out]; exact hjl)]; exact List.getElem_mem _)
              have b1 := cell_touch (HCw.out j hlt) hT.out HNe.out
              have hob := HOb.out j
              have e1 : (natI out).getD j 0 = ((out.getD j 0 : Nat) : Int) := by simp [natI, List.getD_eq_getElem?_getD, show j < out.length by rw [HOl.out]; exact hlt]
              rw [e1] at a1
              generalize out.getD j 0 = O at *
              generalize (worthL ls).getD j 0 = Z at *
              have v1 : IntKind.i64.wrap ((O : Int) + Z) = (O : Int) + Z := IntWalk.i64_in _ (by omega)
              clear le1 hzb hob e1
              go_wp2_with fail
              go_region
              all_goals
                go_wp2
                go_roundw
                case rel => exact ⟨j + 1, by omega, by go_num, Lib.hid (by rw [← HSt.out]; exact hE.out.set j _), Lib.hid ((hT.out.setCell (p := ⟨b, j, none⟩) (.inl rfl) _).drew)⟩
                case measure => simp [intOf]; omega
            · obtain rfl : j = k := by omega
              have HF := Lib.hid (show Blk wr b (eachL ls out) by have hx := hE.out; rwa [mix_all (by rw [each_len, HM.out]) (by simp [natI]; exact HOl.out)] at hx)
              have HBf := Lib.hid (HB5.out.trans (hT.out.below HB5.out.size (fun x hx => by subst hx; exact HLb.out)))
              go_wp2
              go_ret2
              exact ⟨.inr ⟨rfl, b, out, by rw [← HM.out]; rfl, by rw [Int.toNat_natCast]; exact HSpl.out, HF.out, HLb.out⟩, HBf.out⟩
  · have hLd : Ld = (0, E) := by rw [HLd.out, if_pos g]
    subst hLd
    dsimp only at HP
    have e0 : (E != 0) = true := by simp [bne, g]
    have e1 : (E == 0) = false := by simp [g]
    have HG := Lib.hid g
    clear g HBd HAp HOf HSm HLd hm hc1 hc2
    go_enter Tryd.func18, Tryd.ntmps18
    go_wp2_with fail
    refine HP.out.mono ?_
    rintro e w1 ⟨rfl, hb1⟩
    have HB1 := Lib.hid (bt HB.out hb1)
    clear hb1
    go_wp2
    go_ret2
    exact ⟨.inl ⟨HG.out, rfl⟩, HB1.out⟩


theorem row_lit (w : World) (e sz n : Nat) (cs : Array Value) (h : cs.size = n * sz) (hn : n ≤ maxLen) : Row (w.alloc (.cells cs e)) (.slice (some ⟨w.heap.size, 0, none⟩) n n) sz n cs.toList := by
  refine ⟨by simpa using h, some ⟨w.heap.size, 0, none⟩, n, rfl, Nat.le_refl _, hn, (fun h => by cases h), fun a ha j u hu => ?_⟩
  cases ha
  exact new_cells w cs e j u hu
def exLs : List Li := [⟨⟨#[120]⟩, 3, 10⟩, ⟨⟨#[121]⟩, 1, 10⟩]
def exLc : Array Value := #[.string ⟨#[120]⟩, .int .i64 3, .int .i64 10, .string ⟨#[121]⟩, .int .i64 1, .int .i64 10]
def exCo : List Co := [⟨⟨#[115, 101, 97]⟩, 3, 5⟩, ⟨⟨#[114, 111, 97, 100]⟩, 6, 8⟩]
def exCc : Array Value := #[.string ⟨#[115, 101, 97]⟩, .int .i64 3, .int .i64 5, .string ⟨#[114, 111, 97, 100]⟩, .int .i64 6, .int .i64 8]
def exO (lv : Value) : Od := ⟨⟨#[110]⟩, ⟨#[115]⟩, ⟨#[98]⟩, ⟨#[69, 85, 82]⟩, ⟨#[102]⟩, ⟨#[116]⟩, 5, lv, exLs⟩
theorem ex_may0 : ((nameB ⟨#[110]⟩ && (nameB ⟨#[115]⟩ && (nameB ⟨#[98]⟩ && (nameB ⟨#[102]⟩ && nameB ⟨#[116]⟩)))) && ((! decide ((⟨#[115]⟩ : ByteArray) = ⟨#[98]⟩) && (curB ⟨#[69, 85, 82]⟩ && (decide ((0 : Int) ≤ 5) && (decide ((5 : Int) ≤ 7) && (decide (1 ≤ exLs.length) && decide (exLs.length ≤ 64)))))) && linesB exLs)) = true := by decide +kernel
theorem ex_may (lv : Value) : (exO lv).may = true := ex_may0
theorem ex_col : coL exCo = true := by decide +kernel
theorem ex_parts (lv : Value) : partsN (exO lv) exCo = (40, 8, 0) := by
  have h1 : totN (exO lv) = (40, 0) := by
    unfold totN
    rw [if_pos (ex_may lv)]
    rfl
  unfold partsN
  rw [h1, ex_col]
  rfl
theorem ex_land (lv : Value) : landN (exO lv) exCo = (48, 0) := by
  unfold landN
  rw [ex_parts]
  rfl
theorem ex_split : ∀ out, IsSplit 8 (wgtN exLs) out → out = [6, 2] := fun out h => by
  have e : wgtN exLs = [30, 10] := by decide +kernel
  rw [e] at h
  exact h.unique ⟨[0, 1], by decide, by unfold Srtd Lx; decide, by decide⟩
theorem ex_each : eachL exLs [6, 2] = [36, 12] := by decide +kernel
theorem ex_sel : selL (cosT 5) exCo = [⟨⟨#[115, 101, 97]⟩, 3, 5⟩] := rfl
theorem ex_buy : buyL (cosT 5) exCo = [⟨⟨#[114, 111, 97, 100]⟩, 6, 8⟩] := rfl
theorem ex_lins (w : World) : Lins (w.alloc (.cells exLc 44)) (.slice (some ⟨w.heap.size, 0, none⟩) 2 2) exLs := row_lit w 44 3 2 exLc rfl (by unfold maxLen; omega)
theorem ex_cos (w : World) : Cos (w.alloc (.cells exCc 55)) (.slice (some ⟨w.heap.size, 0, none⟩) 2 2) exCo := row_lit w 55 3 2 exCc rfl (by unfold maxLen; omega)
theorem ex_ok {w : World} {lv : Value} (h : Lins w lv exLs) : OdOk w (exO lv) := by
  refine ⟨h, show (⟨#[110]⟩ : ByteArray).size ≤ maxLen by decide, show (⟨#[115]⟩ : ByteArray).size ≤ maxLen by decide, show (⟨#[98]⟩ : ByteArray).size ≤ maxLen by decide, show (⟨#[102]⟩ : ByteArray).size ≤ maxLen by decide, show (⟨#[116]⟩ : ByteArray).size ≤ maxLen by decide, fun x hx => ?_⟩
  unfold exO exLs at hx
  simp only [List.mem_cons, List.not_mem_nil, or_false] at hx
  rcases hx with rfl | rfl
  · exact ⟨by decide, by decide, by decide⟩
  · exact ⟨by decide, by decide, by decide⟩
theorem lit_iA (W : World) (xs : List Int) (cs : Array Value) (n : Nat) (hc : cs = iA xs) (hn : n = xs.length) (hl : n ≤ 4096) : Ints (W.alloc (.cells cs 2)) (.slice (some ⟨W.heap.size, 0, none⟩) n n) xs := by
  subst hc
  exact (blk_new W xs).ints hn hl
theorem aw_same (b1 : Nat) (xs : List Int) (cs : Array Value) (hc : cs = iA xs) (hl : xs.length = 2) (W : World) (h : Blk W b1 xs) :
    Calls Tryd.prog 19 #[.slice (some ⟨b1, 0, none⟩) 2 2, .slice (some ⟨W.heap.size, 0, none⟩) 2 2] (W.alloc (.cells cs 2)) fun e w' => e = .returned (.bool true) ∧ Below W.heap.size W w' := by
  have hb0 := (Below.refl W.heap.size W).alloc (Nat.le_refl _) (.cells cs 2)
  refine (same_any _ _ xs xs _ ((h.below hb0).ints hl.symm (by decide)) (lit_iA W xs cs 2 hc hl.symm (by decide))).mono ?_
  rintro e w' ⟨rfl, m, rfl⟩
  exact ⟨by simp, below_drewN hb0 m⟩

theorem aw_each (w : World) (lv : Value) (ao : Option Addr) (hl : Lins w lv exLs) (hc : Cos w (.slice ao 2 2) exCo) (hw : Terms w) :
    Calls Tryd.prog 17 #[(exO lv).val, .slice ao 2 2] w fun e w' => ∃ b, e = .returned (.tuple #[.slice (some ⟨b, 0, none⟩) 2 2, .int .i64 0]) ∧ Blk w' b [36, 12] ∧ Below w.heap.size w w' := by
  refine (each_any (exO lv) ao 2 2 exCo w (ex_ok hl) hc rfl (by decide) hw).mono ?_
  rintro e w' ⟨h | h, hb⟩
  · exact absurd (by rw [ex_parts]) h.1
  · obtain ⟨_, b, out, he, hs, hk, _⟩ := h
    rw [ex_parts] at hs
    have := ex_split out hs
    subst this
    refine ⟨b, he, ?_, hb⟩
    have e : eachL (exO lv).l [6, 2] = [36, 12] := ex_each
    rw [e] at hk; exact hk
theorem aw_land (w : World) (lv : Value) (ao : Option Addr) (hl : Lins w lv exLs) (hc : Cos w (.slice ao 2 2) exCo) (hw : Terms w) :
    Calls Tryd.prog 15 #[(exO lv).val, .slice ao 2 2] w fun e w' => e = .returned (.tuple #[.int .i64 48, .int .i64 0]) ∧ Below w.heap.size w w' := by
  have := landed_any (exO lv) ao 2 2 exCo w (ex_ok hl) hc rfl (by decide) hw
  rw [ex_land] at this
  exact this
theorem aw_split (w : World) (ao : Option Addr) (hc : Cos w (.slice ao 2 2) exCo) (hw : Terms w) :
    Calls Tryd.prog 11 #[.int .i64 5, .slice ao 2 2] w fun e w' => ∃ b off c1 a2 c2, e = .returned (.tuple #[.slice (some ⟨b, off, none⟩) 1 c1, .slice a2 1 c2, .int .i64 0]) ∧ w'.cell? ⟨b, off, none⟩ = some (.string ⟨#[115, 101, 97]⟩) ∧ Below w.heap.size w w' := by
  refine (csplit_ok 5 ao 2 2 exCo w hc rfl (by decide) hw (by decide) ex_col).mono ?_
  rintro e w' ⟨a1, c1, a2, c2, he, r1, r2, hb⟩
  rw [ex_sel] at r1 he
  rw [ex_buy] at he
  obtain ⟨b, off, e1, _, hcc⟩ := r1.cos.get rfl (by decide)
  subst e1
  exact ⟨b, off, c1, a2, c2, he, by simpa using (hcc 0 (by decide)).1, hb⟩

set_option maxRecDepth 100000 in
set_option maxHeartbeats 8000000 in
theorem awake20_any (w : World) (hw : Terms w) : Calls Tryd.prog 10 #[] w fun e w' => e = .returned (.bool true) ∧ Below w.heap.size w w' := by
  have x1 := (Below.refl w.heap.size w).alloc (Nat.le_refl _) (.cells exLc 44)
  have s1 : (w.alloc (.cells exLc 44)).heap.size = w.heap.size + 1 := by simp
  have x2 := (Below.refl (w.alloc (.cells exLc 44)).heap.size (w.alloc (.cells exLc 44))).alloc (Nat.le_refl _) (.cells (exO (.slice (some ⟨w.heap.size, 0, none⟩) 2 2)).cells.toArray 33)
  have s2 : ((w.alloc (.cells exLc 44)).alloc (.cells (exO (.slice (some ⟨w.heap.size, 0, none⟩) 2 2)).cells.toArray 33)).heap.size = w.heap.size + 1 + 1 := by simp
  have x3 := (Below.refl ((w.alloc (.cells exLc 44)).alloc (.cells (exO (.slice (some ⟨w.heap.size, 0, none⟩) 2 2)).cells.toArray 33)).heap.size ((w.alloc (.cells exLc 44)).alloc (.cells (exO (.slice (some ⟨w.heap.size, 0, none⟩) 2 2)).cells.toArray 33))).alloc (Nat.le_refl _) (.cells exCc 55)
  have hl := ((ex_lins w).below x2).below x3
  have hc := ex_cos ((w.alloc (.cells exLc 44)).alloc (.cells (exO (.slice (some ⟨w.heap.size, 0, none⟩) 2 2)).cells.toArray 33))
  rw [s2] at hc
  have ho := heap_alloc_new (w.alloc (.cells exLc 44)) (.cells (exO (.slice (some ⟨w.heap.size, 0, none⟩) 2 2)).cells.toArray 33)
  have ho3 := (x3.block _ (lt_of_block ho)).trans ho
  rw [s1] at ho3
  have hb := bt (bt x1 x2) x3
  have hw3 := hw.below hb
  have HA := Lib.hid (aw_land _ _ _ hl hc hw3)
  obtain ⟨W, hW⟩ : ∃ W, W = ((w.alloc (.cells exLc 44)).alloc (.cells (exO (.slice (some ⟨w.heap.size, 0, none⟩) 2 2)).cells.toArray 33)).alloc (.cells exCc 55) := ⟨_, rfl⟩
  rw [← hW] at hl hc ho3 hb hw3 HA
  have HW := Lib.hid hW
  have HL := Lib.hid hl
  have HC := Lib.hid hc
  have HO := Lib.hid ho3
  have HB := Lib.hid hb
  have HT := Lib.hid hw3
  unfold exO Od.cells exLc exCc at HW
  unfold exO Od.val Od.cells at HA
  dsimp only at HW HA
  clear hl hc ho ho3 hb hw3 hW x1 x2 x3 s1 s2 hw
  go_enter Tryd.func10, Tryd.ntmps10
  go_wp2_with fail
  rw [← HW.out]
  have HPp := Lib.hid (show ∀ W', Below W.heap.size W W' → ∀ j x, (#[.string ⟨#[110]⟩, .string ⟨#[115]⟩, .string ⟨#[98]⟩, .string ⟨#[69, 85, 82]⟩, .string ⟨#[102]⟩, .string ⟨#[116]⟩, .int .i64 5, .slice (some ⟨w.heap.size, 0, none⟩) 2 2] : Array Value)[j]? = some x → W'.cell? ⟨w.heap.size + 1, j, none⟩ = some x from fun W' hW j x hx => by
    have h9 := (hW.block _ (lt_of_block HO.out)).trans HO.out
    unfold World.cell?
    rw [show W'.heap[(⟨w.heap.size + 1, j, none⟩ : Addr).block]? = _ from h9]
    exact hx)
  clear HW
  refine HA.out.mono ?_
  rintro e w1 ⟨rfl, hb1⟩
  have p0 := HPp.out w1 hb1 0 (.string ⟨#[110]⟩) rfl
  have p1 := HPp.out w1 hb1 1 (.string ⟨#[115]⟩) rfl
  have p2 := HPp.out w1 hb1 2 (.string ⟨#[98]⟩) rfl
  have p3 := HPp.out w1 hb1 3 (.string ⟨#[69, 85, 82]⟩) rfl
  have p4 := HPp.out w1 hb1 4 (.string ⟨#[102]⟩) rfl
  have p5 := HPp.out w1 hb1 5 (.string ⟨#[116]⟩) rfl
  have p6 := HPp.out w1 hb1 6 (.int .i64 5) rfl
  have p7 := HPp.out w1 hb1 7 (.slice (some ⟨w.heap.size, 0, none⟩) 2 2) rfl
  have HB1 := Lib.hid hb1
  have HE := Lib.hid (aw_each w1 _ _ (HL.out.below hb1) (Row.below HC.out hb1) (HT.out.below hb1))
  unfold exO Od.val Od.cells at HE
  dsimp only at HE
  clear hb1 HA
  go_wp2_with fail
  refine HE.out.mono ?_
  rintro e w2 ⟨b, rfl, hk, hb2⟩
  have HK2 := Lib.hid hk
  have HB2 := Lib.hid (bt HB1.out hb2)
  have HS := Lib.hid (aw_split w2 _ (Row.below HC.out HB2.out) (HT.out.below HB2.out))
  clear hk hb2 HE p0 p1 p2 p3 p4 p5 p6 p7
  go_wp2_with fail
  refine HS.out.mono ?_
  rintro e w3 ⟨bs, os, c1, a2, c2, rfl, q0, hb3⟩
  have HQ := Lib.hid q0
  have HK3 := Lib.hid (HK2.out.below hb3)
  have HB3 := Lib.hid (bt HB2.out hb3)
  have HSa := Lib.hid (aw_same b [36, 12] _ rfl rfl w3 HK3.out)
  unfold iA at HSa
  simp only [List.map_cons, List.map_nil] at HSa
  clear hb3 q0 HS HK2
  go_wp2_with fail
  refine HSa.out.mono ?_
  rintro e w4 ⟨rfl, hb4⟩
  have q0 := cell_later hb4 HQ.out
  have HB4 := Lib.hid (bt HB.out (bt HB3.out hb4))
  clear hb4
  go_wp2
  go_ret
  exact ⟨rfl, HB4.out⟩
end Go.Proofs.YtfkkkebegkhdfaaDoor
