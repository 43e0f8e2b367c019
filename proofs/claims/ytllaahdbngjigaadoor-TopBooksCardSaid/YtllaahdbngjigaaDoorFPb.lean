/-
  field.Parse of a text that a record has: the walk.
-/
import Derived.Test.YtllaahdbngjigaaDoorFPa
import Derived.WalkMore
namespace Go.Proofs.YtllaahdbngjigaaDoor
open Go Go.RowKit
set_option linter.unusedVariables false
set_option linter.unusedSimpArgs false

theorem ba_at {s : ByteArray} {A B : List UInt8} {c : UInt8} (h : s.data.toList = A ++ c :: B) : ∃ hp : A.length < s.size, s[A.length] = c := by
  have hl : s.size = A.length + (B.length + 1) := by
    rw [show s.size = s.data.toList.length from (Array.length_toList).symm, h]; simp
  refine ⟨by omega, ?_⟩
  have h1 : s.data.toList[A.length]? = some c := by rw [h]; simp
  obtain ⟨h2, h3⟩ := List.getElem?_eq_some_iff.1 h1
  exact h3
theorem ba_at' {s : ByteArray} {A B : List UInt8} {c : UInt8} {p : Nat} (h : s.data.toList = A ++ c :: B) (hp : p = A.length) : ∃ hp : p < s.size, s[p] = c := by
  subst hp; exact ba_at h
theorem esc_parts (l : List UInt8) (j : Nat) (hj : j < l.length) : escL l = escL (l.take j) ++ (esc1 l[j] ++ escL (l.drop (j + 1))) := by
  have h := escL_snoc l j hj
  have e : escL (l.take (j + 1) ++ l.drop (j + 1)) = escL (l.take (j + 1)) ++ escL (l.drop (j + 1)) := by unfold escL; rw [List.flatMap_append]
  rw [List.take_append_drop] at e
  rw [e, h, List.append_assoc]
theorem Tryd.infoU8 : (Tryd.prog.info? 5).map (fun i => (i.zero, i.size, i.bytes)) = some (some (.int .u8 0), 1, 1) := by kernel_rfl
theorem Tryd.infoFd : (Tryd.prog.info? 54).map (fun i => (i.zero, i.size, i.bytes)) = some (some (.agg #[.string ⟨#[]⟩, .string ⟨#[]⟩]), 2, 32) := by kernel_rfl
theorem one_u8 (z : Int) : ∀ u ∈ [Value.int .u8 z], u.oneCell' = true := by intro u hu; simp at hu; subst hu; rfl
theorem one_fd (a b : ByteArray) : ∀ u ∈ [Value.string a, Value.string b], u.oneCell' = true := by intro u hu; simp at hu; rcases hu with rfl | rfl <;> rfl
theorem textL_drop (l : List Fd) (k : Nat) (hk : k < l.length) : textL (l.drop k) = headL l[k] ++ 10 :: textL (l.drop (k + 1)) := by
  rw [List.drop_eq_getElem_cons hk]
  show lineL l[k] ++ textL (l.drop (k + 1)) = _
  rw [line_head, List.append_assoc]; rfl
/-- What is gathered of a value. -/
structure Gath (wO : World) (v : Value) (j : Nat) (l : List UInt8) (w : World) : Prop where
  own : w.ownsRow 0 5 1 v j (Lib.byteCells l)
  base : ∀ k, v.ownBlock = some k → wO.heap.size ≤ k
  below : Below wO.heap.size wO w

theorem Gath.push {wO w w4 : World} {v v4 : Value} {j : Nat} {l : List UInt8} {c : UInt8} {z : Int} {o : Obj} (h : Gath wO v j l w) (hz : z = (c.toNat : Int)) (ho : w4.ownsRow 0 5 1 v4 (j + 1) (Lib.byteCells l ++ [.int .u8 z])) (hg : (w.alloc o).grownBy w4 v.ownBlock) (hn : ∀ k, v4.ownBlock = some k → v.ownBlock = some k ∨ (w.alloc o).heap.size ≤ k) : Gath wO v4 (j + 1) (l ++ [c]) w4 := by
  have hs := h.below.size
  refine ⟨by rw [Lib.byteCells_append]; rw [hz] at ho; exact ho, fun k hk => (hn k hk).elim (h.base k) (fun e => by simp at e; omega), ?_⟩
  refine h.below.trans (Touch.below (S := fun k => v.ownBlock = some k) (((Touch.refl _ _).alloc o).grown hg (fun k hk => .inl hk)) hs (fun x hx => h.base x hx))
set_option maxRecDepth 100000 in
set_option maxHeartbeats 8000000 in
theorem parse_ok (l : List Fd) (w : World) (hl : l.length ≤ 64) (hok : ∀ f ∈ l, f.ok) :
    Calls Tryd.prog 101 #[.string (textB l)] w fun e w' => ∃ v, e = .returned (.tuple #[v, .int .i64 0, .int .i64 0]) ∧ Flds w' v l ∧ (∀ k, v.ownBlock = some k → w.heap.size ≤ k) ∧ Below w.heap.size w w' := by
  obtain ⟨s0, hs0⟩ : ∃ s0, s0 = textB l := ⟨_, rfl⟩
  rw [← hs0]
  have HS0 := Lib.hid (show s0.data.toList = textL (l.drop 0) by rw [hs0]; simp [textB])
  obtain ⟨n, hn⟩ : ∃ n, n = l.length := ⟨_, rfl⟩
  rw [← hn] at hl
  have HN := Lib.hid hn
  have HO := Lib.hid hok
  have HNm := Lib.hid (fun s hs w => fname_ok s hs w)
  obtain ⟨i0, hi0, hz0, hz1, hz2⟩ := info_parts Tryd.infoU8
  obtain ⟨i1, hi1, hy0, hy1, hy2⟩ := info_parts Tryd.infoFd
  have Z1 : 0 < 1 := by decide
  have Z2 : 0 < 2 := by decide
  clear hs0 hn hok
  go_enter Tryd.func101, Tryd.ntmps101
  go_wp2
  go_step3
  go_wp2
  go_step3
  go_wp2
  go_loopw [0, 5, 6, 7] (fun sv lv ln ft wr => ∃ (k : Nat) (s : ByteArray) (ao : Option Addr) (cap : Nat), sv = .string s ∧ lv = .slice ao k cap ∧ ln = .int .i64 (k : Int) ∧ ft = .int .i64 0 ∧ k ≤ n ∧ Hid (s.data.toList = textL (l.drop k) ∧ wr.ownsRow 0 54 2 (.slice ao k cap) k ((l.take k).flatMap Fd.cells) ∧ (∀ b, (Value.slice ao k cap).ownBlock = some b → w.heap.size ≤ b) ∧ Below w.heap.size w wr)) (fun _ _ ln _ _ => n - (intOf ln).toNat)
  case atStart => exact ⟨0, s0, none, 0, rfl, rfl, rfl, rfl, Nat.zero_le _, Lib.hid ⟨HS0.out, ⟨by simp, .inl ⟨rfl, rfl⟩⟩, (fun b hb => by cases hb), Below.refl _ _⟩⟩
  case round =>
    obtain ⟨k, s, ao, cap, rfl, rfl, rfl, rfl, hk, HR⟩ := hrel
    by_cases hlt : k < n
    · have hkl : k < l.length := by rw [← HN.out]; exact hlt
      have HOk := Lib.hid (HO.out _ (List.getElem_mem hkl))
      have HT := Lib.hid (textL_drop l k hkl)
      have HTk := Lib.hid (show (l.take (k + 1)).flatMap Fd.cells = (l.take k).flatMap Fd.cells ++ (l[k]).cells by rw [List.take_succ_eq_append_getElem hkl, List.flatMap_append, List.flatMap_cons, List.flatMap_nil, List.append_nil])
      have HLr := Lib.hid (show (textL (l.drop (k + 1))).length ≤ 8300 * 64 from by
        have h1 := textL_len (l.drop (k + 1)) (fun f hf => HO.out f (List.mem_of_mem_drop hf))
        have h2 : (l.drop (k + 1)).length ≤ n := by rw [List.length_drop, ← HN.out]; omega
        omega)
      generalize l[k] = f at *
      obtain ⟨rest, hrest⟩ : ∃ rest, rest = textL (l.drop (k + 1)) := ⟨_, rfl⟩
      rw [← hrest] at HT HLr
      have HRest := Lib.hid hrest
      have hsl : s.data.toList = headL f ++ 10 :: rest := HR.out.1.trans HT.out
      have hsz : s.size = (headL f).length + 1 + rest.length := by
        rw [show s.size = s.data.toList.length from (Array.length_toList).symm, hsl]; simp; omega
      have hhl := lineL_len HOk.out
      rw [line_head, List.length_append, List.length_singleton] at hhl
      have hrl := HLr.out
      obtain ⟨e, he⟩ : ∃ e, e = (headL f).length := ⟨_, rfl⟩
      rw [← he] at hsz hhl
      have hpos : (0 : Int) < (s.size : Int) := by omega
      have l1 : (e : Int) < (s.size : Int) := by omega
      have l2 : s.size ≤ 600000 := by omega
      have l3 : e ≤ 8300 := by omega
      have HIx := Lib.hid (show Calls Tryd.prog 120 #[.string s, .int .u8 10] wr fun e1 w' => e1 = .returned (.int .i64 (e : Int)) ∧ w' = wr from by
        have := index_byte s 10 wr
        rw [hsl] at this
        have h10 : ((10 : Int).toNat).toUInt8 = 10 := rfl
        rw [h10, index_at _ _ _ (head_no10 HOk.out), ← he] at this
        exact this)
      have HSh := Lib.hid (show (s.extract 0 e).data.toList = headL f by rw [ba_take, hsl, he]; simp)
      have HSt := Lib.hid (show (s.extract (e + 1) s.size).data.toList = rest by rw [Lib.extract_to_end, hsl, he]; simp)
      have HEh := Lib.hid he
      clear hsl hrest he hsz hhl hrl
      go_wp2_with fail
      refine HIx.out.mono ?_
      rintro e1 w1 ⟨rfl, rfl⟩
      have HCut := Lib.hid (cut_ok (s.extract 0 e) f.n.data.toList (escL f.v.data.toList) w1 HSh.out (fun hm => (name_sign HOk.out.1 _ hm).2 rfl) (by
        have h1 : (s.extract 0 e).size = (headL f).length := by rw [show (s.extract 0 e).size = (s.extract 0 e).data.toList.length from (Array.length_toList).symm, HSh.out]
        rw [h1, ← HEh.out]; omega))
      rw [show (⟨f.n.data.toList.toArray⟩ : ByteArray) = f.n from (ba_of rfl).symm] at HCut
      obtain ⟨tx, htx⟩ : ∃ tx : ByteArray, tx = ⟨(escL f.v.data.toList).toArray⟩ := ⟨_, rfl⟩
      rw [← htx] at HCut
      have HTx := Lib.hid (show tx.data.toList = escL f.v.data.toList by rw [htx])
      have hv := HOk.out.2
      have htl : tx.size ≤ 8192 := by
        have h1 := escL_len f.v.data.toList
        have h2 : f.v.data.toList.length = f.v.size := Array.length_toList
        have h3 : tx.size = tx.data.toList.length := (Array.length_toList).symm
        rw [HTx.out] at h3
        omega
      have HNf := Lib.hid (fun w => HNm.out f.n HOk.out.1 w)
      have HOw := Lib.hid HR.out.2
      clear htx HR HIx
      go_wp2_with fail
      refine HCut.out.mono ?_
      rintro e1 w2 ⟨rfl, q, hq⟩
      have HOw2 := Lib.hid (show w2.ownsRow 0 54 2 (.slice ao k cap) k ((l.take k).flatMap Fd.cells) ∧ (∀ b, (Value.slice ao k cap).ownBlock = some b → w.heap.size ≤ b) ∧ Below w.heap.size w w2 from by
        rw [hq]
        exact ⟨own_touch HOw.out.1 ((Touch.refl (fun _ => False) w1).drewN q) (fun _ _ => id), HOw.out.2.1, below_drewN HOw.out.2.2 q⟩)
      clear hq HOw HCut
      go_wp2_with fail
      refine (HNf.out w2).mono ?_
      rintro e1 w3 ⟨rfl, rfl⟩
      clear HNf
      generalize s.extract (e + 1) s.size = st at *
      generalize s.extract 0 e = sh at *
      clear hpos l1 l2 l3
      go_wp2_with fail
      go_loopw [7, 12, 13] (fun ft vv i wr => ∃ (j p : Nat) (bo : Option Addr) (bc : Nat), ft = .int .i64 0 ∧ vv = .slice bo j bc ∧ i = .int .i64 (p : Int) ∧ j ≤ f.v.size ∧ Hid (p = (escL (f.v.data.toList.take j)).length ∧ Gath w3 (.slice bo j bc) j (f.v.data.toList.take j) wr)) (fun _ _ i _ => tx.size - (intOf i).toNat)
      case atStart => exact ⟨0, 0, none, 0, rfl, rfl, rfl, Nat.zero_le _, Lib.hid ⟨rfl, ⟨⟨by simp [Lib.byteCells], .inl ⟨rfl, rfl⟩⟩, (fun b hb => by cases hb), Below.refl _ _⟩⟩⟩
      case round =>
        obtain ⟨j, p, bo, bc, rfl, rfl, rfl, hj, HJ⟩ := hrel
        by_cases hjl : j < f.v.size
        · have hjl' : j < f.v.data.toList.length := by rw [Array.length_toList]; exact hjl
          have HP := Lib.hid (HTx.out.trans (esc_parts _ j hjl'))
          have HE := Lib.hid (escL_snoc f.v.data.toList j hjl')
          have HTk2 := Lib.hid (show f.v.data.toList.take (j + 1) = f.v.data.toList.take j ++ [f.v.data.toList[j]] by rw [List.take_succ_eq_append_getElem hjl'])
          generalize f.v.data.toList[j] = c at *
          have d0 : ((j : Int) == 4096) = false := by rw [beq_eq_false_iff_ne]; omega
          have HG := Lib.hid HJ.out.2
          have HPl := Lib.hid HJ.out.1
          by_cases g1 : c = 92
          · subst g1
            obtain ⟨hp1, hx1⟩ := ba_at' (p := p) HP.out HPl.out
            have HP2 : tx.data.toList = (escL (f.v.data.toList.take j) ++ [92]) ++ 92 :: escL (f.v.data.toList.drop (j + 1)) := by rw [HP.out]; simp [esc1]
            obtain ⟨hp2, hx2⟩ := ba_at' (p := p + 1) HP2 (by rw [List.length_append, HPl.out]; rfl)
            clear HP2
            have l2 : (p : Int) + 1 < (tx.size : Int) := by omega
            have HOa := Lib.hid (HG.out.own.alloc (.cells #[.int .u8 92] 5))
            have L1 : j + 1 ≤ maxLen := by unfold maxLen; omega
            have L2 : (j + 1) * 1 ≤ 140737488355328 := by omega
            go_wp2_with (at_builtin; refine wpList_own rfl (.tmp 83) (.tmp 85) 73 rfl 5 i0 _ 1 1 Tryd.underlying73 hi0 hz0 hz1 hz2 rfl Z1 _ j _ rfl HOa.out ⟨wr.heap.size, 0, none⟩ 1 1 [.int .u8 92] rfl rfl (new_cells _ _ _) (one_u8 _) L1 L2 ?_; intro v4 w4 hown4 hg4 hn4; obtain ⟨bo4, bc4, rfl⟩ := own_shape hown4; have H4 := Lib.hid (HG.out.push (c := 92) rfl hown4 hg4 hn4); clear hown4 hg4 hn4)
            go_wp2
            go_roundw
            case rel => exact ⟨j + 1, p + 2, bo4, bc4, rfl, rfl, by go_num, by omega, Lib.hid ⟨by rw [HE.out, List.length_append, ← HPl.out]; rfl, by rw [HTk2.out]; exact H4.out⟩⟩
            case measure => simp [intOf]; omega
          · have d1 : ((c.toNat : Int) == 92) = false := by
              rw [beq_eq_false_iff_ne]
              intro e
              exact g1 (UInt8.toNat_inj.1 (by simp; omega))
            by_cases g2 : c = 10
            · subst g2
              obtain ⟨hp1, hx1⟩ := ba_at' (p := p) HP.out HPl.out
              have HP2 : tx.data.toList = (escL (f.v.data.toList.take j) ++ [92]) ++ 110 :: escL (f.v.data.toList.drop (j + 1)) := by rw [HP.out]; simp [esc1]
              obtain ⟨hp2, hx2⟩ := ba_at' (p := p + 1) HP2 (by rw [List.length_append, HPl.out]; rfl)
              clear HP2 d1
              have l2 : (p : Int) + 1 < (tx.size : Int) := by omega
              have HOa := Lib.hid (HG.out.own.alloc (.cells #[.int .u8 10] 5))
              have L1 : j + 1 ≤ maxLen := by unfold maxLen; omega
              have L2 : (j + 1) * 1 ≤ 140737488355328 := by omega
              go_wp2_with (at_builtin; refine wpList_own rfl (.tmp 83) (.tmp 85) 73 rfl 5 i0 _ 1 1 Tryd.underlying73 hi0 hz0 hz1 hz2 rfl Z1 _ j _ rfl HOa.out ⟨wr.heap.size, 0, none⟩ 1 1 [.int .u8 10] rfl rfl (new_cells _ _ _) (one_u8 _) L1 L2 ?_; intro v4 w4 hown4 hg4 hn4; obtain ⟨bo4, bc4, rfl⟩ := own_shape hown4; have H4 := Lib.hid (HG.out.push (c := 10) rfl hown4 hg4 hn4); clear hown4 hg4 hn4)
              go_wp2
              go_roundw
              case rel => exact ⟨j + 1, p + 2, bo4, bc4, rfl, rfl, by go_num, by omega, Lib.hid ⟨by rw [HE.out, List.length_append, ← HPl.out]; rfl, by rw [HTk2.out]; exact H4.out⟩⟩
              case measure => simp [intOf]; omega
            · have HC := Lib.hid (show esc1 c = [c] by unfold esc1; rw [if_neg g1, if_neg g2])
              have HP1 := HP.out
              rw [HC.out] at HP1
              obtain ⟨hp1, hx1⟩ := ba_at' (p := p) HP1 HPl.out
              clear HP1 g1 g2
              have HOa := Lib.hid (HG.out.own.alloc (.cells #[.int .u8 (c.toNat : Int)] 5))
              have L1 : j + 1 ≤ maxLen := by unfold maxLen; omega
              have L2 : (j + 1) * 1 ≤ 140737488355328 := by omega
              go_wp2_with (at_builtin; refine wpList_own rfl (.tmp 83) (.tmp 85) 73 rfl 5 i0 _ 1 1 Tryd.underlying73 hi0 hz0 hz1 hz2 rfl Z1 _ j _ rfl HOa.out ⟨wr.heap.size, 0, none⟩ 1 1 [.int .u8 (c.toNat : Int)] rfl rfl (new_cells _ _ _) (one_u8 _) L1 L2 ?_; intro v4 w4 hown4 hg4 hn4; obtain ⟨bo4, bc4, rfl⟩ := own_shape hown4; have H4 := Lib.hid (HG.out.push (c := c) rfl hown4 hg4 hn4); clear hown4 hg4 hn4)
              go_wp2
              go_roundw
              case rel => exact ⟨j + 1, p + 1, bo4, bc4, rfl, rfl, by go_num, by omega, Lib.hid ⟨by rw [HE.out, List.length_append, ← HPl.out]; rw [HC.out]; rfl, by rw [HTk2.out]; exact H4.out⟩⟩
              case measure => simp [intOf]; omega
        · obtain rfl : j = f.v.size := by omega
          have hfull : f.v.data.toList.take f.v.size = f.v.data.toList := List.take_of_length_le (show f.v.data.toList.length ≤ f.v.size from Nat.le_of_eq Array.length_toList)
          have hp : p = tx.size := by
            rw [HJ.out.1, hfull, ← HTx.out]; exact Array.length_toList
          subst hp
          have HG := Lib.hid HJ.out.2
          have hC := bytes_str HG.out.own
          rw [hfull, show (⟨f.v.data.toList.toArray⟩ : ByteArray) = f.v from (ba_of rfl).symm] at hC
          have HO5 := Lib.hid ((own_touch HOw2.out.1 (Touch.of_below (S := fun _ => False) HG.out.below) (fun _ _ => id)).alloc (.cells #[.string f.n, .string f.v] 54))
          have HB5 := Lib.hid (HOw2.out.2.2.trans (HG.out.below.mono HOw2.out.2.2.size))
          have L1 : k + 1 ≤ maxLen := by unfold maxLen; omega
          have L2 : (k + 1) * 32 ≤ 140737488355328 := by omega
          clear hfull HJ
          go_wp2_with (at_builtin; refine wpList_own rfl (.tmp 87) (.tmp 92) 60 rfl 54 i1 _ 2 32 Tryd.underlying60 hi1 hy0 hy1 hy2 rfl Z2 _ k _ rfl HO5.out ⟨wr.heap.size, 0, none⟩ 1 1 [.string f.n, .string f.v] rfl rfl (new_cells _ _ _) (one_fd _ _) L1 L2 ?_; intro v4 w4 hown4 hg4 hn4; obtain ⟨ao4, cap4, rfl⟩ := own_shape hown4; have H4 := Lib.hid (And.intro hown4 (And.intro hg4 hn4)); clear hown4 hg4 hn4)
          go_wp2
          go_roundw
          case rel =>
            have hs5 := HB5.out.size
            exact ⟨k + 1, st, ao4, cap4, rfl, rfl, by go_num, rfl, by omega, Lib.hid ⟨by rw [HSt.out, HRest.out], by rw [HTk.out]; exact H4.out.1, fun x hx => (H4.out.2.2 x hx).elim (HOw2.out.2.1 x) (fun e => by simp at e; omega), HB5.out.trans (Touch.below (S := fun x => (Value.slice ao k cap).ownBlock = some x) (((Touch.refl _ _).alloc _).grown H4.out.2.1 (fun x hx => .inl hx)) hs5 (fun x hx => HOw2.out.2.1 x hx))⟩⟩
          case measure => simp [intOf]; omega
    · obtain rfl : k = n := by omega
      have hs : s.data.toList = [] := by rw [HR.out.1, List.drop_of_length_le (by rw [← HN.out]; exact Nat.le_refl _)]; rfl
      have e0 : s.size = 0 := by rw [show s.size = s.data.toList.length from (Array.length_toList).symm, hs]; rfl
      clear hs
      go_wp2
      rw [Exit.noGoto_ret]
      refine bodyPost_ret (v := .tuple #[.slice ao k cap, .int .i64 0, .int .i64 0]) (by simp [results, Tryd.results101, go_sem]) rfl ⟨_, rfl, ?_, HR.out.2.2.1, HR.out.2.2.2⟩
      have h1 := HR.out.2.1
      rw [List.take_of_length_le (by rw [← HN.out]; exact Nat.le_refl _)] at h1
      have h2 := Row.of_own h1
      unfold Flds
      rw [← HN.out]
      exact h2
end Go.Proofs.YtllaahdbngjigaaDoor
