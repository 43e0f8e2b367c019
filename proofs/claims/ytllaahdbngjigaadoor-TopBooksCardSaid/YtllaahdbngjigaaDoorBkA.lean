/-
  book: comparing fields, cloning them; linked; follow and its function.
-/
import Derived.Test.YtllaahdbngjigaaDoorFPb
import Derived.Test.YtllaahdbngjigaaDoorDig
import Derived.Test.YtllaahdbngjigaaDoorMSto
import Derived.Laws.StructEq
import Derived.Laws.EntriesVeiled
namespace Go.Proofs.YtllaahdbngjigaaDoor
open Go Go.RowKit
set_option linter.unusedVariables false
set_option linter.unusedSimpArgs false
theorem fd_fields : (Tryd.prog.fieldsOf 54).toList.map (fun f => (f.name != "_", f.type, f.offset)) = [(true, 9, 0), (true, 9, 1)] := by kernel_rfl
theorem part_str (s : ByteArray) (xs : Array Value) (k : Nat) (h : xs[k]? = some (.string s)) (w : World) : (part 9 xs k).run Tryd.prog w = .ok (.string s) w := by
  unfold part
  simp [Tryd.isAgg9, h, go_sem]
theorem fd_neq (a b c d : ByteArray) (w : World) :
    (binOp .neq 54 (.agg #[.string a, .string b]) (.agg #[.string c, .string d])).run Tryd.prog w = .ok (.bool (!(a.toList == c.toList && b.toList == d.toList))) w := by
  have h := fd_fields
  rw [run_neq_struct, run_equalIn_agg w 9999 _ _ _ (by kernel_rfl) (by kernel_rfl)]
  generalize (Tryd.prog.fieldsOf 54).toList = fs at h
  have hlen : fs.length = 2 := by have := congrArg List.length h; simpa using this
  match fs, hlen with
  | [f1, f2], _ =>
    simp only [List.map_cons, List.map_nil, List.cons.injEq, Prod.mk.injEq, bne_iff_ne, ne_eq] at h
    obtain ⟨⟨n1, t1, o1⟩, ⟨n2, t2, o2⟩, _⟩ := h
    simp only [Op.eqFields, n1, n2, ne_eq, not_false_eq_true, if_true, t1, t2, o1, o2, Sem.run_bind, part_str a #[.string a, .string b] 0 rfl, part_str c #[.string c, .string d] 0 rfl, part_str b #[.string a, .string b] 1 rfl, part_str d #[.string c, .string d] 1 rfl, Result.andThen, Sem.run_ite,
      run_equalIn_string w _ _ _ _ Tryd.underlying9, Sem.run_pure]
    cases h1 : (a.toList == c.toList) <;> cases h2 : (b.toList == d.toList) <;> simp [Sem.run_pure, Result.andThen]
theorem fd_same (a b : ByteArray) (w : World) : (binOp .neq 54 (.agg #[.string a, .string b]) (.agg #[.string a, .string b])).run Tryd.prog w = .ok (.bool false) w := by
  rw [fd_neq]; simp
theorem fd_other (a b d : ByteArray) (h : ¬ b.toList = d.toList) (w : World) : (binOp .neq 54 (.agg #[.string a, .string b]) (.agg #[.string a, .string d])).run Tryd.prog w = .ok (.bool true) w := by
  rw [fd_neq]
  have : (b.toList == d.toList) = false := by simpa using h
  rw [this]; simp

theorem lit02 (W : World) (e : TypeId) (n : Nat) (h : n = W.heap.size) : (W.alloc (.cells #[] e)).ownsRow 0 e 2 (.slice (some ⟨n, 0, none⟩) 0 0) 0 [] := by
  subst h
  refine ⟨by simp, .inr ⟨W.heap.size, 0, #[], rfl, Nat.zero_le _, heap_alloc_new _ _, Nat.le_refl _, by unfold maxLen; omega, by simp, by simp⟩⟩
theorem one_fds (l : List Fd) : ∀ u ∈ l.flatMap Fd.cells, u.oneCell' = true := fun u hu => by
  obtain ⟨a, _, ha⟩ := List.mem_flatMap.1 hu
  simp [Fd.cells] at ha
  rcases ha with rfl | rfl <;> rfl
set_option maxRecDepth 20000 in
set_option maxHeartbeats 2000000 in
theorem fclone_ok (w : World) (v : Value) (l : List Fd) (h : Flds w v l) (hp : 0 < l.length) (hl : l.length ≤ 100) :
    Calls Tryd.prog 51 #[v] w fun e w' => ∃ ao cap, e = .returned (.slice ao l.length cap) ∧ Flds w' (.slice ao l.length cap) l ∧ (∀ k, (Value.slice ao l.length cap).ownBlock = some k → w.heap.size ≤ k ∧ k < w'.heap.size) ∧ Below w.heap.size w w' := by
  obtain ⟨n, hn⟩ : ∃ n, n = l.length := ⟨_, rfl⟩
  obtain ⟨ao, cap, rfl, _⟩ := h.shape
  have HN := Lib.hid hn
  rw [← hn] at hl hp h ⊢
  obtain ⟨bk, off, rfl, k3, k4⟩ := h.get hn hp
  have hA := (Below.refl w.heap.size w).alloc (Nat.le_refl _) (.cells #[] 54)
  have HO := Lib.hid (lit02 w 54 _ rfl)
  have HR := Lib.hid (show Row (w.alloc (.cells #[] 54)) (.slice (some ⟨bk, off, none⟩) n cap) 2 n (l.flatMap Fd.cells) from by rw [HN.out] at h ⊢; exact Row.below h hA)
  have HA := Lib.hid hA
  have L1 : 0 + n ≤ maxLen := by unfold maxLen; omega
  have L2 : (0 + n) * 32 ≤ 140737488355328 := by omega
  have Z2 : 0 < 2 := by decide
  obtain ⟨i0, hi0, hz0, hz1, hz2⟩ := info_parts Tryd.infoFd
  have H1 := Lib.hid (one_fds l)
  have heq0 : (binOp BinOp.eql 60 (.slice (some ⟨bk, off, none⟩) n cap) (.slice none 0 0)).run Tryd.prog w = .ok (.bool false) w := by kernel_rfl
  clear hA h k4 hn
  go_enter Tryd.func51, Tryd.ntmps51
  go_wp2_with (at_builtin; refine wpList_row (by rfl) (.tmp 5) (.tmp 6) 60 (by rfl) 54 i0 _ 2 32 Tryd.underlying60 hi0 hz0 hz1 hz2 rfl Z2 (.slice (some ⟨w.heap.size, 0, none⟩) 0 0) 0 [] (by rfl) HO.out (some ⟨bk, off, none⟩) n cap (l.flatMap Fd.cells) (by rfl) HR.out H1.out L1 L2 ?_)
  intro v1 w1 hown1 ht1 hn1
  have H5 := Lib.hid (And.intro hown1 (And.intro ht1 hn1))
  obtain ⟨ao1, cap1, rfl⟩ := own_shape hown1
  clear hown1 ht1 hn1
  go_wp2
  go_ret
  obtain ⟨hown1, ht1, hn1⟩ := H5.out
  simp only [Nat.zero_add] at hown1 hn1 ⊢
  refine ⟨_, _, rfl, ?_, fun k hk => ⟨(hn1 k hk).elim (fun e => ?_) (fun e => ?_), own_lt hown1 hk⟩, ?_⟩
  · have := Row.of_own hown1
    unfold Flds
    rw [← HN.out]
    exact this
  · have h2 : some w.heap.size = some k := e
    injection h2 with h2
    omega
  · omega
  · exact HA.out.trans (ht1.below HA.out.size (fun x hx => by
      have h2 : some w.heap.size = some x := hx
      injection h2 with h2
      omega))
/-- The link to a text. -/
def lkB (o : ByteArray) (t : List UInt8) : ByteArray := digF (o.data.toList ++ 10 :: t)
theorem linked_ok (o t : ByteArray) (h1 : o.size ≤ 100) (h2 : t.size ≤ 1000000) (w : World) :
    Calls Tryd.prog 52 #[.string o, .string t] w fun e w' => e = .returned (.string (lkB o t.data.toList)) ∧ Below w.heap.size w w' := by
  have HD := Lib.hid (dig_any (o ++ ⟨#[10]⟩ ++ t) (by
    have e1 : (o ++ ⟨#[10]⟩ ++ t).size = o.size + 1 + t.size := by rw [ByteArray.size_append, ByteArray.size_append]; rfl
    rw [e1]; unfold maxLen; omega) w)
  rw [show (o ++ ⟨#[10]⟩ ++ t).data.toList = o.data.toList ++ 10 :: t.data.toList by simp] at HD
  go_enter Tryd.func52, Tryd.ntmps52
  go_wp2_with fail
  refine HD.out.mono ?_
  rintro e w1 ⟨rfl, hb⟩
  have HB := Lib.hid hb
  clear hb HD
  go_wp2
  go_ret
  exact ⟨rfl, HB.out⟩

/-- What follow's function bears in mind. -/
structure Fol (w : World) (ba bl bo : Nat) (k : Nat) (lk o : ByteArray) : Prop where
  ha : w.heap[ba]? = some (.cells #[.int .i64 (k : Int)] 3 (0, 0))
  hl : w.heap[bl]? = some (.cells #[.string lk] 9 (0, 0))
  ho : w.heap[bo]? = some (.cells #[.string o] 9 (0, 0))
theorem Fol.later {w w' : World} {ba bl bo k : Nat} {lk o : ByteArray} (h : Fol w ba bl bo k lk o) {S : Nat → Prop} (ht : Touch S w w') (n1 : ¬ S ba) (n2 : ¬ S bl) (n3 : ¬ S bo) : Fol w' ba bl bo k lk o :=
  ⟨(ht.block ba (lt_of_block h.ha) n1).trans h.ha, (ht.block bl (lt_of_block h.hl) n2).trans h.hl, (ht.block bo (lt_of_block h.ho) n3).trans h.ho⟩
def folV (ba bl bo : Nat) : Value := .func (.func 100) #[] #[.pointer (some ⟨ba, 0, none⟩), .pointer (some ⟨bl, 0, none⟩), .pointer (some ⟨bo, 0, none⟩)]
set_option maxHeartbeats 1000000 in
theorem follow_ok (o : ByteArray) (h1 : o.size ≤ 100) (w : World) :
    Calls Tryd.prog 77 #[.string o] w fun e w' => ∃ ba bl bo, e = .returned (folV ba bl bo) ∧ Fol w' ba bl bo 0 (lkB o []) o ∧ w.heap.size ≤ ba ∧ w.heap.size ≤ bl ∧ w.heap.size ≤ bo ∧ ba ≠ bl ∧ bl ≠ bo ∧ ba ≠ bo ∧ Below w.heap.size w w' := by
  have hA := (Below.refl w.heap.size w).alloc (Nat.le_refl _) (.cells #[.string o] 9)
  have hx := heap_alloc_new w (.cells #[.string o] 9)
  have HL := Lib.hid (linked_ok o ⟨#[]⟩ h1 (Nat.zero_le _) (w.alloc (.cells #[.string o] 9)))
  have HA := Lib.hid hA
  have HX := Lib.hid hx
  clear hA hx
  go_enter Tryd.func77, Tryd.ntmps77
  go_wp2_with fail
  refine HL.out.mono ?_
  rintro e w1 ⟨rfl, hb⟩
  have HX1 := Lib.hid ((hb.block _ (lt_of_block HX.out)).trans HX.out)
  have HB1 := Lib.hid (HA.out.trans (hb.mono HA.out.size))
  have HS := Lib.hid (lt_of_block HX1.out)
  clear hb HL
  go_wp2
  go_ret
  have b2 := (Below.refl w1.heap.size w1).alloc (Nat.le_refl _) (.cells #[.int .i64 0] 3)
  have s2 : (w1.alloc (.cells #[.int .i64 0] 3)).heap.size = w1.heap.size + 1 := by simp
  have b3 := (Below.refl (w1.heap.size + 1) (w1.alloc (.cells #[.int .i64 0] 3))).alloc (Nat.le_of_eq s2.symm) (.cells #[.string (lkB o [])] 9)
  have a2 := heap_alloc_new w1 (.cells #[.int .i64 0] 3)
  have a3 := heap_alloc_new (w1.alloc (.cells #[.int .i64 0] 3)) (.cells #[.string (lkB o [])] 9)
  rw [s2] at a3
  have hs := HS.out
  have hz := HB1.out.size
  refine ⟨_, _, _, rfl, ⟨(b3.block _ (by omega)).trans a2, a3, ((b2.trans (b3.mono (by omega))).block _ hs).trans HX1.out⟩, hz, by omega, Nat.le_refl _, by omega, by omega, by omega, HB1.out.trans ((b2.trans (b3.mono (by omega))).mono hz)⟩
end Go.Proofs.YtllaahdbngjigaaDoor
