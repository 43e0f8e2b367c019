/-
  The layers' example of netting. (Put together of XKM, XNetA, XNetB, XNetC.)
-/
import Derived.Test.YtofkeipfkglljaaDoorRows
import Derived.Test.YtofkeipfkglljaaDoorSep
import Derived.Maps.RangeWalk
import Derived.Test.YtofkeipfkglljaaDoorMark
import Derived.Test.YtofkeipfkglljaaDoorLen0
namespace Go.Proofs.YtofkeipfkglljaaDoor
open Go Go.RowKit Go.Maps
set_option linter.unusedVariables false
set_option linter.unusedSimpArgs false

theorem bq {W w w' : World} (h1 : Below W.heap.size W w) (h2 : Below w.heap.size w w') : Below W.heap.size W w' := h1.trans (h2.mono h1.size)
def tA : ByteArray := ⟨#[97]⟩
def tB : ByteArray := ⟨#[98]⟩
def tU : ByteArray := ⟨#[85, 83, 68]⟩
def kAB : Value := .agg #[.string ⟨#[85, 83, 68]⟩, .string ⟨#[97]⟩, .string ⟨#[98]⟩]
def kBA : Value := .agg #[.string ⟨#[85, 83, 68]⟩, .string ⟨#[98]⟩, .string ⟨#[97]⟩]

theorem ck1 (em : Bool) (w : World) : (Instr.checkKey em 10000 86 kAB).run Tryd.prog w = .ok () w := by cases em <;> kernel_rfl
theorem ck2 (em : Bool) (w : World) : (Instr.checkKey em 10000 86 kBA).run Tryd.prog w = .ok () w := by cases em <;> kernel_rfl
theorem fk0 (w : World) : (Instr.findKey 86 kAB []).run Tryd.prog w = .ok none w := by kernel_rfl
theorem fk1 (x : Value) (n : Nat) (w : World) : (Instr.findKey 86 kAB [⟨kAB, x, n⟩]).run Tryd.prog w = .ok (some (0, x)) w := by kernel_rfl
theorem fk1n (x : Value) (n : Nat) (w : World) : (Instr.findKey 86 kBA [⟨kAB, x, n⟩]).run Tryd.prog w = .ok none w := by kernel_rfl
theorem fk2a (x y : Value) (n m : Nat) (w : World) : (Instr.findKey 86 kAB [⟨kAB, x, n⟩, ⟨kBA, y, m⟩]).run Tryd.prog w = .ok (some (0, x)) w := by kernel_rfl
theorem fk2b (x y : Value) (n m : Nat) (w : World) : (Instr.findKey 86 kBA [⟨kAB, x, n⟩, ⟨kBA, y, m⟩]).run Tryd.prog w = .ok (some (1, y)) w := by kernel_rfl
theorem ks1 (w : World) : (Instr.keyThatStays kAB kAB).run Tryd.prog w = .ok kAB w := by kernel_rfl
theorem ks2 (w : World) : (Instr.keyThatStays kBA kBA).run Tryd.prog w = .ok kBA w := by kernel_rfl
theorem zKM (w : World) : (zeroValue 2).run Tryd.prog w = .ok (.int .i64 0) w := by kernel_rfl

section
variable {w : World} {b clock : Nat} {es : Array MapEntry} {key : Value}
theorem km_none (hb : w.heap[b]? = some (.map es clock)) (hc : ∀ em, (Instr.checkKey em 10000 86 key).run Tryd.prog w = .ok () w) (hf : (Instr.findKey 86 key es.toList).run Tryd.prog w = .ok none w) :
    (Instr.lookup 68 (.map (some b)) key false).run Tryd.prog w = .ok (.int .i64 0) w := by
  simp [Instr.lookup, run_underlying Tryd.underlying68, MapKept.run_getObj_map hb, hc, hf, zKM w, Result.andThen]
theorem km_some {i : Nat} {v : Value} (hb : w.heap[b]? = some (.map es clock)) (hc : ∀ em, (Instr.checkKey em 10000 86 key).run Tryd.prog w = .ok () w) (hf : (Instr.findKey 86 key es.toList).run Tryd.prog w = .ok (some (i, v)) w) :
    (Instr.lookup 68 (.map (some b)) key false).run Tryd.prog w = .ok v w := by
  simp [Instr.lookup, run_underlying Tryd.underlying68, MapKept.run_getObj_map hb, hc, hf, Result.andThen]
theorem km_new {v : Value} (hb : w.heap[b]? = some (.map es clock)) (hc : ∀ em, (Instr.checkKey em 10000 86 key).run Tryd.prog w = .ok () w) (hf : (Instr.findKey 86 key es.toList).run Tryd.prog w = .ok none w) :
    (Instr.mapUpdate 68 (.map (some b)) key v).run Tryd.prog w = .ok () (ChangeMaps.setBlock w b (.map (es.push ⟨key, v, clock⟩) (clock + 1))) := by
  simp [Instr.mapUpdate, run_underlying Tryd.underlying68, MapKept.run_getObj_map hb, hc, hf, MapKept.run_setObj_map _ hb, Result.andThen, ChangeMaps.setBlock]
theorem km_old {i : Nat} {v x : Value} {e0 : MapEntry} (hb : w.heap[b]? = some (.map es clock)) (hc : ∀ em, (Instr.checkKey em 10000 86 key).run Tryd.prog w = .ok () w) (hf : (Instr.findKey 86 key es.toList).run Tryd.prog w = .ok (some (i, x)) w)
    (hi : es[i]? = some e0) (hk : e0.key = key) (hs : (Instr.keyThatStays key key).run Tryd.prog w = .ok key w) :
    (Instr.mapUpdate 68 (.map (some b)) key v).run Tryd.prog w = .ok () (ChangeMaps.setBlock w b (.map (es.modify i fun e => { e with key, val := v }) clock)) := by
  simp [Instr.mapUpdate, run_underlying Tryd.underlying68, MapKept.run_getObj_map hb, hc, hf, hi, hk, hs, MapKept.run_setObj_map _ hb, Result.andThen, ChangeMaps.setBlock]
theorem km_enew (hb : w.heap[b]? = some (.map es clock)) (hc : ∀ em, (Instr.checkKey em 10000 86 key).run Tryd.prog w = .ok () w) (hf : (Instr.findKey 86 key es.toList).run Tryd.prog w = .ok none w) :
    (Instr.mapEntry 68 (.map (some b)) key).run Tryd.prog w = .ok (.tuple #[.int .i64 0, .int .i64 (clock : Int)]) (ChangeMaps.setBlock w b (.map (es.push ⟨key, .int .i64 0, clock⟩) (clock + 1))) := by
  simp [Instr.mapEntry, run_underlying Tryd.underlying68, MapKept.run_getObj_map hb, hc, hf, zKM w, MapKept.run_setObj_map _ hb, Result.andThen, ChangeMaps.setBlock, goInt]
theorem km_eold {i : Nat} {x : Value} {e0 : MapEntry} (hb : w.heap[b]? = some (.map es clock)) (hc : ∀ em, (Instr.checkKey em 10000 86 key).run Tryd.prog w = .ok () w) (hf : (Instr.findKey 86 key es.toList).run Tryd.prog w = .ok (some (i, x)) w)
    (hi : es[i]? = some e0) (hk : e0.key = key) (hs : (Instr.keyThatStays key key).run Tryd.prog w = .ok key w) :
    (Instr.mapEntry 68 (.map (some b)) key).run Tryd.prog w = .ok (.tuple #[x, .int .i64 (e0.born : Int)]) (ChangeMaps.setBlock w b (.map (es.modify i fun e => { e with key }) clock)) := by
  simp [Instr.mapEntry, run_underlying Tryd.underlying68, MapKept.run_getObj_map hb, hc, hf, hi, hk, hs, MapKept.run_setObj_map _ hb, Result.andThen, ChangeMaps.setBlock, goInt]
theorem km_est {n : Nat} {v : Value} {i : Nat} (hb : w.heap[b]? = some (.map es clock)) (hf : es.findIdx? (fun e => (e.born : Int) == (n : Int)) = some i) :
    (Instr.entryStore 68 (.map (some b)) (.int .i64 (n : Int)) v).run Tryd.prog w = .ok () (ChangeMaps.setBlock w b (.map (es.modify i fun e => { e with val := v }) clock)) := by
  simp [Instr.entryStore, MapKept.run_getObj_map hb, asInt, asIntOf, hf, MapKept.run_setObj_map _ hb, Result.andThen, ChangeMaps.setBlock]
theorem km_del {i : Nat} {x : Value} {ty : TypeId} (hb : w.heap[b]? = some (.map es clock)) (hc : ∀ em, (Instr.checkKey em 10000 86 key).run Tryd.prog w = .ok () w) (hf : (Instr.findKey 86 key es.toList).run Tryd.prog w = .ok (some (i, x)) w) :
    (Builtin.delete_ #[68, 86] ty #[.map (some b), key]).run Tryd.prog w = .ok (.tuple #[]) (ChangeMaps.setBlock w b (.map (es.eraseIdxIfInBounds i) clock)) := by
  simp [Builtin.delete_, run_underlying Tryd.underlying68, MapKept.run_getObj_map hb, hc, hf, MapKept.run_setObj_map _ hb, Result.andThen, ChangeMaps.setBlock]
end

/-- Block b holds these entries. -/
def KM (w : World) (b : Nat) (es : Array MapEntry) : Prop := w.heap[b]? = some (.map es 2)
theorem KM.lt {w : World} {b : Nat} {es : Array MapEntry} (h : KM w b es) : b < w.heap.size := lt_of_block h
theorem KM.touch {S : Nat → Prop} {w w' : World} {b : Nat} {es : Array MapEntry} (h : KM w b es) (ht : Touch S w w') (hn : ¬ S b) : KM w' b es := (ht.block b h.lt hn).trans h
def eAB (x : Int) : MapEntry := ⟨kAB, .int .i64 x, 0⟩
def eBA (x : Int) : MapEntry := ⟨kBA, .int .i64 x, 1⟩
theorem set_touch (w : World) (b : Nat) (o : Obj) (h : b < w.heap.size) : Touch (fun k => k = b) w (ChangeMaps.setBlock w b o) ∧ (ChangeMaps.setBlock w b o).heap[b]? = some o := by
  refine ⟨⟨rfl, rfl, rfl, by simp [ChangeMaps.setBlock], fun k hk hn => ?_⟩, by simp [ChangeMaps.setBlock, h]⟩
  simp [ChangeMaps.setBlock, Array.getElem?_setIfInBounds, show ¬ b = k from fun e => hn e.symm]

/-- What a look-up tells, of each of the maps that occur. -/
theorem KM.look1 {w : World} {b : Nat} {x y : Int} (h : KM w b #[eAB x, eBA y]) : (Instr.lookup 68 (.map (some b)) kAB false).run Tryd.prog w = .ok (.int .i64 x) w ∧ (Instr.lookup 68 (.map (some b)) kBA false).run Tryd.prog w = .ok (.int .i64 y) w :=
  ⟨km_some h (fun em => ck1 em w) (fk2a _ _ _ _ w), km_some h (fun em => ck2 em w) (fk2b _ _ _ _ w)⟩
theorem KM.look2 {w : World} {b : Nat} {x : Int} (h : KM w b #[eAB x]) : (Instr.lookup 68 (.map (some b)) kAB false).run Tryd.prog w = .ok (.int .i64 x) w ∧ (Instr.lookup 68 (.map (some b)) kBA false).run Tryd.prog w = .ok (.int .i64 0) w :=
  ⟨km_some h (fun em => ck1 em w) (fk1 _ _ w), km_none h (fun em => ck2 em w) (fk1n _ _ w)⟩
/-- A store at a key: the entry is fetched, then written. -/
def Upd (w : World) (b : Nat) (k : Value) (x z : Int) (G : World → Prop) : Prop := ∃ (n : Nat) (w1 w2 : World),
  (Instr.mapEntry 68 (.map (some b)) k).run Tryd.prog w = .ok (.tuple #[.int .i64 x, .int .i64 (n : Int)]) w1 ∧
  (Instr.entryStore 68 (.map (some b)) (.int .i64 (n : Int)) (.int .i64 z)).run Tryd.prog w1 = .ok () w2 ∧ G w2 ∧ (Instr.lookup 68 (.map (some b)) k false).run Tryd.prog w1 = .ok (.int .i64 x) w1 ∧ Touch (fun k => k = b) w w1 ∧ Touch (fun k => k = b) w w2
theorem upd_of {w : World} {b : Nat} {k : Value} {z x : Int} {n i c : Nat} {es1 es2 : Array MapEntry} {G : World → Prop} (hl : b < w.heap.size)
    (h1 : (Instr.mapEntry 68 (.map (some b)) k).run Tryd.prog w = .ok (.tuple #[.int .i64 x, .int .i64 (n : Int)]) (ChangeMaps.setBlock w b (.map es1 c)))
    (hf : es1.findIdx? (fun e => (e.born : Int) == (n : Int)) = some i) (he : (es1.modify i fun e => { e with val := .int .i64 z }) = es2) (hG : ∀ w', w'.heap[b]? = some (.map es2 c) → G w')
    (hq : ∀ w', w'.heap[b]? = some (.map es1 c) → (Instr.lookup 68 (.map (some b)) k false).run Tryd.prog w' = .ok (.int .i64 x) w') : Upd w b k x z G := by
  have t := set_touch w b (.map es1 c) hl
  have hl2 : b < (ChangeMaps.setBlock w b (.map es1 c)).heap.size := lt_of_block t.2
  have t2 := set_touch (ChangeMaps.setBlock w b (.map es1 c)) b (.map es2 c) hl2
  have r := km_est (v := .int .i64 z) t.2 hf
  rw [he] at r
  exact ⟨n, _, _, h1, r, hG _ t2.2, hq _ t.2, t.1, t.1.trans t2.1 (fun x hx => .inl hx)⟩
theorem KM.setA {w : World} {b : Nat} {x y : Int} (z : Int) (h : KM w b #[eAB x, eBA y]) : Upd w b kAB x z (fun w' => KM w' b #[eAB z, eBA y]) :=
  upd_of (x := x) (n := 0) (i := 0) (c := 2) (es1 := #[eAB x, eBA y]) h.lt (km_eold h (fun em => ck1 em w) (fk2a _ _ _ _ w) rfl rfl (ks1 w)) (by simp [eAB, eBA, List.findIdx?_cons]) rfl (fun _ h => h) (fun w h => km_some h (fun em => ck1 em w) (fk2a _ _ _ _ w))
theorem KM.setB {w : World} {b : Nat} {x y : Int} (z : Int) (h : KM w b #[eAB x, eBA y]) : Upd w b kBA y z (fun w' => KM w' b #[eAB x, eBA z]) :=
  upd_of (x := y) (n := 1) (i := 1) (c := 2) (es1 := #[eAB x, eBA y]) h.lt (km_eold h (fun em => ck2 em w) (fk2b _ _ _ _ w) rfl rfl (ks2 w)) (by simp [eAB, eBA, List.findIdx?_cons]) rfl (fun _ h => h) (fun w h => km_some h (fun em => ck2 em w) (fk2b _ _ _ _ w))
theorem KM.setO {w : World} {b : Nat} {x : Int} (z : Int) (h : KM w b #[eAB x]) : Upd w b kAB x z (fun w' => KM w' b #[eAB z]) :=
  upd_of (x := x) (n := 0) (i := 0) (c := 2) (es1 := #[eAB x]) h.lt (km_eold h (fun em => ck1 em w) (fk1 _ _ w) rfl rfl (ks1 w)) (by simp [eAB]) rfl (fun _ h => h) (fun w h => km_some h (fun em => ck1 em w) (fk1 _ _ w))
theorem KM.delB {w : World} {b : Nat} {x y : Int} (ty : TypeId) (h : KM w b #[eAB x, eBA y]) : ∃ w', (Builtin.delete_ #[68, 86] ty #[.map (some b), kBA]).run Tryd.prog w = .ok (.tuple #[]) w' ∧ KM w' b #[eAB x] ∧ Touch (fun k => k = b) w w' := by
  have t := set_touch w b (.map #[eAB x] 2) h.lt
  have e : (#[eAB x, eBA y] : Array MapEntry).eraseIdxIfInBounds 1 = #[eAB x] := by simp [Array.eraseIdxIfInBounds]
  have r := km_del (ty := ty) h (fun em => ck2 em w) (fk2b _ _ _ _ w)
  rw [e] at r
  exact ⟨_, r, t.2, t.1⟩
/-- The first two stores. -/
def KM0 (w : World) (b : Nat) : Prop := w.heap[b]? = some (.map #[] 0)
def KM1 (w : World) (b : Nat) (x : Int) : Prop := w.heap[b]? = some (.map #[eAB x] 1)
theorem KM0.touch {S : Nat → Prop} {w w' : World} {b : Nat} (h : KM0 w b) (ht : Touch S w w') (hn : ¬ S b) : KM0 w' b := (ht.block b (lt_of_block h) hn).trans h
theorem KM1.touch {S : Nat → Prop} {w w' : World} {b : Nat} {x : Int} (h : KM1 w b x) (ht : Touch S w w') (hn : ¬ S b) : KM1 w' b x := (ht.block b (lt_of_block h) hn).trans h
theorem KM0.first {w : World} {b : Nat} (z : Int) (h : KM0 w b) : (Instr.lookup 68 (.map (some b)) kAB false).run Tryd.prog w = .ok (.int .i64 0) w ∧ Upd w b kAB 0 z (fun w' => KM1 w' b z) :=
  ⟨km_none h (fun em => ck1 em w) (fk0 w), upd_of (x := 0) (n := 0) (i := 0) (c := 1) (es1 := #[eAB 0]) (lt_of_block h) (km_enew h (fun em => ck1 em w) (fk0 w)) (by simp [eAB]) rfl (fun _ h => h) (fun w h => km_some h (fun em => ck1 em w) (fk1 _ _ w))⟩
theorem KM1.second {w : World} {b : Nat} {x : Int} (z : Int) (h : KM1 w b x) : (Instr.lookup 68 (.map (some b)) kBA false).run Tryd.prog w = .ok (.int .i64 0) w ∧ Upd w b kBA 0 z (fun w' => KM w' b #[eAB x, eBA z]) :=
  ⟨km_none h (fun em => ck2 em w) (fk1n _ _ w), upd_of (x := 0) (n := 1) (i := 1) (c := 2) (es1 := #[eAB x, eBA 0]) (lt_of_block h) (km_enew h (fun em => ck2 em w) (fk1n _ _ w)) (by simp [eAB, eBA, List.findIdx?_cons]) rfl (fun _ h => h) (fun w h => km_some h (fun em => ck2 em w) (fk2b _ _ _ _ w))⟩

/-- An iterator over b: what has been seen. -/
def It (w : World) (b r : Nat) (seen : Array Nat) : Prop := w.heap[r]? = some (.mapIter (some b) 2 seen 2)
theorem It.lt {w : World} {b r : Nat} {seen : Array Nat} (h : It w b r seen) : r < w.heap.size := lt_of_block h
theorem It.touch {S : Nat → Prop} {w w' : World} {b r : Nat} {seen : Array Nat} (h : It w b r seen) (ht : Touch S w w') (hn : ¬ S r) : It w' b r seen := (ht.block r h.lt hn).trans h
theorem It.left {w : World} {b r : Nat} {es : Array MapEntry} {seen : Array Nat} (h : It w b r seen) (hm : KM w b es) : w.rangeLeft b r = (leftOf es seen).size := by
  unfold World.rangeLeft
  rw [show w.heap[b]? = _ from hm, show w.heap[r]? = _ from h]

section
variable {w : World} {ops : Array Oper} {rest : List Oper} {o : Oper} {a : Act} {Q : Exit → Act → World → Prop}
theorem wpList_range_km (hg : o.guard = none) (m : Operand) (hop : o.op = Op.range 68 m) (b : Nat) (es : Array MapEntry) (hm : a.eval m = .map (some b)) (h : KM w b es)
    (hK : ∀ w', It w' b w.heap.size #[] → KM w' b es → Touch (fun _ => False) w w' → wpList Tryd.prog ops Q rest (a.put o.dst (.pointer (some ⟨w.heap.size, 0, none⟩))) w') :
    wpList Tryd.prog ops Q (o :: rest) a w := by
  refine wpList_plain hg fun K' hK' => ?_
  have hrun := run_range_map (P := Tryd.prog) w 68 86 2 b es 2 Tryd.underlying68 h
  have ht : Touch (fun _ => False) w (w.alloc (.mapIter (some b) 2 #[] 2)) := (Touch.refl _ w).alloc _
  unfold Oper.wp
  simp [execOp, hop, hm, hrun, Result.andThen]
  exact hK' _ _ (hK _ (heap_alloc_new _ _) (h.touch ht (fun h => h)) ht)

theorem wpList_next_km (hg : o.guard = none) (it : Operand) (hop : o.op = Op.next it false) (b r : Nat) (es : Array MapEntry) (seen : Array Nat) (hit : a.eval it = .pointer (some ⟨r, 0, none⟩)) (hI : It w b r seen) (hM : KM w b es)
    (hold : ∀ x ∈ es.toList, x.born < 2) (hnd : (es.toList.map (·.born)).Nodup)
    (hDone : (leftOf es seen).size = 0 → wpList Tryd.prog ops Q rest (a.put o.dst (.tuple #[.bool false])) w)
    (hMore : ∀ e ∈ (leftOf es seen).toList, ∀ w', It w' b r (seen.push e.born) → KM w' b es → Touch (fun k => k = r) w w' → (Instr.entry (.pointer (some ⟨r, 0, none⟩))).run Tryd.prog w' = .ok (.tuple #[e.key, e.val]) w' →
      wpList Tryd.prog ops Q rest (a.put o.dst (.tuple #[.bool true, e.key, e.val])) w') :
    wpList Tryd.prog ops Q (o :: rest) a w := by
  refine wpList_plain hg fun K' hK' => ?_
  unfold Oper.wp
  rcases run_next_at (P := Tryd.prog) w o.type r b 2 2 seen es 2 hI hM hold (Nat.le_refl _) with ⟨h0, hrun⟩ | ⟨e, he, w1, hw1, hrun⟩
  · simp [execOp, hop, hit, hrun, Result.andThen]
    exact hK' _ _ (hDone h0)
  · have ht1 : Touch (fun _ => False) w w1 := by
      rcases hw1 with rfl | rfl
      · exact Touch.refl _ _
      · exact (Touch.refl _ w).drew
    have hl1 : r < w1.heap.size := by have := ht1.size; have := hI.lt; omega
    have hM1 := hM.touch ht1 (fun h => h)
    have st := set_touch w1 r (.mapIter (some b) 2 (seen.push e.born) 2) hl1
    have hne : ¬ b = r := fun e1 => by
      have h1 : w.heap[b]? = _ := hM
      have h2 : w.heap[r]? = _ := hI
      rw [e1, h2] at h1
      cases h1
    have hM2 := hM1.touch st.1 hne
    have he1 : e ∈ es.toList := by
      unfold leftOf at he
      simp at he ⊢
      exact he.1
    simp [execOp, hop, hit, hrun, Result.andThen]
    exact hK' _ _ (hMore e he _ st.2 hM2 ((ht1.mono (fun x hx => hx.elim)).trans st.1 (fun x hx => .inl hx)) (run_entry_at _ r b 2 seen es 2 e st.2 hM2 he1 hnd))

theorem wpList_del_km (hg : o.guard = none) (m x : Operand) (hop : o.op = Op.call { callee := Callee.builtin Builtin.delete, args := #[m, x], argTypes := #[68, 86] })
    (b : Nat) (u v : Int) (hm : a.eval m = .map (some b)) (h : KM w b #[eAB u, eBA v]) (hx : a.eval x = kBA)
    (hK : ∀ w', KM w' b #[eAB u] → Touch (fun k => k = b) w w' → wpList Tryd.prog ops Q rest (a.put o.dst (.tuple #[])) w') :
    wpList Tryd.prog ops Q (o :: rest) a w := by
  refine wpList_plain hg fun K' hK' => ?_
  obtain ⟨w', hrun, r1, r2⟩ := h.delB o.type
  unfold Oper.wp
  simp [execOp, hop, resolve, invoke, builtin, hm, hx, hrun, Result.andThen]
  exact hK' _ _ (hK w' r1 r2)
end


/-- The example's debts. -/
def exN : List Value := [.string ⟨#[97]⟩, .string ⟨#[98]⟩, .string ⟨#[85, 83, 68]⟩, .int .i64 5, .string ⟨#[98]⟩, .string ⟨#[97]⟩, .string ⟨#[85, 83, 68]⟩, .int .i64 3]
/-- Block b holds them. -/
def ExN (w : World) (b : Nat) : Prop := w.heap[b]? = some (.cells exN.toArray 49 (0, 0))
theorem ExN.lt {w : World} {b : Nat} (h : ExN w b) : b < w.heap.size := lt_of_block h
theorem ExN.below {w w' : World} {b : Nat} (h : ExN w b) (hb : Below w.heap.size w w') : ExN w' b := (hb.block b h.lt).trans h
theorem ExN.cell {w : World} {b : Nat} (h : ExN w b) (i : Nat) : w.cell? ⟨b, i, none⟩ = exN.toArray[i]? := by simp [World.cell?, show w.heap[b]? = _ from h]

set_option maxHeartbeats 1000000 in
theorem usd_any (w : World) :
    Calls Tryd.prog 66 #[.string ⟨#[85, 83, 68]⟩] w fun e w' => e = .returned (.bool true) ∧ w' = w := by
  go_enter Tryd.func66, Tryd.ntmps66
  go_wp2
  go_loopw [9] (fun i wr => ∃ k : Nat, k ≤ 3 ∧ i = .int .i64 (k : Int) ∧ Hid (wr = w)) (fun i _ => 3 - (intOf i).toNat)
  case atStart => exact ⟨0, Nat.zero_le _, rfl, Lib.hid rfl⟩
  case round =>
    obtain ⟨k, hk, rfl, hw⟩ := hrel
    obtain rfl | rfl | rfl | rfl : k = 0 ∨ k = 1 ∨ k = 2 ∨ k = 3 := by omega
    · have HI := byt_run (P := Tryd.prog) 9 ⟨#[85, 83, 68]⟩ 0 Tryd.underlying9 (by decide)
      rw [show byt ⟨#[85, 83, 68]⟩ 0 = 85 by decide] at HI
      go_wp2
      go_roundw
      case rel => exact ⟨1, by omega, by go_num, hw⟩
      case measure => simp [intOf]
    · have HI := byt_run (P := Tryd.prog) 9 ⟨#[85, 83, 68]⟩ 1 Tryd.underlying9 (by decide)
      rw [show byt ⟨#[85, 83, 68]⟩ 1 = 83 by decide] at HI
      go_wp2
      go_roundw
      case rel => exact ⟨2, by omega, by go_num, hw⟩
      case measure => simp [intOf]
    · have HI := byt_run (P := Tryd.prog) 9 ⟨#[85, 83, 68]⟩ 2 Tryd.underlying9 (by decide)
      rw [show byt ⟨#[85, 83, 68]⟩ 2 = 68 by decide] at HI
      go_wp2
      go_roundw
      case rel => exact ⟨3, by omega, by go_num, hw⟩
      case measure => simp [intOf]
    · go_wp2
      go_ret
      exact ⟨rfl, hw.out⟩

set_option maxHeartbeats 1000000 in
theorem mmay_usd (z : Int) (h0 : 1 ≤ z) (h1 : z ≤ 5) (w : World) :
    Calls Tryd.prog 56 #[.agg #[.string ⟨#[85, 83, 68]⟩, .int .i64 z]] w fun e w' => e = .returned (.bool true) ∧ Below w.heap.size w w' := by
  have d1 : decide (-1099511627776 ≤ z) = true := by rw [decide_eq_true_iff]; omega
  have d2 : decide (z ≤ 1099511627776) = true := by rw [decide_eq_true_iff]; omega
  have HB := Lib.hid ((Below.refl w.heap.size w).alloc (Nat.le_refl _) (.cells #[.string ⟨#[85, 83, 68]⟩, .int .i64 z] 106))
  clear h0 h1
  go_enter Tryd.func56, Tryd.ntmps56
  go_wp2_with fail
  refine (usd_any _).mono ?_
  rintro e w1 ⟨rfl, rfl⟩
  go_wp2
  go_ret
  exact ⟨rfl, HB.out⟩

set_option maxHeartbeats 1000000 in
theorem dmay_ex (f t : ByteArray) (z : Int) (hf : nameB f = true) (ht : nameB t = true) (hne : (f.toList == t.toList) = false) (h0 : 1 ≤ z) (h1 : z ≤ 5) (w : World) :
    Calls Tryd.prog 50 #[.agg #[.string f, .string t, .string ⟨#[85, 83, 68]⟩, .int .i64 z]] w fun e w' => e = .returned (.bool true) ∧ Below w.heap.size w w' := by
  have HN1 := Lib.hid (fun w => name_any f w)
  have HN2 := Lib.hid (fun w => name_any t w)
  rw [hf] at HN1
  rw [ht] at HN2
  have HM := Lib.hid (fun w => mmay_usd z h0 h1 w)
  have d1 : decide (1 ≤ z) = true := by rw [decide_eq_true_iff]; omega
  have HB := Lib.hid ((Below.refl w.heap.size w).alloc (Nat.le_refl _) (.cells #[.string f, .string t, .string ⟨#[85, 83, 68]⟩, .int .i64 z] 49))
  clear h0 h1 hf ht
  go_enter Tryd.func50, Tryd.ntmps50
  go_wp2_with fail
  refine (HN1.out _).mono ?_
  rintro e w1 ⟨rfl, rfl⟩
  go_wp2_with fail
  refine (HN2.out _).mono ?_
  rintro e w1 ⟨rfl, rfl⟩
  go_wp2_with fail
  refine (HM.out _).mono ?_
  rintro e w1 ⟨rfl, hb⟩
  have HB2 := Lib.hid (bq HB.out hb)
  clear hb
  go_wp2
  go_ret
  exact ⟨rfl, HB2.out⟩

set_option maxHeartbeats 1000000 in
theorem bad_ex (f t : ByteArray) (z : Int) (hf : nameB f = true) (ht : nameB t = true) (hne : (f.toList == t.toList) = false) (h0 : 1 ≤ z) (h1 : z ≤ 5) (w : World) :
    Calls Tryd.prog 49 #[.agg #[.string f, .string t, .string ⟨#[85, 83, 68]⟩, .int .i64 z]] w fun e w' => e = .returned (.bool false) ∧ Below w.heap.size w w' := by
  have HM := Lib.hid (fun w => dmay_ex f t z hf ht hne h0 h1 w)
  have HB := Lib.hid ((Below.refl w.heap.size w).alloc (Nat.le_refl _) (.cells #[.string f, .string t, .string ⟨#[85, 83, 68]⟩, .int .i64 z] 49))
  clear h0 h1 hf ht hne
  go_enter Tryd.func49, Tryd.ntmps49
  go_wp2_with fail
  refine (HM.out _).mono ?_
  rintro e w1 ⟨rfl, hb⟩
  have HB2 := Lib.hid (bq HB.out hb)
  clear hb
  go_wp2
  go_ret
  exact ⟨rfl, HB2.out⟩

set_option maxHeartbeats 1000000 in
theorem idx_ex (b : Nat) (w : World) (h : ExN w b) :
    Calls Tryd.prog 55 #[.slice (some ⟨b, 0, none⟩) 2 2, .func (.func 49) #[] #[]] w fun e w' => e = .returned (.int .i64 (-1)) ∧ Below w.heap.size w w' := by
  have H := Lib.hid h
  have HA := Lib.hid (fun w => bad_ex ⟨#[97]⟩ ⟨#[98]⟩ 5 (by decide) (by decide) (by decide +kernel) (by omega) (by omega) w)
  have HC := Lib.hid (fun w => bad_ex ⟨#[98]⟩ ⟨#[97]⟩ 3 (by decide) (by decide) (by decide +kernel) (by omega) (by omega) w)
  have HB0 := Lib.hid (Below.refl w.heap.size w)
  clear h
  go_enter Tryd.func55, Tryd.ntmps55
  go_wp2
  go_loopw [8] (fun i wr => ∃ k : Nat, k ≤ 2 ∧ i = .int .i64 (k : Int) ∧ Hid (Below w.heap.size w wr)) (fun i _ => 2 - (intOf i).toNat)
  case atStart => exact ⟨0, Nat.zero_le _, rfl, HB0⟩
  case round =>
    clear HB0
    obtain ⟨k, hk, rfl, hb⟩ := hrel
    have h := H.out.below hb.out
    obtain rfl | rfl | rfl : k = 0 ∨ k = 1 ∨ k = 2 := by omega
    · have c0 := h.cell 0
      have c1 := h.cell 1
      have c2 := h.cell 2
      have c3 := h.cell 3
      simp [exN] at c0 c1 c2 c3
      clear h
      go_wp2_with fail
      refine (HA.out _).mono ?_
      rintro e w1 ⟨rfl, hb1⟩
      have HB2 := Lib.hid (bq hb.out hb1)
      clear hb1
      go_wp2
      go_roundw
      case rel => exact ⟨1, by omega, by go_num, HB2⟩
      case measure => simp [intOf]
    · have c0 := h.cell 4
      have c1 := h.cell 5
      have c2 := h.cell 6
      have c3 := h.cell 7
      simp [exN] at c0 c1 c2 c3
      clear h
      go_wp2_with fail
      refine (HC.out _).mono ?_
      rintro e w1 ⟨rfl, hb1⟩
      have HB2 := Lib.hid (bq hb.out hb1)
      clear hb1
      go_wp2
      go_roundw
      case rel => exact ⟨2, by omega, by go_num, HB2⟩
      case measure => simp [intOf]
    · clear h
      go_wp2
      go_ret
      exact ⟨rfl, hb.out⟩

theorem may_ex (b : Nat) (w : World) (h : ExN w b) :
    Calls Tryd.prog 41 #[.slice (some ⟨b, 0, none⟩) 2 2] w fun e w' => e = .returned (.bool true) ∧ Below w.heap.size w w' := by
  have HC : Calls Tryd.prog 48 #[.slice (some ⟨b, 0, none⟩) 2 2, .func (.func 49) #[] #[]] w fun e w' => e = .returned (.bool false) ∧ Below w.heap.size w w' := by
    have HI := Lib.hid (idx_ex b w h)
    go_enter Tryd.func48, Tryd.ntmps48
    go_wp2_with fail
    refine HI.out.mono ?_
    rintro e w1 ⟨rfl, hb⟩
    have HB := Lib.hid hb
    clear hb
    go_wp2
    go_ret
    exact ⟨rfl, HB.out⟩
  have HC := Lib.hid HC
  go_enter Tryd.func41, Tryd.ntmps41
  go_wp2_with fail
  refine HC.out.mono ?_
  rintro e w1 ⟨rfl, hb⟩
  have HB := Lib.hid hb
  clear hb
  go_wp2
  go_ret
  exact ⟨rfl, HB.out⟩


theorem born_two {x y : Int} : (∀ e ∈ (#[eAB x, eBA y] : Array MapEntry).toList, e.born < 2) ∧ (((#[eAB x, eBA y] : Array MapEntry).toList.map (·.born)).Nodup) := by simp [eAB, eBA]
theorem born_one {x : Int} : (∀ e ∈ (#[eAB x] : Array MapEntry).toList, e.born < 2) ∧ (((#[eAB x] : Array MapEntry).toList.map (·.born)).Nodup) := by simp [eAB]
theorem left_two {x y : Int} : (leftOf #[eAB x, eBA y] #[]).size = 2 ∧ ∀ e ∈ leftOf #[eAB x, eBA y] #[], e = eAB x ∨ e = eBA y := by
  have e : leftOf #[eAB x, eBA y] #[] = #[eAB x, eBA y] := by simp [leftOf]
  rw [e]; simp
theorem left_one {x : Int} {seen : Array Nat} (h : ¬ 0 ∈ seen) : (leftOf #[eAB x] seen).size = 1 ∧ ∀ e ∈ leftOf #[eAB x] seen, e = eAB x := by
  have e : leftOf #[eAB x] seen = #[eAB x] := by simp [leftOf, eAB, h]
  rw [e]; simp
theorem left_none {x : Int} {seen : Array Nat} (h : 0 ∈ seen) : (leftOf #[eAB x] seen).size = 0 ∧ ∀ e, ¬ e ∈ leftOf #[eAB x] seen := by
  have e : leftOf #[eAB x] seen = #[] := by simp [leftOf, eAB, h]
  rw [e]; simp

theorem ixA0 (w : World) : (Instr.index 87 (.agg #[.string ⟨#[85, 83, 68]⟩, .string ⟨#[97]⟩, .string ⟨#[98]⟩, .string ⟨#[85, 83, 68]⟩, .string ⟨#[98]⟩, .string ⟨#[97]⟩]) (.int .i64 0)).run Tryd.prog w = .ok (.agg #[.string ⟨#[85, 83, 68]⟩, .string ⟨#[97]⟩, .string ⟨#[98]⟩]) w := by kernel_rfl
theorem ixA1 (w : World) : (Instr.index 87 (.agg #[.string ⟨#[85, 83, 68]⟩, .string ⟨#[97]⟩, .string ⟨#[98]⟩, .string ⟨#[85, 83, 68]⟩, .string ⟨#[98]⟩, .string ⟨#[97]⟩]) (.int .i64 1)).run Tryd.prog w = .ok (.agg #[.string ⟨#[85, 83, 68]⟩, .string ⟨#[98]⟩, .string ⟨#[97]⟩]) w := by kernel_rfl
theorem ixB0 (w : World) : (Instr.index 87 (.agg #[.string ⟨#[85, 83, 68]⟩, .string ⟨#[98]⟩, .string ⟨#[97]⟩, .string ⟨#[85, 83, 68]⟩, .string ⟨#[97]⟩, .string ⟨#[98]⟩]) (.int .i64 0)).run Tryd.prog w = .ok (.agg #[.string ⟨#[85, 83, 68]⟩, .string ⟨#[98]⟩, .string ⟨#[97]⟩]) w := by kernel_rfl
theorem ixB1 (w : World) : (Instr.index 87 (.agg #[.string ⟨#[85, 83, 68]⟩, .string ⟨#[98]⟩, .string ⟨#[97]⟩, .string ⟨#[85, 83, 68]⟩, .string ⟨#[97]⟩, .string ⟨#[98]⟩]) (.int .i64 1)).run Tryd.prog w = .ok (.agg #[.string ⟨#[85, 83, 68]⟩, .string ⟨#[97]⟩, .string ⟨#[98]⟩]) w := by kernel_rfl
/-- How far the netting is. -/
def StN (es : Array MapEntry) (seen : Array Nat) : Prop := (es = #[eAB 5, eBA 3] ∧ seen = #[]) ∨ (es = #[eAB 2] ∧ seen = #[1]) ∨ (es = #[eAB 2] ∧ 0 ∈ seen)

/-- A box behind a store elsewhere. -/
theorem box_far {S : Nat → Prop} {w w2 : World} {j : Nat} {v : Value} {cs : Array Value} {t : TypeId} (h : Touch S ((w.alloc (.cells cs t))).drew w2) (hS : ¬ S w.heap.size) (hv : cs[j]? = some v) : w2.cell? ⟨w.heap.size, j, none⟩ = some v := by
  have e := (h.block w.heap.size (by simp) hS).trans (heap_alloc_new w (.cells cs t))
  unfold World.cell?
  rw [e]; exact hv

def NettedPost (w : World) (e : Ending) (w' : World) : Prop := ∃ bm, e = .returned (.tuple #[.map (some bm), .int .i64 0]) ∧ KM w' bm #[eAB 2] ∧ w.heap.size ≤ bm ∧ Below w.heap.size w w'

set_option maxRecDepth 100000 in
set_option maxHeartbeats 8000000 in
theorem netted_ex (b : Nat) (w : World) (h : ExN w b) :
    Calls Tryd.prog 27 #[.slice (some ⟨b, 0, none⟩) 2 2] w (NettedPost w) := by
  have H := Lib.hid h
  have HM := Lib.hid (may_ex b w h)
  have hmm := @run_makeMap Tryd.prog 68
  clear h
  go_enter Tryd.func27, Tryd.ntmps27
  go_wp2_with fail
  refine HM.out.mono ?_
  rintro e w1 ⟨rfl, hb1⟩
  have HB1 := Lib.hid hb1
  have HK0 := Lib.hid (show KM0 (w1.alloc (.map #[] 0)) w1.heap.size from heap_alloc_new _ _)
  have HB2 := Lib.hid (hb1.alloc hb1.size (.map #[] 0))
  have HLo := Lib.hid hb1.size
  clear hb1 HM
  obtain ⟨bm, hbm⟩ : ∃ x, x = w1.heap.size := ⟨_, rfl⟩
  go_wp2_with fail
  rw [← hbm] at HK0 HLo ⊢
  clear hbm
  go_loopw [21] (fun i wr => ∃ k : Nat, k ≤ 2 ∧ i = .int .i64 (k : Int) ∧ Hid (Below w.heap.size w wr) ∧ Hid (k = 0 → KM0 wr bm) ∧ Hid (k = 1 → KM1 wr bm 5) ∧ Hid (k = 2 → KM wr bm #[eAB 5, eBA 3])) (fun i _ => 2 - (intOf i).toNat)
  case atStart => exact ⟨0, Nat.zero_le _, rfl, HB2, Lib.hid (fun _ => HK0.out), Lib.hid (fun h => by cases h), Lib.hid (fun h => by cases h)⟩
  case round =>
    clear HB2 HK0 hmm
    obtain ⟨k, hk, rfl, hb, k0, k1, k2⟩ := hrel
    have h := H.out.below hb.out
    obtain rfl | rfl | rfl : k = 0 ∨ k = 1 ∨ k = 2 := by omega
    · have c0 := h.cell 0
      have c1 := h.cell 1
      have c2 := h.cell 2
      have c3 := h.cell 3
      simp [exN] at c0 c1 c2 c3
      have HT := Lib.hid (((Touch.refl (fun k => k = bm) wr).alloc (.cells #[.string ⟨#[97]⟩, .string ⟨#[98]⟩, .string ⟨#[85, 83, 68]⟩, .int .i64 5] 49)).drew)
      have HKq := Lib.hid ((k0.out rfl).touch ((((Touch.refl (fun k => False) wr).alloc (.cells #[.string ⟨#[97]⟩, .string ⟨#[98]⟩, .string ⟨#[85, 83, 68]⟩, .int .i64 5] 49)).drew)) (fun h => h))
      have HKx := Lib.hid (lt_of_block (k0.out rfl))
      obtain ⟨hlk, n5, w4, w5, hen, hst, hm5, hlk4, ht4, ht5⟩ := HKq.out.first 5
      have vw : IntKind.i64.wrap 5 = 5 := by decide
      have hnb : ¬ wr.heap.size = bm := by have := HKx.out; omega
      have z0 := box_far (j := 0) (v := .string ⟨#[97]⟩) (cs := #[.string ⟨#[97]⟩, .string ⟨#[98]⟩, .string ⟨#[85, 83, 68]⟩, .int .i64 5]) (t := 49) ht4 hnb rfl
      have z1 := box_far (j := 1) (v := .string ⟨#[98]⟩) (cs := #[.string ⟨#[97]⟩, .string ⟨#[98]⟩, .string ⟨#[85, 83, 68]⟩, .int .i64 5]) (t := 49) ht4 hnb rfl
      have z2 := box_far (j := 2) (v := .string ⟨#[85, 83, 68]⟩) (cs := #[.string ⟨#[97]⟩, .string ⟨#[98]⟩, .string ⟨#[85, 83, 68]⟩, .int .i64 5]) (t := 49) ht4 hnb rfl
      have z3 := box_far (j := 3) (v := .int .i64 5) (cs := #[.string ⟨#[97]⟩, .string ⟨#[98]⟩, .string ⟨#[85, 83, 68]⟩, .int .i64 5]) (t := 49) ht4 hnb rfl
      have HM5 := Lib.hid hm5
      have HB5 := Lib.hid (hb.out.trans ((HT.out.trans ht5 (fun x hx => .inl hx)).below hb.out.size (fun x hx => by have := HLo.out; omega)))
      unfold kAB at hlk hen hlk4
      clear h hnb hm5 ht4 ht5 k0 k1 k2 HT HKq HKx
      go_wp2_with fail
      go_region
      all_goals
        go_wp2
        go_roundw
        case rel => exact ⟨1, by omega, by go_num, HB5, Lib.hid (fun h => by cases h), Lib.hid (fun _ => HM5.out), Lib.hid (fun h => by cases h)⟩
        case measure => simp [intOf]
    · have c0 := h.cell 4
      have c1 := h.cell 5
      have c2 := h.cell 6
      have c3 := h.cell 7
      simp [exN] at c0 c1 c2 c3
      have HT := Lib.hid (((Touch.refl (fun k => k = bm) wr).alloc (.cells #[.string ⟨#[98]⟩, .string ⟨#[97]⟩, .string ⟨#[85, 83, 68]⟩, .int .i64 3] 49)).drew)
      have HKq := Lib.hid ((k1.out rfl).touch ((((Touch.refl (fun k => False) wr).alloc (.cells #[.string ⟨#[98]⟩, .string ⟨#[97]⟩, .string ⟨#[85, 83, 68]⟩, .int .i64 3] 49)).drew)) (fun h => h))
      have HKx := Lib.hid (lt_of_block (k1.out rfl))
      obtain ⟨hlk, n5, w4, w5, hen, hst, hm5, hlk4, ht4, ht5⟩ := HKq.out.second 3
      have vw : IntKind.i64.wrap 3 = 3 := by decide
      have hnb : ¬ wr.heap.size = bm := by have := HKx.out; omega
      have z0 := box_far (j := 0) (v := .string ⟨#[98]⟩) (cs := #[.string ⟨#[98]⟩, .string ⟨#[97]⟩, .string ⟨#[85, 83, 68]⟩, .int .i64 3]) (t := 49) ht4 hnb rfl
      have z1 := box_far (j := 1) (v := .string ⟨#[97]⟩) (cs := #[.string ⟨#[98]⟩, .string ⟨#[97]⟩, .string ⟨#[85, 83, 68]⟩, .int .i64 3]) (t := 49) ht4 hnb rfl
      have z2 := box_far (j := 2) (v := .string ⟨#[85, 83, 68]⟩) (cs := #[.string ⟨#[98]⟩, .string ⟨#[97]⟩, .string ⟨#[85, 83, 68]⟩, .int .i64 3]) (t := 49) ht4 hnb rfl
      have z3 := box_far (j := 3) (v := .int .i64 3) (cs := #[.string ⟨#[98]⟩, .string ⟨#[97]⟩, .string ⟨#[85, 83, 68]⟩, .int .i64 3]) (t := 49) ht4 hnb rfl
      have HM5 := Lib.hid hm5
      have HB5 := Lib.hid (hb.out.trans ((HT.out.trans ht5 (fun x hx => .inl hx)).below hb.out.size (fun x hx => by have := HLo.out; omega)))
      unfold kBA at hlk hen hlk4
      clear h hnb hm5 ht4 ht5 k0 k1 k2 HT HKq HKx
      go_wp2_with fail
      go_region
      all_goals
        go_wp2
        go_roundw
        case rel => exact ⟨2, by omega, by go_num, HB5, Lib.hid (fun h => by cases h), Lib.hid (fun h => by cases h), Lib.hid (fun _ => HM5.out)⟩
        case measure => simp [intOf]
    · clear h k0 k1
      have HK := Lib.hid (k2.out rfl)
      clear k2
      go_wp2_with (at_range; refine wpList_range_km rfl _ rfl bm _ rfl HK.out ?_; intro w5 hi5 hk5 ht5)
      go_frame
      have HI5 := Lib.hid hi5
      have HK5 := Lib.hid hk5
      have HB5 := Lib.hid (bq hb.out (ht5.below (Nat.le_refl _) (fun x hx => hx.elim)))
      have HNe := Lib.hid (show ¬ wr.heap.size = bm by have := HK.out.lt; omega)
      have HLr := Lib.hid hb.out.size
      obtain ⟨br, hbr⟩ : ∃ x, x = wr.heap.size := ⟨_, rfl⟩
      rw [← hbr] at HI5 HNe HLr ⊢
      clear hi5 hk5 ht5 HK hb hbr
      go_loopw [8, 10] (fun _ _ wr => ∃ (es : Array MapEntry) (seen : Array Nat), Hid (StN es seen) ∧ Hid (KM wr bm es) ∧ Hid (It wr bm br seen) ∧ Hid (Below w.heap.size w wr)) (fun _ _ wr => wr.rangeLeft bm br)
      case atStart => exact ⟨_, _, Lib.hid (.inl ⟨rfl, rfl⟩), HK5, HI5, HB5⟩
      case round =>
        clear HB5 HI5 HK5
        obtain ⟨es, seen, hs, hk, hi, hb⟩ := hrel
        rcases hs.out with ⟨rfl, rfl⟩ | ⟨rfl, rfl⟩ | ⟨rfl, hsn⟩
        · go_wp2_with (at_next; refine wpList_next_km rfl _ rfl bm br _ _ rfl hi.out hk.out born_two.1 born_two.2 (fun h0 => by rw [left_two.1] at h0; cases h0) ?_)
          intro e he w6 hi6 hk6 ht6 hen
          have HLf := Lib.hid (hi.out.left hk.out)
          have HB6 := Lib.hid (hb.out.trans (ht6.below hb.out.size (fun x hx => by have := HLr.out; omega)))
          rcases left_two.2 e he with rfl | rfl
          -- ROUND
          · clear he hs hk hi hb
            dsimp only [eAB, kAB] at hen hi6 ⊢
            have HI6 := Lib.hid hi6
            have HK6 := Lib.hid hk6
            have HKx := Lib.hid (HK6.out.touch ((Touch.refl (fun k => False) w6).alloc (.cells #[.string ⟨#[85, 83, 68]⟩, .string ⟨#[97]⟩, .string ⟨#[98]⟩] 86)) (fun h => h))
            have HKy := Lib.hid (HK6.out.touch (((Touch.refl (fun k => False) w6).alloc (.cells #[.string ⟨#[85, 83, 68]⟩, .string ⟨#[97]⟩, .string ⟨#[98]⟩] 86)).alloc (.cells #[.string ⟨#[85, 83, 68]⟩, .string ⟨#[98]⟩, .string ⟨#[97]⟩] 86)) (fun h => h))
            have HIy := Lib.hid (HI6.out.touch (((Touch.refl (fun k => False) w6).alloc (.cells #[.string ⟨#[85, 83, 68]⟩, .string ⟨#[97]⟩, .string ⟨#[98]⟩] 86)).alloc (.cells #[.string ⟨#[85, 83, 68]⟩, .string ⟨#[98]⟩, .string ⟨#[97]⟩] 86)) (fun h => h))
            have HBy := Lib.hid (HB6.out.trans ((((Below.refl w6.heap.size w6).alloc (Nat.le_refl _) (.cells #[.string ⟨#[85, 83, 68]⟩, .string ⟨#[97]⟩, .string ⟨#[98]⟩] 86)).alloc (by simp) (.cells #[.string ⟨#[85, 83, 68]⟩, .string ⟨#[98]⟩, .string ⟨#[97]⟩] 86)).mono (by have := HB6.out.size; omega)))
            have hlk := HKy.out.look1.2
            unfold kBA at hlk
            have hmin : (min (3 : Int) 5) = 3 := by decide
            have hmin2 : (min (5 : Int) 3) = 3 := by decide
            clear hi6 hk6 ht6
            go_wp2_with fail
            go_loopw [64] (fun i wr => ∃ j : Nat, j ≤ 2 ∧ i = .int .i64 (j : Int) ∧ Hid (It wr bm br #[0]) ∧ Hid (Below w.heap.size w wr) ∧ Hid (j = 0 → KM wr bm #[eAB 5, eBA 3]) ∧ Hid (j = 1 → KM wr bm #[eAB 2, eBA 3]) ∧ Hid (j = 2 → KM wr bm #[eAB 2])) (fun i _ => 2 - (intOf i).toNat)
            case atStart => exact ⟨0, Nat.zero_le _, rfl, HIy, HBy, Lib.hid (fun _ => HKy.out), Lib.hid (fun h => by cases h), Lib.hid (fun h => by cases h)⟩
            case round =>
              clear HIy HBy HKy HKx hlk hen HI6 HK6 HB6
              have ix0 := ixA0 wr
              have ix1 := ixA1 wr
              obtain ⟨j, hj, rfl, hi, hb, k0, k1, k2⟩ := hrel
              obtain rfl | rfl | rfl : j = 0 ∨ j = 1 ∨ j = 2 := by omega
              · have HT := Lib.hid (((Touch.refl (fun k => k = bm) wr).alloc (.cells #[.string ⟨#[85, 83, 68]⟩, .string ⟨#[97]⟩, .string ⟨#[98]⟩] 86)).drew)
                have HKq := Lib.hid ((k0.out rfl).touch ((((Touch.refl (fun k => False) wr).alloc (.cells #[.string ⟨#[85, 83, 68]⟩, .string ⟨#[97]⟩, .string ⟨#[98]⟩] 86)).drew)) (fun h => h))
                have HIq := Lib.hid (hi.out.touch ((((Touch.refl (fun k => False) wr).alloc (.cells #[.string ⟨#[85, 83, 68]⟩, .string ⟨#[97]⟩, .string ⟨#[98]⟩] 86)).drew)) (fun h => h))
                have hnb2 : ¬ wr.heap.size = bm := by have := (k0.out rfl).lt; omega
                have hlk := HKq.out.look1.1
                obtain ⟨n5, w4, w5, hen4, hst, hm5, hlk4, ht4, ht5⟩ := HKq.out.setA 2
                have z0 := box_far (j := 0) (v := .string ⟨#[85, 83, 68]⟩) (cs := #[.string ⟨#[85, 83, 68]⟩, .string ⟨#[97]⟩, .string ⟨#[98]⟩]) (t := 86) ht4 hnb2 rfl
                have z1 := box_far (j := 1) (v := .string ⟨#[97]⟩) (cs := #[.string ⟨#[85, 83, 68]⟩, .string ⟨#[97]⟩, .string ⟨#[98]⟩]) (t := 86) ht4 hnb2 rfl
                have z2 := box_far (j := 2) (v := .string ⟨#[98]⟩) (cs := #[.string ⟨#[85, 83, 68]⟩, .string ⟨#[97]⟩, .string ⟨#[98]⟩]) (t := 86) ht4 hnb2 rfl
                have y0 := box_far (j := 0) (v := .string ⟨#[85, 83, 68]⟩) (cs := #[.string ⟨#[85, 83, 68]⟩, .string ⟨#[97]⟩, .string ⟨#[98]⟩]) (t := 86) ht5 hnb2 rfl
                have y1 := box_far (j := 1) (v := .string ⟨#[97]⟩) (cs := #[.string ⟨#[85, 83, 68]⟩, .string ⟨#[97]⟩, .string ⟨#[98]⟩]) (t := 86) ht5 hnb2 rfl
                have y2 := box_far (j := 2) (v := .string ⟨#[98]⟩) (cs := #[.string ⟨#[85, 83, 68]⟩, .string ⟨#[97]⟩, .string ⟨#[98]⟩]) (t := 86) ht5 hnb2 rfl
                have HM5 := Lib.hid hm5
                have HI5 := Lib.hid (HIq.out.touch ht5 (fun e => HNe.out e))
                have HB5 := Lib.hid (hb.out.trans ((HT.out.trans ht5 (fun x hx => .inl hx)).below hb.out.size (fun x hx => by have := HLo.out; omega)))
                have hlk5 := HM5.out.look1.1
                unfold kAB at hlk hen4 hlk4 hlk5
                have vw : IntKind.i64.wrap 2 = 2 := by decide
                clear hnb2 hm5 ht4 ht5 k0 k1 k2 HT HKq HIq hi hb
                go_wp2_with fail
                go_region
                all_goals
                  go_wp2
                  go_roundw
                  case rel => exact ⟨1, by omega, by go_num, HI5, HB5, Lib.hid (fun h => by cases h), Lib.hid (fun _ => HM5.out), Lib.hid (fun h => by cases h)⟩
                  case measure => simp [intOf]
              · have HT := Lib.hid (((Touch.refl (fun k => k = bm) wr).alloc (.cells #[.string ⟨#[85, 83, 68]⟩, .string ⟨#[98]⟩, .string ⟨#[97]⟩] 86)).drew)
                have HKq := Lib.hid ((k1.out rfl).touch ((((Touch.refl (fun k => False) wr).alloc (.cells #[.string ⟨#[85, 83, 68]⟩, .string ⟨#[98]⟩, .string ⟨#[97]⟩] 86)).drew)) (fun h => h))
                have HIq := Lib.hid (hi.out.touch ((((Touch.refl (fun k => False) wr).alloc (.cells #[.string ⟨#[85, 83, 68]⟩, .string ⟨#[98]⟩, .string ⟨#[97]⟩] 86)).drew)) (fun h => h))
                have hnb2 : ¬ wr.heap.size = bm := by have := (k1.out rfl).lt; omega
                have hlk := HKq.out.look1.2
                obtain ⟨n5, w4, w5, hen4, hst, hm5, hlk4, ht4, ht5⟩ := HKq.out.setB 0
                have z0 := box_far (j := 0) (v := .string ⟨#[85, 83, 68]⟩) (cs := #[.string ⟨#[85, 83, 68]⟩, .string ⟨#[98]⟩, .string ⟨#[97]⟩]) (t := 86) ht4 hnb2 rfl
                have z1 := box_far (j := 1) (v := .string ⟨#[98]⟩) (cs := #[.string ⟨#[85, 83, 68]⟩, .string ⟨#[98]⟩, .string ⟨#[97]⟩]) (t := 86) ht4 hnb2 rfl
                have z2 := box_far (j := 2) (v := .string ⟨#[97]⟩) (cs := #[.string ⟨#[85, 83, 68]⟩, .string ⟨#[98]⟩, .string ⟨#[97]⟩]) (t := 86) ht4 hnb2 rfl
                have y0 := box_far (j := 0) (v := .string ⟨#[85, 83, 68]⟩) (cs := #[.string ⟨#[85, 83, 68]⟩, .string ⟨#[98]⟩, .string ⟨#[97]⟩]) (t := 86) ht5 hnb2 rfl
                have y1 := box_far (j := 1) (v := .string ⟨#[98]⟩) (cs := #[.string ⟨#[85, 83, 68]⟩, .string ⟨#[98]⟩, .string ⟨#[97]⟩]) (t := 86) ht5 hnb2 rfl
                have y2 := box_far (j := 2) (v := .string ⟨#[97]⟩) (cs := #[.string ⟨#[85, 83, 68]⟩, .string ⟨#[98]⟩, .string ⟨#[97]⟩]) (t := 86) ht5 hnb2 rfl
                have HM5 := Lib.hid hm5
                have HI5 := Lib.hid (HIq.out.touch ht5 (fun e => HNe.out e))
                have HB5 := Lib.hid (hb.out.trans ((HT.out.trans ht5 (fun x hx => .inl hx)).below hb.out.size (fun x hx => by have := HLo.out; omega)))
                have hlk5 := HM5.out.look1.2
                unfold kBA at hlk hen4 hlk4 hlk5
                have vw : IntKind.i64.wrap 0 = 0 := by decide
                clear hnb2 hm5 ht4 ht5 k0 k1 k2 HT HKq HIq hi hb
                go_wp2_with fail
                go_region
                all_goals
                  go_wp2_with (at_delete; refine wpList_del_km rfl _ _ rfl bm 2 0 rfl HM5.out rfl ?_; intro w7 hm7 ht7; have HM7 := Lib.hid hm7; have HI7 := Lib.hid (HI5.out.touch ht7 (fun e => HNe.out e)); have HB7 := Lib.hid (HB5.out.trans (ht7.below HB5.out.size (fun x hx => by have := HLo.out; omega))); clear hm7 ht7)
                  go_roundw
                  case rel => exact ⟨2, by omega, by go_num, HI7, HB7, Lib.hid (fun h => by cases h), Lib.hid (fun h => by cases h), Lib.hid (fun _ => HM7.out)⟩
                  case measure => simp [intOf]
              · have HK2 := Lib.hid (k2.out rfl)
                have HL2 := Lib.hid (hi.out.left HK2.out)
                clear k0 k1 k2
                go_wp2
                go_roundw
                case rel => (repeat apply Exists.intro); exact ⟨⟨_, _, Lib.hid (.inr (.inr ⟨rfl, by simp⟩)), HK2, hi, hb⟩, rfl⟩
                case measure => rw [HL2.out, HLf.out, left_two.1, (left_none (x := 2) (seen := #[0]) (by simp)).1]; omega
          · clear he hs hk hi hb
            dsimp only [eBA, kBA] at hen hi6 ⊢
            have HI6 := Lib.hid hi6
            have HK6 := Lib.hid hk6
            have HKx := Lib.hid (HK6.out.touch ((Touch.refl (fun k => False) w6).alloc (.cells #[.string ⟨#[85, 83, 68]⟩, .string ⟨#[98]⟩, .string ⟨#[97]⟩] 86)) (fun h => h))
            have HKy := Lib.hid (HK6.out.touch (((Touch.refl (fun k => False) w6).alloc (.cells #[.string ⟨#[85, 83, 68]⟩, .string ⟨#[98]⟩, .string ⟨#[97]⟩] 86)).alloc (.cells #[.string ⟨#[85, 83, 68]⟩, .string ⟨#[97]⟩, .string ⟨#[98]⟩] 86)) (fun h => h))
            have HIy := Lib.hid (HI6.out.touch (((Touch.refl (fun k => False) w6).alloc (.cells #[.string ⟨#[85, 83, 68]⟩, .string ⟨#[98]⟩, .string ⟨#[97]⟩] 86)).alloc (.cells #[.string ⟨#[85, 83, 68]⟩, .string ⟨#[97]⟩, .string ⟨#[98]⟩] 86)) (fun h => h))
            have HBy := Lib.hid (HB6.out.trans ((((Below.refl w6.heap.size w6).alloc (Nat.le_refl _) (.cells #[.string ⟨#[85, 83, 68]⟩, .string ⟨#[98]⟩, .string ⟨#[97]⟩] 86)).alloc (by simp) (.cells #[.string ⟨#[85, 83, 68]⟩, .string ⟨#[97]⟩, .string ⟨#[98]⟩] 86)).mono (by have := HB6.out.size; omega)))
            have hlk := HKy.out.look1.1
            unfold kAB at hlk
            have hmin : (min (3 : Int) 5) = 3 := by decide
            have hmin2 : (min (5 : Int) 3) = 3 := by decide
            clear hi6 hk6 ht6
            go_wp2_with fail
            go_loopw [64] (fun i wr => ∃ j : Nat, j ≤ 2 ∧ i = .int .i64 (j : Int) ∧ Hid (It wr bm br #[1]) ∧ Hid (Below w.heap.size w wr) ∧ Hid (j = 0 → KM wr bm #[eAB 5, eBA 3]) ∧ Hid (j = 1 → KM wr bm #[eAB 5]) ∧ Hid (j = 2 → KM wr bm #[eAB 2])) (fun i _ => 2 - (intOf i).toNat)
            case atStart => exact ⟨0, Nat.zero_le _, rfl, HIy, HBy, Lib.hid (fun _ => HKy.out), Lib.hid (fun h => by cases h), Lib.hid (fun h => by cases h)⟩
            case round =>
              clear HIy HBy HKy HKx hlk hen HI6 HK6 HB6
              have ix0 := ixB0 wr
              have ix1 := ixB1 wr
              obtain ⟨j, hj, rfl, hi, hb, k0, k1, k2⟩ := hrel
              obtain rfl | rfl | rfl : j = 0 ∨ j = 1 ∨ j = 2 := by omega
              · have HT := Lib.hid (((Touch.refl (fun k => k = bm) wr).alloc (.cells #[.string ⟨#[85, 83, 68]⟩, .string ⟨#[98]⟩, .string ⟨#[97]⟩] 86)).drew)
                have HKq := Lib.hid ((k0.out rfl).touch ((((Touch.refl (fun k => False) wr).alloc (.cells #[.string ⟨#[85, 83, 68]⟩, .string ⟨#[98]⟩, .string ⟨#[97]⟩] 86)).drew)) (fun h => h))
                have HIq := Lib.hid (hi.out.touch ((((Touch.refl (fun k => False) wr).alloc (.cells #[.string ⟨#[85, 83, 68]⟩, .string ⟨#[98]⟩, .string ⟨#[97]⟩] 86)).drew)) (fun h => h))
                have hnb2 : ¬ wr.heap.size = bm := by have := (k0.out rfl).lt; omega
                have hlk := HKq.out.look1.2
                obtain ⟨n5, w4, w5, hen4, hst, hm5, hlk4, ht4, ht5⟩ := HKq.out.setB 0
                have z0 := box_far (j := 0) (v := .string ⟨#[85, 83, 68]⟩) (cs := #[.string ⟨#[85, 83, 68]⟩, .string ⟨#[98]⟩, .string ⟨#[97]⟩]) (t := 86) ht4 hnb2 rfl
                have z1 := box_far (j := 1) (v := .string ⟨#[98]⟩) (cs := #[.string ⟨#[85, 83, 68]⟩, .string ⟨#[98]⟩, .string ⟨#[97]⟩]) (t := 86) ht4 hnb2 rfl
                have z2 := box_far (j := 2) (v := .string ⟨#[97]⟩) (cs := #[.string ⟨#[85, 83, 68]⟩, .string ⟨#[98]⟩, .string ⟨#[97]⟩]) (t := 86) ht4 hnb2 rfl
                have y0 := box_far (j := 0) (v := .string ⟨#[85, 83, 68]⟩) (cs := #[.string ⟨#[85, 83, 68]⟩, .string ⟨#[98]⟩, .string ⟨#[97]⟩]) (t := 86) ht5 hnb2 rfl
                have y1 := box_far (j := 1) (v := .string ⟨#[98]⟩) (cs := #[.string ⟨#[85, 83, 68]⟩, .string ⟨#[98]⟩, .string ⟨#[97]⟩]) (t := 86) ht5 hnb2 rfl
                have y2 := box_far (j := 2) (v := .string ⟨#[97]⟩) (cs := #[.string ⟨#[85, 83, 68]⟩, .string ⟨#[98]⟩, .string ⟨#[97]⟩]) (t := 86) ht5 hnb2 rfl
                have HM5 := Lib.hid hm5
                have HI5 := Lib.hid (HIq.out.touch ht5 (fun e => HNe.out e))
                have HB5 := Lib.hid (hb.out.trans ((HT.out.trans ht5 (fun x hx => .inl hx)).below hb.out.size (fun x hx => by have := HLo.out; omega)))
                have hlk5 := HM5.out.look1.2
                unfold kBA at hlk hen4 hlk4 hlk5
                have vw : IntKind.i64.wrap 0 = 0 := by decide
                clear hnb2 hm5 ht4 ht5 k0 k1 k2 HT HKq HIq hi hb
                go_wp2_with fail
                go_region
                all_goals
                  go_wp2_with (at_delete; refine wpList_del_km rfl _ _ rfl bm 5 0 rfl HM5.out rfl ?_; intro w7 hm7 ht7; have HM7 := Lib.hid hm7; have HI7 := Lib.hid (HI5.out.touch ht7 (fun e => HNe.out e)); have HB7 := Lib.hid (HB5.out.trans (ht7.below HB5.out.size (fun x hx => by have := HLo.out; omega))); clear hm7 ht7)
                  go_roundw
                  case rel => exact ⟨1, by omega, by go_num, HI7, HB7, Lib.hid (fun h => by cases h), Lib.hid (fun _ => HM7.out), Lib.hid (fun h => by cases h)⟩
                  case measure => simp [intOf]
              · have HT := Lib.hid (((Touch.refl (fun k => k = bm) wr).alloc (.cells #[.string ⟨#[85, 83, 68]⟩, .string ⟨#[97]⟩, .string ⟨#[98]⟩] 86)).drew)
                have HKq := Lib.hid ((k1.out rfl).touch ((((Touch.refl (fun k => False) wr).alloc (.cells #[.string ⟨#[85, 83, 68]⟩, .string ⟨#[97]⟩, .string ⟨#[98]⟩] 86)).drew)) (fun h => h))
                have HIq := Lib.hid (hi.out.touch ((((Touch.refl (fun k => False) wr).alloc (.cells #[.string ⟨#[85, 83, 68]⟩, .string ⟨#[97]⟩, .string ⟨#[98]⟩] 86)).drew)) (fun h => h))
                have hnb2 : ¬ wr.heap.size = bm := by have := (k1.out rfl).lt; omega
                have hlk := HKq.out.look2.1
                obtain ⟨n5, w4, w5, hen4, hst, hm5, hlk4, ht4, ht5⟩ := HKq.out.setO 2
                have z0 := box_far (j := 0) (v := .string ⟨#[85, 83, 68]⟩) (cs := #[.string ⟨#[85, 83, 68]⟩, .string ⟨#[97]⟩, .string ⟨#[98]⟩]) (t := 86) ht4 hnb2 rfl
                have z1 := box_far (j := 1) (v := .string ⟨#[97]⟩) (cs := #[.string ⟨#[85, 83, 68]⟩, .string ⟨#[97]⟩, .string ⟨#[98]⟩]) (t := 86) ht4 hnb2 rfl
                have z2 := box_far (j := 2) (v := .string ⟨#[98]⟩) (cs := #[.string ⟨#[85, 83, 68]⟩, .string ⟨#[97]⟩, .string ⟨#[98]⟩]) (t := 86) ht4 hnb2 rfl
                have y0 := box_far (j := 0) (v := .string ⟨#[85, 83, 68]⟩) (cs := #[.string ⟨#[85, 83, 68]⟩, .string ⟨#[97]⟩, .string ⟨#[98]⟩]) (t := 86) ht5 hnb2 rfl
                have y1 := box_far (j := 1) (v := .string ⟨#[97]⟩) (cs := #[.string ⟨#[85, 83, 68]⟩, .string ⟨#[97]⟩, .string ⟨#[98]⟩]) (t := 86) ht5 hnb2 rfl
                have y2 := box_far (j := 2) (v := .string ⟨#[98]⟩) (cs := #[.string ⟨#[85, 83, 68]⟩, .string ⟨#[97]⟩, .string ⟨#[98]⟩]) (t := 86) ht5 hnb2 rfl
                have HM5 := Lib.hid hm5
                have HI5 := Lib.hid (HIq.out.touch ht5 (fun e => HNe.out e))
                have HB5 := Lib.hid (hb.out.trans ((HT.out.trans ht5 (fun x hx => .inl hx)).below hb.out.size (fun x hx => by have := HLo.out; omega)))
                have hlk5 := HM5.out.look2.1
                unfold kAB at hlk hen4 hlk4 hlk5
                have vw : IntKind.i64.wrap 2 = 2 := by decide
                clear hnb2 hm5 ht4 ht5 k0 k1 k2 HT HKq HIq hi hb
                go_wp2_with fail
                go_region
                all_goals
                  go_wp2
                  go_roundw
                  case rel => exact ⟨2, by omega, by go_num, HI5, HB5, Lib.hid (fun h => by cases h), Lib.hid (fun h => by cases h), Lib.hid (fun _ => HM5.out)⟩
                  case measure => simp [intOf]
              · have HK2 := Lib.hid (k2.out rfl)
                have HL2 := Lib.hid (hi.out.left HK2.out)
                clear k0 k1 k2
                go_wp2
                go_roundw
                case rel => (repeat apply Exists.intro); exact ⟨⟨_, _, Lib.hid (.inr (.inl ⟨rfl, rfl⟩)), HK2, hi, hb⟩, rfl⟩
                case measure => rw [HL2.out, HLf.out, left_two.1, (left_one (x := 2) (seen := #[1]) (by simp)).1]; omega
        · go_wp2_with (at_next; refine wpList_next_km rfl _ rfl bm br _ _ rfl hi.out hk.out born_one.1 born_one.2 (fun h0 => by rw [(left_one (by simp)).1] at h0; cases h0) ?_)
          intro e he w6 hi6 hk6 ht6 hen
          have HLf := Lib.hid (hi.out.left hk.out)
          have HB6 := Lib.hid (hb.out.trans (ht6.below hb.out.size (fun x hx => by have := HLr.out; omega)))
          obtain rfl := (left_one (by simp)).2 e he
          clear he hs hk hi hb
          dsimp only [eAB, kAB] at hen hi6 ⊢
          have HI6 := Lib.hid hi6
          have HK6 := Lib.hid hk6
          have HKy := Lib.hid (HK6.out.touch (((Touch.refl (fun k => False) w6).alloc (.cells #[.string ⟨#[85, 83, 68]⟩, .string ⟨#[97]⟩, .string ⟨#[98]⟩] 86)).alloc (.cells #[.string ⟨#[85, 83, 68]⟩, .string ⟨#[98]⟩, .string ⟨#[97]⟩] 86)) (fun h => h))
          have HIy := Lib.hid (HI6.out.touch (((Touch.refl (fun k => False) w6).alloc (.cells #[.string ⟨#[85, 83, 68]⟩, .string ⟨#[97]⟩, .string ⟨#[98]⟩] 86)).alloc (.cells #[.string ⟨#[85, 83, 68]⟩, .string ⟨#[98]⟩, .string ⟨#[97]⟩] 86)) (fun h => h))
          have HBy := Lib.hid (HB6.out.trans ((((Below.refl w6.heap.size w6).alloc (Nat.le_refl _) (.cells #[.string ⟨#[85, 83, 68]⟩, .string ⟨#[97]⟩, .string ⟨#[98]⟩] 86)).alloc (by simp) (.cells #[.string ⟨#[85, 83, 68]⟩, .string ⟨#[98]⟩, .string ⟨#[97]⟩] 86)).mono (by have := HB6.out.size; omega)))
          have hlk := HKy.out.look2.2
          unfold kBA at hlk
          have HLg := Lib.hid (HIy.out.left HKy.out)
          have hmin : (min (2 : Int) 0) = 0 := by decide
          clear hi6 hk6 ht6
          go_wp2
          go_roundw
          case rel => (repeat apply Exists.intro); exact ⟨⟨_, _, Lib.hid (.inr (.inr ⟨rfl, by simp⟩)), HKy, HIy, HBy⟩, rfl⟩
          case measure => rw [HLg.out, HLf.out, (left_one (x := 2) (seen := #[1]) (by simp)).1, (left_none (x := 2) (seen := #[1, 0]) (by simp)).1]; omega
        · have HKz := hk
          go_wp2_with (first | (at_next; refine wpList_next_km rfl _ rfl bm br _ _ rfl hi.out hk.out born_one.1 born_one.2 (fun _ => ?_) (fun e he => absurd (Array.mem_toList_iff.1 he) ((left_none hsn).2 e))) | (at_range; refine wpList_range_km rfl _ rfl bm _ rfl HKz.out ?_; intro w7 hi7 hk7 ht7))
          clear hs hi hsn
          try go_frame
          have HI7 := Lib.hid hi7
          have HK7 := Lib.hid hk7
          have HB7 := Lib.hid (bq hb.out (ht7.below (Nat.le_refl _) (fun x hx => hx.elim)))
          have HLs := Lib.hid hb.out.size
          have HNs := Lib.hid (show ¬ wr.heap.size = bm by have := HKz.out.lt; omega)
          obtain ⟨bs, hbs⟩ : ∃ x, x = wr.heap.size := ⟨_, rfl⟩
          rw [← hbs] at HI7 HLs HNs ⊢
          clear hi7 hk7 ht7 hk hb hbs HKz
          go_loopw [14] (fun _ wr => ∃ seen : Array Nat, Hid (seen = #[] ∨ seen = #[0]) ∧ Hid (KM wr bm #[eAB 2]) ∧ Hid (It wr bm bs seen) ∧ Hid (Below w.heap.size w wr)) (fun _ wr => wr.rangeLeft bm bs)
          case atStart => exact ⟨_, Lib.hid (.inl rfl), HK7, HI7, HB7⟩
          case round =>
            clear HB7 HI7 HK7
            obtain ⟨seen, hs, hk, hi, hb⟩ := hrel
            rcases hs.out with rfl | rfl
            · go_wp2_with (at_next; refine wpList_next_km rfl _ rfl bm bs _ _ rfl hi.out hk.out born_one.1 born_one.2 (fun h0 => by rw [(left_one (by simp)).1] at h0; cases h0) ?_)
              intro e he w6 hi6 hk6 ht6 hen
              have HLf := Lib.hid (hi.out.left hk.out)
              have HB6 := Lib.hid (hb.out.trans (ht6.below hb.out.size (fun x hx => by have := HLs.out; omega)))
              obtain rfl := (left_one (by simp)).2 e he
              clear he hs hk hi hb
              dsimp only [eAB, kAB] at hen hi6 ⊢
              have HI6 := Lib.hid hi6
              have HK6 := Lib.hid hk6
              have HLg := Lib.hid (HI6.out.left HK6.out)
              clear hi6 hk6 ht6
              go_wp2
              go_roundw
              case rel => exact ⟨_, Lib.hid (.inr rfl), HK6, HI6, HB6⟩
              case measure => rw [HLg.out, HLf.out, (left_one (x := 2) (seen := #[]) (by simp)).1, (left_none (x := 2) (seen := #[0]) (by simp)).1]; omega
            · go_wp2_with (at_next; refine wpList_next_km rfl _ rfl bm bs _ _ rfl hi.out hk.out born_one.1 born_one.2 (fun _ => ?_) (fun e he => absurd (Array.mem_toList_iff.1 he) ((left_none (by simp)).2 e)))
              go_wp2
              go_ret2
              exact ⟨bm, rfl, hk.out, HLo.out, hb.out⟩


theorem ins_one (ao : Option Addr) (cap : Nat) (f : Value) (w : World) :
    Calls Tryd.prog 57 #[.slice ao 1 cap, .int .i64 0, .int .i64 1, f] w fun e w' => e = .returned (.tuple #[]) ∧ w' = w := by
  go_enter Tryd.func57, Tryd.ntmps57
  go_wp2
  refine wp_loop_rounds 1 ?_
  rw [rounds_succ]
  go_wp2
  go_end0
  exact ⟨rfl, rfl⟩

theorem pdq_one (ao : Option Addr) (cap : Nat) (f lim : Value) (w : World) :
    Calls Tryd.prog 51 #[.slice ao 1 cap, .int .i64 0, .int .i64 1, lim, f] w fun e w' => e = .returned (.tuple #[]) ∧ w' = w := by
  go_enter Tryd.func51, Tryd.ntmps51
  go_wp2
  refine wp_loop_rounds 1 ?_
  rw [rounds_succ]
  go_wp2_with fail
  refine (ins_one ao cap f _).mono ?_
  rintro e w1 ⟨rfl, rfl⟩
  go_wp2
  exact bodyPost_ret (v := .tuple #[]) (by simp [results, Tryd.results51, go_sem]) rfl ⟨rfl, rfl⟩

theorem bits_one (w : World) :
    Calls Tryd.prog 52 #[.int .u64 1] w fun e w' => (∃ z, e = .returned (.int .i64 z)) ∧ w' = w := by
  have HL := Lib.hid (len64_any 1 w (by omega) (by omega))
  go_enter Tryd.func52, Tryd.ntmps52
  go_wp2_with fail
  refine HL.out.mono ?_
  rintro e w1 ⟨rfl, rfl⟩
  go_wp2
  go_ret
  exact ⟨⟨_, rfl⟩, rfl⟩

theorem sort_one (ao : Option Addr) (cap : Nat) (f : Value) (w : World) :
    Calls Tryd.prog 42 #[.slice ao 1 cap, f] w fun e w' => e = .returned (.tuple #[]) ∧ w' = w := by
  have HL := Lib.hid (bits_one w)
  go_enter Tryd.func42, Tryd.ntmps42
  go_wp2_with fail
  refine HL.out.mono ?_
  rintro e w1 ⟨⟨z, rfl⟩, rfl⟩
  go_wp2_with fail
  refine (pdq_one ao cap f _ _).mono ?_
  rintro e w2 ⟨rfl, rfl⟩
  go_wp2
  go_end0
  exact ⟨rfl, rfl⟩

/-- The map's one entry as a debt. -/
def deN : List Value := [.string ⟨#[97]⟩, .string ⟨#[98]⟩, .string ⟨#[85, 83, 68]⟩, .int .i64 2]
def ListPost (w : World) (e : Ending) (w' : World) : Prop := ∃ v, e = .returned v ∧ Row w' v 4 1 deN ∧ Below w.heap.size w w'
theorem new_cells_at (w : World) (us : Array Value) (e n : Nat) (hn : n = w.heap.size) : ∀ j u, us.toList[j]? = some u → (w.alloc (.cells us e)).cell? ((⟨n, 0, none⟩ : Addr).add j) = some u := by
  subst hn; exact new_cells w us e
theorem own_made (w : World) (cs : Array Value) (t n : Nat) (h : cs.size = 4) (hn : n = w.heap.size) : (w.alloc (.cells cs t)).ownsRow 0 t 4 (.slice (some ⟨n, 0, none⟩) 0 1) 0 [] := by
  subst hn
  refine ⟨rfl, .inr ⟨w.heap.size, 1, cs, rfl, Nat.zero_le _, heap_alloc_new _ _, by omega, by unfold maxLen; omega, by omega, by simp⟩⟩
theorem Tryd.infoDeN : (Tryd.prog.info? 49).map (fun i => (i.zero, i.size, i.bytes)) = some (some (.agg #[.string ⟨#[]⟩, .string ⟨#[]⟩, .string ⟨#[]⟩, .int .i64 0]), 4, 56) := by kernel_rfl
theorem one_deN : ∀ u ∈ deN, u.oneCell' = true := by intro u hu; simp [deN] at hu; rcases hu with rfl | rfl | rfl | rfl <;> rfl

theorem len_km {w : World} {b : Nat} {x : Int} (h : KM w b #[eAB x]) (ty : TypeId) : (Builtin.len_ #[68] ty #[.map (some b)]).run Tryd.prog w = .ok (.int .i64 1) w := by
  simp [Builtin.len_, run_underlying Tryd.underlying68, MapKept.run_getObj_map (show w.heap[b]? = _ from h), Result.andThen, goInt]
theorem make_one (w : World) : (Instr.makeSlice 45 (.int .i64 0) (.int .i64 1)).run Tryd.prog w = .ok (.slice (some ⟨w.heap.size, 0, none⟩) 0 1) (w.alloc (.cells #[.string ⟨#[]⟩, .string ⟨#[]⟩, .string ⟨#[]⟩, .int .i64 0] 49)) := by kernel_rfl

set_option maxRecDepth 100000 in
set_option maxHeartbeats 4000000 in
theorem list_ex (bm : Nat) (w : World) (h : KM w bm #[eAB 2]) :
    Calls Tryd.prog 28 #[.map (some bm)] w (ListPost w) := by
  have H := Lib.hid h
  have hlen := len_km h
  have hmk := make_one w
  clear h
  go_enter Tryd.func28, Tryd.ntmps28
  have HK1 := Lib.hid (H.out.touch ((Touch.refl (fun k => False) w).alloc (.cells #[.string ⟨#[]⟩, .string ⟨#[]⟩, .string ⟨#[]⟩, .int .i64 0] 49)) (fun h => h))
  have HO1 := Lib.hid (own_made w #[.string ⟨#[]⟩, .string ⟨#[]⟩, .string ⟨#[]⟩, .int .i64 0] 49 w.heap.size rfl rfl)
  have HB1 := Lib.hid ((Below.refl w.heap.size w).alloc (Nat.le_refl _) (.cells #[.string ⟨#[]⟩, .string ⟨#[]⟩, .string ⟨#[]⟩, .int .i64 0] 49))
  have HN1 := Lib.hid (show ¬ w.heap.size + 1 = bm by have := H.out.lt; omega)
  obtain ⟨i0, hi0, hz0, hz1, hz2⟩ := info_parts Tryd.infoDeN
  have HS1 := Lib.hid (show (w.alloc (.cells #[.string ⟨#[]⟩, .string ⟨#[]⟩, .string ⟨#[]⟩, .int .i64 0] 49)).heap.size = w.heap.size + 1 by simp)
  go_wp2_with (at_range; refine wpList_range_km rfl _ rfl bm _ rfl HK1.out ?_; intro w7 hi7 hk7 ht7; have HI7 := Lib.hid hi7; have HK7 := Lib.hid hk7; have HT7 := Lib.hid ht7; clear hi7 hk7 ht7)
  have HO7 := Lib.hid (own_touch HO1.out HT7.out (fun k hk h => h))
  have HB7 := Lib.hid (bq HB1.out (HT7.out.below (Nat.le_refl _) (fun x hx => hx.elim)))
  go_frame
  rw [HS1.out] at HI7 ⊢
  clear hlen hmk HT7 HO1 HB1 HK1 HS1
  refine wp_loop_rounds 2 ?_
  rw [rounds_succ]
  go_wp2_with (at_next; refine wpList_next_km rfl _ rfl bm (w.heap.size + 1) _ _ rfl HI7.out HK7.out born_one.1 born_one.2 (fun h0 => by rw [(left_one (x := 2) (seen := #[]) (by simp)).1] at h0; cases h0) ?_)
  intro e he w6 hi6 hk6 ht6 hen
  obtain rfl := (left_one (by simp)).2 e he
  dsimp only [eAB, kAB] at hen hi6 ⊢
  have HI6 := Lib.hid hi6
  have HK6 := Lib.hid hk6
  have HO6 := Lib.hid (own_touch HO7.out ht6 (fun k hk h => by cases hk; exact absurd (show w.heap.size = w.heap.size + 1 from h) (by omega)))
  have HB6 := Lib.hid (HB7.out.trans (ht6.below HB7.out.size (fun x hx => by have h : x = w.heap.size + 1 := hx; omega)))
  have b1 := (Below.refl w6.heap.size w6).alloc (Nat.le_refl _) (.cells #[.string ⟨#[85, 83, 68]⟩, .string ⟨#[97]⟩, .string ⟨#[98]⟩] 86)
  have b2 := b1.alloc b1.size (.cells deN.toArray 49)
  have HO8 := Lib.hid (own_touch HO6.out (Touch.of_below (S := fun _ => False) b2) (fun k hk h => h))
  have HB8 := Lib.hid (bq HB6.out b2)
  have HI8 := Lib.hid (HI6.out.touch (Touch.of_below (S := fun _ => False) b2) (fun h => h))
  have HK8 := Lib.hid (HK6.out.touch (Touch.of_below (S := fun _ => False) b2) (fun h => h))
  have HG := Lib.hid (show ¬ w.heap.size = bm by have := H.out.lt; omega)
  clear hi6 hk6 ht6 b1 b2 he HO7 HB7 HI7 HK7 HO6 HB6
  have HNC := Lib.hid (new_cells_at (w6.alloc (.cells #[.string ⟨#[85, 83, 68]⟩, .string ⟨#[97]⟩, .string ⟨#[98]⟩] 86)) deN.toArray 49 (w6.heap.size + 1) (by simp))
  have L1 : 0 + 1 ≤ maxLen := by unfold maxLen; omega
  have L2 : (0 + 1) * 56 ≤ 140737488355328 := by omega
  have Z4 : 0 < 4 := by decide
  unfold deN at HO8 HB8 HI8 HK8 HNC
  go_wp2_with (at_builtin; refine wpList_own rfl (.tmp 16) (.tmp 25) 45 rfl 49 i0 _ 4 56 Tryd.underlying45 hi0 hz0 hz1 hz2 rfl Z4 _ _ _ rfl HO8.out ⟨w6.heap.size + 1, 0, none⟩ 1 1 [.string ⟨#[97]⟩, .string ⟨#[98]⟩, .string ⟨#[85, 83, 68]⟩, .int .i64 2] rfl rfl HNC.out one_deN L1 L2 ?_; intro v4 w4 hown4 hg4 hn4; obtain ⟨ao4, cap4, rfl⟩ := own_shape hown4; have HO4 := Lib.hid hown4; have HG4 := Lib.hid hg4; clear hown4 hg4 hn4)
  have HI4 := Lib.hid (HI8.out.touch ((Touch.refl _ _).grown HG4.out (fun k hk => .inl hk)) (fun h => by have h2 : some w.heap.size = some (w.heap.size + 1) := h; injection h2 with h2; omega))
  have HK4 := Lib.hid (HK8.out.touch ((Touch.refl _ _).grown HG4.out (fun k hk => .inl hk)) (fun h => by have h2 : some w.heap.size = some bm := h; injection h2 with h2; exact HG.out h2))
  have HB4 := Lib.hid (HB8.out.trans (((Touch.refl _ _).grown HG4.out (fun k hk => .inl hk)).below HB8.out.size (fun x hx => by have h2 : some w.heap.size = some x := hx; injection h2 with h2; omega)))
  clear HO8 HB8 HI8 HK8 HI6 HK6 HG4
  rw [rounds_succ]
  go_wp2_with (first | (at_next; refine wpList_next_km rfl _ rfl bm (w.heap.size + 1) _ _ rfl HI4.out HK4.out born_one.1 born_one.2 (fun _ => ?_) (fun e he => absurd (Array.mem_toList_iff.1 he) ((left_none (by simp)).2 e))) | (go_at_call 42; refine (sort_one _ _ _ _).mono ?_; rintro e w9 ⟨rfl, rfl⟩))
  go_ret
  exact ⟨_, rfl, Row.of_own HO4.out, HB4.out⟩

set_option maxRecDepth 100000 in
set_option maxHeartbeats 1000000 in
theorem pairs_ex (b : Nat) (w : World) (h : ExN w b) :
    Calls Tryd.prog 13 #[.slice (some ⟨b, 0, none⟩) 2 2] w fun e w' => ∃ ao cap, e = .returned (.tuple #[.slice ao 1 cap, .int .i64 0]) ∧ Row w' (.slice ao 1 cap) 4 1 deN ∧ Below w.heap.size w w' := by
  have H := Lib.hid (netted_ex b w h)
  clear h
  go_enter Tryd.func13, Tryd.ntmps13
  go_wp2_with fail
  refine H.out.mono ?_
  rintro e w1 ⟨bm, rfl, hk, hlo, hb⟩
  have HB := Lib.hid hb
  have HK := Lib.hid hk
  clear hk hlo hb
  go_wp2_with fail
  refine (list_ex bm _ HK.out).mono ?_
  rintro e w2 ⟨v, rfl, hr, hb⟩
  have HB2 := Lib.hid (bq HB.out hb)
  have HR := Lib.hid hr
  obtain ⟨_, ao, cap, rfl, -⟩ := hr
  clear hb
  go_wp2
  go_ret2
  exact ⟨ao, cap, rfl, HR.out, HB2.out⟩

theorem eq_deN (w : World) : (Op.equal 49 (.agg deN.toArray) (.agg deN.toArray)).run Tryd.prog w = .ok true w := by kernel_rfl

set_option maxRecDepth 100000 in
set_option maxHeartbeats 1000000 in
/-- The layers' example. -/
theorem nets_any (w : World) :
    Calls Tryd.prog 4 #[] w fun e w' => e = .returned (.bool true) ∧ Below w.heap.size w w' := by
  have HE := Lib.hid (show ExN (w.alloc (.cells #[.string ⟨#[97]⟩, .string ⟨#[98]⟩, .string ⟨#[85, 83, 68]⟩, .int .i64 5, .string ⟨#[98]⟩, .string ⟨#[97]⟩, .string ⟨#[85, 83, 68]⟩, .int .i64 3] 49)) w.heap.size from heap_alloc_new _ _)
  have HB := Lib.hid ((Below.refl w.heap.size w).alloc (Nat.le_refl _) (.cells #[.string ⟨#[97]⟩, .string ⟨#[98]⟩, .string ⟨#[85, 83, 68]⟩, .int .i64 5, .string ⟨#[98]⟩, .string ⟨#[97]⟩, .string ⟨#[85, 83, 68]⟩, .int .i64 3] 49))
  go_enter Tryd.func4, Tryd.ntmps4
  go_wp2_with fail
  refine (pairs_ex _ _ HE.out).mono ?_
  rintro e w1 ⟨ao, cap, rfl, hr, hb⟩
  have HB1 := Lib.hid (bq HB.out hb)
  obtain ⟨bl, off, cap', e, -, -, -, hc⟩ := hr.at (by simp [deN])
  cases e
  have c0 := hc 0 (by simp [deN])
  have c1 := hc 1 (by simp [deN])
  have c2 := hc 2 (by simp [deN])
  have c3 := hc 3 (by simp [deN])
  simp [deN] at c0 c1 c2 c3
  have heq := eq_deN w1
  unfold deN at heq
  clear hr hb hc HE HB
  go_wp2
  go_ret
  exact ⟨rfl, HB1.out⟩
end Go.Proofs.YtofkeipfkglljaaDoor
