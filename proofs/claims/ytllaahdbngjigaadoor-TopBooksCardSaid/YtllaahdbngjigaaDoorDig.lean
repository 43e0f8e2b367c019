/-
  Digest: a pure function of the text, of sixteen hexadecimal signs.
-/
import Derived.Test.YtllaahdbngjigaaDoorKit
import Derived.Test.YtllaahdbngjigaaDoorSep
import Derived.Test.YtllaahdbngjigaaDoorRows
import Derived.Laws.Cover4
namespace Go.Proofs.YtllaahdbngjigaaDoor
open Go Go.RowKit
set_option linter.unusedVariables false
set_option linter.unusedSimpArgs false
def rotF (x : Int) : Int := bits BinOp.or IntKind.u64 (IntKind.u64.wrap (x * 32)) (x / 576460752303423488)
def stepF (z c : Int) : Int := IntKind.u64.wrap (rotF (bits BinOp.xor IntKind.u64 z (IntKind.u64.wrap c)) * 13787848793156543929)
def finF (z : Int) : Int :=
  bits BinOp.xor IntKind.u64 (IntKind.u64.wrap (bits BinOp.xor IntKind.u64 z (z / 536870912) * 13787848793156543929)) (IntKind.u64.wrap (bits BinOp.xor IntKind.u64 z (z / 536870912) * 13787848793156543929) / 4294967296)
def dgF (h : Int) (j : Nat) : Nat := (bits BinOp.and IntKind.u64 (h / 2 ^ (60 - 4 * j)) 15).toNat
def hexF (d : Nat) : Int := if d < 10 then 48 + d else 87 + d
def hashF (l : List UInt8) : Int := l.foldl (fun z c => stepF z c.toNat) 7809847782465536322
def codesF (l : List UInt8) : List Int := (List.range 16).map fun j => hexF (dgF (finF (hashF l)) j)
/-- The digest of a text. -/
def digF (l : List UInt8) : ByteArray := runesBytes (codesF l)

theorem and15 (x : Int) : 0 ≤ bits BinOp.and IntKind.u64 x 15 ∧ bits BinOp.and IntKind.u64 x 15 < 16 := by
  have h15 : (BitVec.ofInt 64 15).toNat = 2 ^ 4 - 1 := by decide
  have key : (BitVec.ofInt 64 x &&& BitVec.ofInt 64 15).toNat < 16 := by
    rw [BitVec.toNat_and, h15, Nat.and_two_pow_sub_one_eq_mod]; omega
  have e : bits BinOp.and IntKind.u64 x 15 = IntKind.u64.wrap ((BitVec.ofInt 64 x &&& BitVec.ofInt 64 15).toNat : Nat) := rfl
  rw [e, IntKind.wrap_u64]
  omega
theorem dg_lt (h : Int) (j : Nat) : dgF h j < 16 := by
  have := and15 (h / 2 ^ (60 - 4 * j))
  unfold dgF; omega
theorem hex_at : ∀ d : Fin 16, wrap32 ((({ data := #[48, 49, 50, 51, 52, 53, 54, 55, 56, 57, 97, 98, 99, 100, 101, 102] } : ByteArray)[d.val]'(by have := d.isLt; simp [ByteArray.size])).toNat : Int) = hexF d.val := by decide +kernel

theorem rotl_any (x : Int) (w : World) : Calls Tryd.prog 55 #[.int .u64 x, .int .i64 5] w fun e w' => e = .returned (.int .u64 (rotF x)) ∧ w' = w := by
  have e1 : bits BinOp.and IntKind.u64 5 63 = 5 := by kernel_rfl
  go_enter Tryd.func55, Tryd.ntmps55
  go_wp2
  go_ret
  exact ⟨rfl, rfl⟩
theorem hash_snoc (l : List UInt8) (c : UInt8) : hashF (l ++ [c]) = stepF (hashF l) c.toNat := by simp [hashF]
theorem take_snocB (s : ByteArray) (k : Nat) (h : k < s.size) : s.data.toList.take (k + 1) = s.data.toList.take k ++ [s[k]] := by
  rw [List.take_succ_eq_append_getElem (by simpa using h)]; rfl
theorem hset {w : World} {b i : Nat} {cs : Array Value} {e : TypeId} {u : Value} (h : w.heap[b]? = some (.cells cs e (0, 0))) : (w.setCell ⟨b, i, none⟩ u).heap[b]? = some (.cells (cs.setIfInBounds i u) e (0, 0)) := by
  simp only [World.setCell, Array.getElem?_modify, if_pos, h]
  rfl
theorem set_at {h : Int} {zs : List Int} {j : Nat} (hz : zs.length = 16) (hj : j < 16) (hi : ∀ i, i < j → zs.getD i 0 = hexF (dgF h i)) : ∀ i, i < j + 1 → (zs.set j (hexF (dgF h j))).getD i 0 = hexF (dgF h i) := by
  intro i h1
  rw [List.getD_eq_getElem?_getD, List.getElem?_set]
  by_cases e : j = i
  · subst e
    rw [if_pos rfl, if_pos (by omega)]; rfl
  · rw [if_neg e, ← List.getD_eq_getElem?_getD]
    exact hi i (by omega)
theorem codes_eq (l : List UInt8) (h : Int) (zs : List Int) (hz : zs.length = 16) (hh : finF (hashF l) = h) (hi : ∀ i, i < 16 → zs.getD i 0 = hexF (dgF h i)) : zs.take 16 = codesF l := by
  subst hh
  unfold codesF
  rw [List.take_of_length_le (Nat.le_of_eq hz)]
  apply List.ext_getElem
  · rw [hz, List.length_map, List.length_range]
  · intro i h1 h2
    have h3 : i < 16 := by rw [hz] at h1; exact h1
    have := hi i h3
    rw [List.getD_eq_getElem?_getD, List.getElem?_eq_getElem h1] at this
    simp only [Option.getD_some] at this
    rw [this, List.getElem_map, List.getElem_range]
set_option maxHeartbeats 1000000 in
theorem dig_any (s : ByteArray) (hs : s.size ≤ maxLen) (w : World) : Calls Tryd.prog 23 #[.string s] w fun e w' => e = .returned (.string (digF s.data.toList)) ∧ Below w.heap.size w w' := by
  unfold maxLen at hs
  have HR := Lib.hid (fun x w => rotl_any x w)
  go_enter Tryd.func23, Tryd.ntmps23
  go_wp2
  go_loopw [3, 9] (fun h i wr => ∃ (k : Nat) (z : Int), k ≤ s.size ∧ h = .int .u64 z ∧ i = .int .i64 (k : Int) ∧ Hid (w = wr ∧ z = hashF (s.data.toList.take k))) (fun _ i _ => s.size - (intOf i).toNat)
  case atStart => exact ⟨0, _, Nat.zero_le _, rfl, rfl, Lib.hid ⟨rfl, rfl⟩⟩
  case round =>
    obtain ⟨k, z, hk, rfl, rfl, hw⟩ := hrel
    by_cases hlt : k < s.size
    · go_wp2_with fail
      refine (HR.out _ _).mono ?_
      rintro e w1 ⟨rfl, rfl⟩
      go_wp2
      go_roundw
      case rel => exact ⟨k + 1, _, by omega, rfl, by go_num, Lib.hid ⟨hw.out.1, by rw [take_snocB s k hlt, hash_snoc, ← hw.out.2]; rfl⟩⟩
      case measure => simp [intOf]; omega
    · obtain rfl : k = s.size := by omega
      have HZ := Lib.hid (show z = hashF s.data.toList by rw [hw.out.2, List.take_of_length_le (show s.data.toList.length ≤ s.size from Nat.le_of_eq Array.length_toList)])
      have hwe := hw.out.1
      subst hwe
      obtain ⟨a, ha⟩ : ∃ a, bits BinOp.xor IntKind.u64 z (z / 536870912) = a := ⟨_, rfl⟩
      obtain ⟨b, hb⟩ : ∃ b, IntKind.u64.wrap (a * 13787848793156543929) = b := ⟨_, rfl⟩
      obtain ⟨h, hh⟩ : ∃ h, bits BinOp.xor IntKind.u64 b (b / 4294967296) = h := ⟨_, rfl⟩
      have HH := Lib.hid (show finF z = h by unfold finF; rw [ha, hb, hh])
      have hA := heap_alloc_new w (.cells (Array.replicate 16 (.int .i32 0)) 112)
      have HB := Lib.hid ((Below.refl w.heap.size w).alloc (Nat.le_refl _) (.cells (Array.replicate 16 (.int .i32 0)) 112))
      have HA := Lib.hid hA
      clear hw hA
      go_wp2_with fail
      clear ha hb hh hs HR
      go_loopw [30] (fun i wr => ∃ (k : Nat), k ≤ 16 ∧ i = .int .i64 (k : Int) ∧ ∃ zs : List Int, Hid (zs.length = 16 ∧ wr.heap[w.heap.size]? = some (.cells (zs.map (Value.int .i32)).toArray 112 (0, 0)) ∧ (∀ i, i < k → zs.getD i 0 = hexF (dgF h i)) ∧ Below w.heap.size w wr)) (fun i _ => 16 - (intOf i).toNat)
      case atStart => exact ⟨0, by omega, rfl, List.replicate 16 0, Lib.hid ⟨by simp, HA.out, by omega, HB.out⟩⟩
      case round =>
        obtain ⟨j, hj, rfl, zs, HZs⟩ := hrel
        by_cases hlt : j < 16
        · obtain ⟨d, hd⟩ : ∃ d : Nat, d = dgF h j := ⟨_, rfl⟩
          have e4 : bits BinOp.and IntKind.u64 (h / 2 ^ (60 - 4 * j)) 15 = (d : Int) := by
            have := and15 (h / 2 ^ (60 - 4 * j))
            rw [hd]; unfold dgF; omega
          have hd1 : (d : Int) < 16 := by have := dg_lt h j; omega
          have hd0 : (0 : Int) ≤ (d : Int) := by omega
          have HD := Lib.hid hd
          have hd16 : d < 16 := by omega
          have hd16' : j < 16 := hlt
          have HX := Lib.hid (hex_at ⟨d, hd16⟩)
          have c0 : wr.cell? ⟨w.heap.size, j, none⟩ = some (.int .i32 (zs.getD j 0)) := by
            have h1 := HZs.out.2.1
            have h2 := HZs.out.1
            simp only [World.cell?, h1]
            simp [List.getD_eq_getElem?_getD, List.getElem?_eq_getElem (show j < zs.length by omega)]
          have c1 : wr.frozen? ⟨w.heap.size, j, none⟩ = false := by simp [World.frozen?, HZs.out.2.1]
          clear hd
          go_wp2
          go_roundw
          case rel => exact ⟨j + 1, by omega, by go_num, zs.set j (hexF (dgF h j)), Lib.hid ⟨by simp [HZs.out.1], (hset HZs.out.2.1).trans (by rw [HX.out, show hexF ((⟨d, hd16⟩ : Fin 16) : Nat) = hexF (dgF h j) from congrArg hexF HD.out]; simp), set_at HZs.out.1 hd16' HZs.out.2.2.1, HZs.out.2.2.2.setCell (Nat.le_refl _) _⟩⟩
          case measure => simp [intOf]; omega
        · obtain rfl : j = 16 := by omega
          have HC := Lib.hid (run_convert_runes (P := Tryd.prog) wr 113 9 21 ⟨w.heap.size, 0, none⟩ 16 16 zs (by have := HZs.out.1; omega) Tryd.underlying113 Tryd.underlying21 Tryd.underlying9 (fun j hj => by
            have h1 := HZs.out.2.1
            have e : (⟨w.heap.size, 0, none⟩ : Addr).add j = ⟨w.heap.size, j, none⟩ := by
              cases j with
              | zero => rfl
              | succ j => simp [Addr.add]
            rw [e]
            simp only [World.cell?, h1]
            simp [List.getD_eq_getElem?_getD, List.getElem?_eq_getElem hj]))
          have HE := Lib.hid (show runesBytes (zs.take 16) = digF s.data.toList from congrArg runesBytes (codes_eq _ h zs HZs.out.1 (HZ.out ▸ HH.out) HZs.out.2.2.1))
          have hC := HC.out
          rw [HE.out] at hC
          go_wp2
          go_ret
          exact ⟨rfl, HZs.out.2.2.2⟩

theorem hexF_bd (d : Nat) (h : d < 16) : 48 ≤ hexF d ∧ hexF d ≤ 102 := by unfold hexF; split <;> omega
theorem enc_small : ∀ n : Fin 128, Utf8.encode (n.val : Int) = ⟨#[UInt8.ofNat n.val]⟩ := by decide +kernel
theorem runes_small (ns : List Int) (h : ∀ n ∈ ns, 0 ≤ n ∧ n < 128) : (runesBytes ns).data.toList = ns.map fun n => UInt8.ofNat n.toNat := by
  have key : ∀ (ns : List Int) (r : ByteArray), (∀ n ∈ ns, 0 ≤ n ∧ n < 128) → (ns.foldl (fun r n => r ++ Utf8.encode n) r).data.toList = r.data.toList ++ ns.map fun n => UInt8.ofNat n.toNat := by
    intro ns
    induction ns with
    | nil => intro r _; simp
    | cons n ns ih =>
      intro r hr
      have hn := hr n (by simp)
      rw [List.foldl_cons, ih _ (fun m hm => hr m (by simp [hm]))]
      have e := enc_small ⟨n.toNat, by omega⟩
      have e2 : ((n.toNat : Nat) : Int) = n := by omega
      simp only [e2] at e
      rw [e]
      simp
  have := key ns ByteArray.empty h
  simpa [runesBytes] using this
theorem dig_list (l : List UInt8) : (digF l).data.toList = (codesF l).map fun n => UInt8.ofNat n.toNat := by
  refine runes_small _ fun n hn => ?_
  unfold codesF at hn
  obtain ⟨j, _, rfl⟩ := List.mem_map.1 hn
  have := hexF_bd _ (dg_lt (finF (hashF l)) j)
  omega
theorem dig_size (l : List UInt8) : (digF l).size = 16 := by
  have h : (digF l).data.toList.length = 16 := by rw [dig_list]; simp [codesF]
  exact (show (digF l).data.toList.length = (digF l).size from Array.length_toList).symm.trans h
/-- No sign of a digest is a line's end, or what is escaped. -/
theorem dig_sign (l : List UInt8) : ∀ c ∈ (digF l).data.toList, 48 ≤ c.toNat ∧ c.toNat ≤ 102 ∧ c.toNat ≠ 92 := by
  intro c hc
  rw [dig_list] at hc
  obtain ⟨n, hn, rfl⟩ := List.mem_map.1 hc
  unfold codesF at hn
  obtain ⟨j, _, rfl⟩ := List.mem_map.1 hn
  have h := dg_lt (finF (hashF l)) j
  generalize dgF (finF (hashF l)) j = d at h
  have hb := hexF_bd d h
  have hne : hexF d ≠ 92 := by unfold hexF; split <;> omega
  have e : (UInt8.ofNat (hexF d).toNat).toNat = (hexF d).toNat := by simp; omega
  rw [e]
  omega
end Go.Proofs.YtllaahdbngjigaaDoor
