/-
  TopRisk, plain: a chain of hands on one way, and its stages by the day.
-/
import Derived.Test.YtofkeipfkglljaaDoorCov
namespace Go.Proofs.YtofkeipfkglljaaDoor
open Go Go.RowKit
set_option linter.unusedVariables false
set_option linter.unusedSimpArgs false

def tS : ByteArray := ⟨#[115]⟩
def tY : ByteArray := ⟨#[121]⟩
def nmK (k : Nat) : ByteArray := match k with
  | 0 => ⟨#[115]⟩
  | 1 => ⟨#[116, 114, 117, 99, 107]⟩
  | 2 => ⟨#[108, 105, 110, 101]⟩
  | 3 => ⟨#[113, 117, 97, 121]⟩
  | _ => ⟨#[121]⟩
def plK (k : Nat) : ByteArray := if k < 2 then ⟨#[114, 105, 103, 97]⟩ else ⟨#[111, 115, 108, 111]⟩
def stK (k : Nat) : Int := if k = 0 then 0 else if k < 4 then 3 else 7
theorem stK_le {j k : Nat} (h : j ≤ k) : stK j ≤ stK k := by unfold stK; split <;> split <;> (try split) <;> (try split) <;> omega

/-- A chain that has come k hands far on its way, by the day `at`. -/
structure Way (hs : List Hand) (k : Nat) (t : Int) : Prop where
  len : hs.length = k + 1
  last : ∃ init l, hs = init ++ [l] ∧ l.to.toList = (nmK k).toList ∧ l.day = t
  pos : ∀ h ∈ hs, 0 ≤ h.day
  some : ∀ d, 0 ≤ d → (lastH hs d).isSome = true
  bnd : ∀ d, stP (lastH hs d) ⟨#[115]⟩ ⟨#[121]⟩ ≤ stK k
  mono : ∀ d d', d ≤ d' → stP (lastH hs d) ⟨#[115]⟩ ⟨#[121]⟩ ≤ stP (lastH hs d') ⟨#[115]⟩ ⟨#[121]⟩

theorem stP_nm (h : Hand) (k : Nat) (hk : k ≤ 4) (ht : h.to.toList = (nmK k).toList) : stP (some h) ⟨#[115]⟩ ⟨#[121]⟩ = stK k := by
  unfold stP
  dsimp only
  rw [ht]
  obtain rfl | rfl | rfl | rfl | rfl : k = 0 ∨ k = 1 ∨ k = 2 ∨ k = 3 ∨ k = 4 := by omega
  all_goals decide +kernel

theorem way0 : Way [hand0] 0 0 := by
  have e : ∀ d, lastH [hand0] d = if 0 ≤ d then some hand0 else none := by
    intro d
    by_cases hd : 0 ≤ d
    · rw [if_pos hd]; exact lastH_hit [] hand0 d hd
    · rw [if_neg hd]; exact (lastH_miss [] hand0 d hd).trans (lastH_nil d)
  have z : stP (some hand0) ⟨#[115]⟩ ⟨#[121]⟩ = 0 := by rw [stP_nm hand0 0 (by omega) rfl]; rfl
  refine ⟨rfl, ⟨[], hand0, rfl, rfl, rfl⟩, ?_, fun d hd => by rw [e, if_pos hd]; rfl, fun d => ?_, fun d d' hd => ?_⟩
  · intro h hh; simp at hh; subst hh; exact Int.le_refl _
  · rw [e]; split
    · rw [z]; exact Int.le_refl _
    · exact Int.le_refl _
  · rw [e, e]
    split <;> split
    · exact Int.le_refl _
    · omega
    · rw [z]; exact Int.le_refl _
    · exact Int.le_refl _

theorem way_step {hs : List Hand} {k : Nat} {t : Int} (h : Way hs k t) (hk : k < 4) (t0 : 0 ≤ t) (x : Hand) (hx : x.to.toList = (nmK (k + 1)).toList) (hd : t ≤ x.day) : Way (hs ++ [x]) (k + 1) x.day := by
  have z := stP_nm x (k + 1) (by omega) hx
  have e : ∀ d, lastH (hs ++ [x]) d = if x.day ≤ d then some x else lastH hs d := by
    intro d
    by_cases hd : x.day ≤ d
    · rw [if_pos hd]; exact lastH_hit hs x d hd
    · rw [if_neg hd]; exact lastH_miss hs x d hd
  have m := stK_le (show k ≤ k + 1 by omega)
  refine ⟨by simp [h.len], ⟨hs, x, rfl, hx, rfl⟩, ?_, fun d hd => ?_, fun d => ?_, fun d d' hd => ?_⟩
  · intro y hy
    rw [List.mem_append] at hy
    rcases hy with hy | hy
    · exact h.pos y hy
    · simp at hy; subst hy; omega
  · rw [e]; split
    · rfl
    · exact h.some d hd
  · rw [e]; split
    · rw [z]; exact Int.le_refl _
    · exact Int.le_trans (h.bnd d) m
  · rw [e, e]
    split <;> split
    · exact Int.le_refl _
    · omega
    · rw [z]; exact Int.le_trans (h.bnd d) m
    · exact h.mono d d' hd
theorem way_none {hs : List Hand} {k : Nat} {t : Int} (h : Way hs k t) : lastH hs (-1) = none := by
  unfold lastH
  have : hs.filter (fun x => decide (x.day ≤ -1)) = [] := by
    rw [List.filter_eq_nil_iff]
    intro x hx
    have := h.pos x hx
    simp; omega
  rw [this]; rfl
theorem pays_le3 {loss value sum own share : Nat} (hv : 0 < value) (hs : share ≤ 1000) : paysN loss value sum own share ≤ value := by
  have h1 : min loss value * min value sum / value ≤ min loss value := Nat.div_le_of_le_mul (by rw [Nat.mul_comm value]; exact Nat.mul_le_mul_left _ (by omega))
  unfold paysN
  generalize min loss value * min value sum / value = m at *
  obtain ⟨x, hx⟩ : ∃ x, x = m - own := ⟨_, rfl⟩
  rw [← hx]
  have h3 : x * share / 1000 ≤ x := Nat.div_le_of_le_mul (by rw [Nat.mul_comm 1000]; exact Nat.mul_le_mul_left _ hs)
  omega
theorem nm_ok (k : Nat) (hk : k ≤ 4) : nameB (nmK k) = true := by
  obtain rfl | rfl | rfl | rfl | rfl : k = 0 ∨ k = 1 ∨ k = 2 ∨ k = 3 ∨ k = 4 := by omega
  all_goals decide +kernel
theorem pl_ok (k : Nat) : nameB (plK k) = true := by
  unfold plK
  split <;> decide +kernel
theorem nm_ne (k : Nat) (hk : k < 4) : ¬ (nmK k).toList = (nmK (k + 1)).toList := by
  obtain rfl | rfl | rfl | rfl : k = 0 ∨ k = 1 ∨ k = 2 ∨ k = 3 := by omega
  all_goals decide +kernel
theorem next_at (k : Nat) (hk : k < 4) : (#[.string ⟨#[116, 114, 117, 99, 107]⟩, .string ⟨#[108, 105, 110, 101]⟩, .string ⟨#[113, 117, 97, 121]⟩, .string ⟨#[121]⟩] : Array Value)[k]? = some (.string (nmK (k + 1))) := by
  obtain rfl | rfl | rfl | rfl : k = 0 ∨ k = 1 ∨ k = 2 ∨ k = 3 := by omega
  all_goals rfl
theorem place_at (k : Nat) (hk : k < 4) : (#[.string ⟨#[114, 105, 103, 97]⟩, .string ⟨#[114, 105, 103, 97]⟩, .string ⟨#[111, 115, 108, 111]⟩, .string ⟨#[111, 115, 108, 111]⟩] : Array Value)[k]? = some (.string (plK k)) := by
  obtain rfl | rfl | rfl | rfl : k = 0 ∨ k = 1 ∨ k = 2 ∨ k = 3 := by omega
  all_goals rfl
/-- What Pays tells, as far as the law asks. -/
def PayR (loss value sum : Int) (e : Ending) : Prop := ∃ (n : Int) (b : Bool), e = .returned (.tuple #[.int .i64 n, .bool b]) ∧ (b = true → n ≤ loss ∧ n ≤ value ∧ n ≤ sum)
theorem pays_risk (o : Po) (loss value : Int) (w : World) (h : Ints w o.cv o.zs) :
    Calls Tryd.prog 10 #[o.val, .int .i64 loss, .int .i64 value] w fun e w' => PayR loss value o.sum e ∧ Below w.heap.size w w' := by
  by_cases g : o.may = true ∧ 1 ≤ value ∧ value ≤ 1099511627776 ∧ 0 ≤ loss ∧ loss ≤ 1099511627776
  · obtain ⟨g1, g2, g3, g4, g5⟩ := g
    obtain ⟨L, rfl⟩ : ∃ L : Nat, loss = L := ⟨loss.toNat, by omega⟩
    obtain ⟨V, rfl⟩ : ∃ V : Nat, value = V := ⟨value.toNat, by omega⟩
    have h1 := may_nums g1
    have h2 := pays_bd g1 (loss := L) (value := V) (by omega)
    have h3 : o.paysN L V ≤ V := pays_le3 (by omega) (by omega)
    exact (pays_ok o L V w h g1 (by omega) (by omega) (by omega)).mono fun e w' ⟨he, hb⟩ => ⟨⟨_, _, he, fun _ => ⟨by omega, by omega, h2.2⟩⟩, hb⟩
  · exact (pays_bad o loss value w h g).mono fun e w' ⟨he, hb⟩ => ⟨⟨_, _, he, fun h => by cases h⟩, hb⟩
theorem who_s {k : Int} {hs : List Hand} {d : Int} (hk : isB k = true) (h : (lastH hs d).isSome = true) (g : ¬ risT k ≤ stP (lastH hs d) ⟨#[115]⟩ ⟨#[121]⟩) : pairV (whoR k (lastH hs d) ⟨#[115]⟩ ⟨#[121]⟩) = .tuple #[.string ⟨#[115]⟩, .bool true] := by
  unfold whoR pairV
  rw [if_pos ⟨h, hk, by decide +kernel⟩, if_neg g]
theorem who_b {k : Int} {hs : List Hand} {d : Int} (hk : isB k = true) (h : (lastH hs d).isSome = true) (g : risT k ≤ stP (lastH hs d) ⟨#[115]⟩ ⟨#[121]⟩) : pairV (whoR k (lastH hs d) ⟨#[115]⟩ ⟨#[121]⟩) = .tuple #[.string ⟨#[121]⟩, .bool true] := by
  unfold whoR pairV
  rw [if_pos ⟨h, hk, by decide +kernel⟩, if_pos g]
theorem who_n {k : Int} {o : Option Hand} (h : o = none) : pairV (whoR k o ⟨#[115]⟩ ⟨#[121]⟩) = .tuple #[.string ⟨#[]⟩, .bool false] := by
  subst h; rfl
end Go.Proofs.YtofkeipfkglljaaDoor
