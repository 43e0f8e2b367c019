/-
  claim.isSum, claim.Share.
-/
import Derived.Test.YtamfdkigokicoaaShareC
namespace Go.Proofs.Ytamfdkigokicoaa
open Go Go.RowKit
set_option linter.unusedVariables false
set_option linter.unusedSimpArgs false

def sumB (z : Int) : Bool := decide (0 ≤ z) && decide (z ≤ 1099511627776)
theorem issum_any (z : Int) (w : World) :
    Calls Try.prog 32 #[.int .i64 z] w fun e w' => e = .returned (.bool (sumB z)) ∧ w' = w := by
  unfold sumB
  cases h1 : decide (0 ≤ z) with
  | true =>
    go_enter Try.func32, Try.ntmps32
    go_wp2
    go_ret
    exact ⟨by rw [Bool.true_and]; rfl, rfl⟩
  | false =>
    go_enter Try.func32, Try.ntmps32
    go_wp2
    go_ret
    exact ⟨by rw [Bool.false_and]; rfl, rfl⟩

/-- Each one's line. -/
def linesN (l : List Po) : List Nat := l.map Po.lineN
theorem lines_len (l : List Po) : (natI (linesN l)).length = l.length := by simp [natI, linesN]
theorem lines_get {l : List Po} {k : Nat} (h : k < l.length) : (natI (linesN l)).getD k 0 = ((l.getD k default).lineN : Int) := by
  simp [natI, linesN, List.getD_eq_getElem?_getD, h]
theorem lines_getN {l : List Po} {k : Nat} (h : k < l.length) : (linesN l).getD k 0 = (l.getD k default).lineN := by
  simp [linesN, List.getD_eq_getElem?_getD, h]
theorem take_sum {W : List Nat} {k : Nat} (h : k < W.length) : (W.take (k + 1)).sum = (W.take k).sum + W.getD k 0 := by
  rw [List.take_succ_eq_append_getElem h, List.sum_append, List.getD_eq_getElem?_getD, List.getElem?_eq_getElem h]
  simp
theorem lines_le {l : List Po} (h : allMay l = true) : ∀ x ∈ linesN l, x ≤ 1099511627776 := by
  intro x hx
  obtain ⟨k, hk, rfl⟩ := List.mem_iff_getElem.1 hx
  have hk' : k < l.length := by simpa [linesN] using hk
  have := (line_bd ((allMay_iff l).1 h k hk')).1
  rw [← lines_getN hk', List.getD_eq_getElem?_getD, List.getElem?_eq_getElem hk] at this
  exact this
theorem nsum_le : ∀ (W : List Nat), (∀ x ∈ W, x ≤ 1099511627776) → W.sum ≤ W.length * 1099511627776
  | [], _ => by simp
  | x :: W, h => by
    have h1 := h x (by simp)
    have h2 := nsum_le W (fun y hy => h y (by simp [hy]))
    rw [List.sum_cons, List.length_cons, Nat.add_mul]; omega
theorem lines_wrong {l : List Po} {T : Nat} (hm : allMay l = true) (h0 : 0 < l.length) (h40 : l.length ≤ 4096) (hT : T ≤ 1099511627776) (hS : T ≤ (linesN l).sum) : wrongN (T : Int) (natI (linesN l)) = 0 := by
  have hb := lines_le hm
  unfold wrongN
  have hl := lines_len l
  rw [if_neg, if_neg, if_neg]
  · rintro ⟨h1, h2⟩
    have hz : ∀ x ∈ linesN l, x = 0 := fun x hx => by
      have : ¬ is_pos (x : Int) = true := fun hp => by
        rw [List.any_eq_false] at h2
        exact h2 (x : Int) (by simp [natI]; exact ⟨x, hx, rfl⟩) hp
      simp [is_pos] at this
      omega
    have : ∀ (W : List Nat), (∀ x ∈ W, x = 0) → W.sum = 0 := fun W => by
      induction W with
      | nil => intro _; rfl
      | cons a W ih => intro h; rw [List.sum_cons, h a (by simp), ih (fun x hx => h x (by simp [hx]))]
    have := this _ hz
    omega
  · rintro (h1 | h1 | h1)
    · omega
    · omega
    · obtain ⟨z, hz, hp⟩ := List.any_eq_true.1 h1
      simp only [natI, List.mem_map] at hz
      obtain ⟨x, hx, rfl⟩ := hz
      have := hb x hx
      simp [is_over] at hp
      omega
  · rintro (h1 | h1 | h1)
    · omega
    · rw [h1] at hl; simp at hl; omega
    · obtain ⟨z, hz, hp⟩ := List.any_eq_true.1 h1
      simp only [natI, List.mem_map] at hz
      obtain ⟨x, hx, rfl⟩ := hz
      simp [is_neg] at hp
      omega

/-- Can it be shared? -/
def shareB (loss : Int) (l : List Po) : Bool := decide (0 < l.length) && (allMay l && sumB loss)

set_option maxHeartbeats 2000000 in
theorem share_bad (loss : Int) (ao : Option Addr) (n cap : Nat) (l : List Po) (w : World) (h : Pos w (.slice ao n cap) l) (hn : n = l.length) (hcap : n ≤ maxLen) (hb : shareB loss l = false) :
    Calls Try.prog 11 #[.int .i64 loss, .slice ao n cap] w fun e w' => e = .returned (.tuple #[.slice none 0 0, .int .i64 1]) ∧ Below w.heap.size w w' := by
  have HC := Lib.hid (has_pol ao n cap l w h hn hcap)
  have HS := Lib.hid (fun w => issum_any loss w)
  unfold shareB at hb
  by_cases h0 : n = 0
  · subst h0
    clear hb h hn
    have d1 : ((0 : Int) == 0) = true := rfl
    go_enter Try.func11, Try.ntmps11
    go_wp2
    go_ret2
    exact ⟨rfl, Below.refl _ _⟩
  · have d1 : ((n : Int) == 0) = false := by rw [beq_eq_false_iff_ne]; omega
    rw [show decide (0 < l.length) = true by rw [decide_eq_true_iff]; omega, Bool.true_and] at hb
    cases g1 : allMay l with
    | false =>
      rw [g1] at HC
      clear hb h hn h0
      go_enter Try.func11, Try.ntmps11
      go_wp2_with fail
      refine HC.out.mono ?_
      rintro e w1 ⟨rfl, hb⟩
      have HB := Lib.hid hb
      clear hb
      go_wp2
      go_ret2
      exact ⟨rfl, HB.out⟩
    | true =>
      rw [g1] at HC
      rw [g1, Bool.true_and] at hb
      rw [hb] at HS
      clear hb h hn h0
      go_enter Try.func11, Try.ntmps11
      go_wp2_with fail
      refine HC.out.mono ?_
      rintro e w1 ⟨rfl, hb⟩
      have HB := Lib.hid hb
      clear hb
      go_wp2_with fail
      refine (HS.out _).mono ?_
      rintro e w1 ⟨rfl, rfl⟩
      go_wp2
      go_ret2
      exact ⟨rfl, HB.out⟩

/-- What Share tells: each one's line, or the loss split by the lines. -/
def IsShared (loss : Int) (l : List Po) (out : List Nat) : Prop :=
  ((linesN l).sum < loss.toNat ∧ out = linesN l) ∨ (loss.toNat ≤ (linesN l).sum ∧ IsSplit loss.toNat (linesN l) out)
theorem shared_len {loss : Int} {l : List Po} {out : List Nat} (h : IsShared loss l out) : out.length = l.length := by
  rcases h with ⟨_, rfl⟩ | ⟨_, h⟩
  · simp [linesN]
  · rw [h.len]; simp [linesN]

end Go.Proofs.Ytamfdkigokicoaa
