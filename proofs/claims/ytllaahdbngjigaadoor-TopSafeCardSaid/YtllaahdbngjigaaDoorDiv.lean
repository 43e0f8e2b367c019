/-
  math/bits: Div64, of two words by one.
-/
import Derived.Test.YtllaahdbngjigaaDoorDivP
import Derived.Test.YtllaahdbngjigaaDoorLen
import Derived.Deep.DeepCutAuto
import Derived.Deep.CutBlock
import Derived.BigGuardPart
namespace Go.Proofs.YtllaahdbngjigaaDoor
open Go Go.RowKit
set_option linter.unusedVariables false
set_option linter.unusedSimpArgs false

theorem u64_eq {z : Int} {n : Nat} (h : z = (n : Int)) (hb : n < 18446744073709551616) : IntKind.u64.wrap z = (n : Int) := by subst h; exact wrapN n hb
theorem powN (x s : Nat) : (x : Int) * 2 ^ s = ((x * 2 ^ s : Nat) : Int) := by simp
theorem orN {hh t s : Nat} (hd : ∃ h, hh = h * 2 ^ s) (ht : t < 2 ^ s) (h1 : hh < 18446744073709551616) (h2 : t < 18446744073709551616) : bits .or .u64 (hh : Int) (t : Int) = ((hh + t : Nat) : Int) := by
  have h := bits_or_u64_nat hh t h1 h2
  obtain ⟨k, rfl⟩ := hd
  rw [h]
  have := Nat.two_pow_add_eq_or_of_lt ht k
  rw [Nat.mul_comm] at this
  rw [this]

set_option maxRecDepth 100000 in
set_option maxHeartbeats 4000000 in
theorem div_long (hi lo y s : Nat) (w : World) (h1 : 0 < hi) (h2 : hi < y) (h3 : y < 18446744073709551616) (hlo : lo < 18446744073709551616) (hs : s < 64) (hy1 : 9223372036854775808 ≤ y * 2 ^ s) (hy2 : y * 2 ^ s < 18446744073709551616)
    (HC : ∀ w, Calls Tryd.prog 88 #[.int .u64 (y : Int)] w fun e w' => e = .returned (.int .i64 (s : Int)) ∧ w = w') :
   Calls Tryd.prog 60 #[.int .u64 (hi : Int), .int .u64 (lo : Int), .int .u64 (y : Int)] w fun e w' =>
    e = .returned (.tuple #[.int .u64 ((hi * 18446744073709551616 + lo) / y : Nat), .int .u64 ((hi * 18446744073709551616 + lo) % y : Nat)]) ∧ w = w' := by
  obtain ⟨sh1, sh2, sh3⟩ := shift_two hlo h2 hs hy2
  obtain ⟨yy, hyy⟩ : ∃ x, x = y * 2 ^ s := ⟨_, rfl⟩
  obtain ⟨a, ha⟩ : ∃ x, x = yy / 4294967296 := ⟨_, rfl⟩
  obtain ⟨b, hb⟩ : ∃ x, x = yy % 4294967296 := ⟨_, rfl⟩
  obtain ⟨hh, hhh⟩ : ∃ x, x = hi * 2 ^ s := ⟨_, rfl⟩
  obtain ⟨t, ht⟩ : ∃ x, x = lo / 2 ^ (64 - s) := ⟨_, rfl⟩
  obtain ⟨u, hu⟩ : ∃ x, x = hh + t := ⟨_, rfl⟩
  obtain ⟨l, hl⟩ : ∃ x, x = lo * 2 ^ s % 18446744073709551616 := ⟨_, rfl⟩
  obtain ⟨c, hc⟩ : ∃ x, x = l / 4294967296 := ⟨_, rfl⟩
  obtain ⟨d, hd⟩ : ∃ x, x = l % 4294967296 := ⟨_, rfl⟩
  rw [← hhh, ← ht] at sh1 sh3
  rw [← ht] at sh2
  rw [← hl, ← hu] at sh1
  rw [← hu] at sh3
  rw [← hyy] at sh3 hy1 hy2
  have la : 2147483648 ≤ a := by omega
  have la2 : a < 4294967296 := by omega
  have lb : b < 4294967296 := by omega
  have ll : l < 18446744073709551616 := by rw [hl]; exact Nat.mod_lt _ (by decide)
  have lc : c < 4294967296 := by omega
  have ld : d < 4294967296 := by omega
  have eyy : yy = a * 4294967296 + b := by omega
  have el : l = c * 4294967296 + d := by omega
  have lu : u < yy := sh3
  have HFIN := Lib.hid (fun (q1 r1 q0 r0 : Nat) => two_digits (H := hi * 18446744073709551616 + lo) (y := y) (S := 2 ^ s) (u := u) (l := l) (D := yy) (u1 := c) (u0 := d) (q1 := q1) (r1 := r1) (q0 := q0) (r0 := r0) (Nat.two_pow_pos _) hyy (by omega) el sh1)
  have E1 : IntKind.u64.wrap ((y : Int) * 2 ^ s) = (yy : Int) := u64_eq (by rw [powN, hyy]) hy2
  have E2 : (yy : Int) / 4294967296 = (a : Int) := by omega
  have E3 : bits .and .u64 (yy : Int) 4294967295 = (b : Int) := by rw [maskN yy hy2, hb]
  have E4 : IntKind.u64.wrap ((hi : Int) * 2 ^ s) = (hh : Int) := u64_eq (by rw [powN, hhh]) (by omega)
  have E5 : bits .or .u64 (hh : Int) ((lo : Int) / 2 ^ (64 - s)) = (u : Int) := by
    rw [show (lo : Int) / 2 ^ (64 - s) = (t : Int) by rw [ht]; simp, hu]
    exact orN ⟨hi, hhh⟩ sh2 (by omega) (by omega)
  have E6 : IntKind.u64.wrap ((lo : Int) * 2 ^ s) = (l : Int) := by rw [powN, wrapM, hl]
  have E7 : (l : Int) / 4294967296 = (c : Int) := by omega
  have E8 : bits .and .u64 (l : Int) 4294967295 = (d : Int) := by rw [maskN l ll, hd]
  have g1 : ((y : Int) == 0) = false := by rw [beq_eq_false_iff_ne]; omega
  have g2 : decide (y ≤ hi) = false := by rw [decide_eq_false_iff_not]; omega
  have g3 : ((hi : Int) == 0) = false := by rw [beq_eq_false_iff_ne]; omega
  have HEY := Lib.hid eyy
  clear hyy ha hb hhh ht hu hl hc hd sh1 sh2 sh3 eyy el hy1 ll
  have a0 : (0 : Int) < (a : Int) := by omega
  obtain ⟨qs, hqs⟩ : ∃ x, x = u / a := ⟨_, rfl⟩
  obtain ⟨rs, hrs⟩ : ∃ x, x = u % a := ⟨_, rfl⟩
  have hua := Nat.div_add_mod u a
  rw [← hqs, ← hrs, Nat.mul_comm] at hua
  have hD1 := Lib.hid (show Dig u a b c qs rs ∧ qs ≤ 4294967297 by rw [hqs, hrs]; exact dig_start la lb lc (by rw [← HEY.out]; exact lu))
  have hrl : rs < 4294967296 := by rw [hrs]; have := Nat.mod_lt u (show 0 < a by omega); omega
  obtain ⟨m1, hm1⟩ : ∃ x, x = qs * a := ⟨_, rfl⟩
  have E9 : IntKind.u64.wrap ((u : Int).tdiv (a : Int)) = (qs : Int) := by rw [← Int.ofNat_tdiv, ← hqs]; exact wrapN _ (by have := hD1.out.2; omega)
  have E9b : IntKind.u64.wrap ((u : Int) / (a : Int)) = (qs : Int) := by rw [← Int.natCast_ediv, ← hqs]; exact wrapN _ (by have := hD1.out.2; omega)
  have E10 : IntKind.u64.wrap ((qs : Int) * (a : Int)) = (m1 : Int) := u64_eq (by rw [mulN, hm1]) (by omega)
  have E11 : IntKind.u64.wrap ((u : Int) - (m1 : Int)) = (rs : Int) := u64_eq (by omega) (by omega)
  have HCC := Lib.hid HC
  clear hqs hrs hua hm1 HC
  go_enter Tryd.func60, Tryd.ntmps60
  go_wp2_with fail
  refine (HCC.out _).mono ?_
  rintro e w1 ⟨rfl, rfl⟩
  go_upto_block 0 with fail
  obtain ⟨q1, hq1⟩ : ∃ x, x = (u * 4294967296 + c) / yy := ⟨_, rfl⟩
  have HQ1 := Lib.hid hq1
  clear E1 E2 E3 E4 E5 E6 E7 E8 E9 E9b E10 E11 g1 g2 g3 hq1
  go_cut [15, 16] from 67 (fun x _ wx => x = .int .u64 (q1 : Int) ∧ wx = w)
  case first =>
    have HRL := Lib.hid hrl
    go_wp2_with fail
    have HBD := Lib.hid (And.intro la (And.intro lb (And.intro lu (And.intro lc la2))))
    clear la la2 lb lc ld lu h1 h2 h3 hlo hs hy2 a0 hrl
    go_loop [15, 16] (fun x z => ∃ q r : Nat, x = .int .u64 (q : Int) ∧ z = .int .u64 (r : Int) ∧ Hid (q ≤ 4294967297) ∧ Hid (r < 4294967296) ∧ Hid (Dig u a b c q r)) (fun x _ => (intOf x).toNat)
    case atStart => exact ⟨qs, rs, rfl, rfl, Lib.hid hD1.out.2, HRL.out, Lib.hid hD1.out.1⟩
    case round =>
      obtain ⟨q, r, rfl, rfl, hq, hr, hd⟩ := hrel
      obtain ⟨la, lb, lu, lc, la2⟩ := HBD.out
      have hq' := hq.out
      have hr' := hr.out
      obtain ⟨q', hqq⟩ : ∃ x, x = q - 1 := ⟨_, rfl⟩
      obtain ⟨r', hrr⟩ : ∃ x, x = r + a := ⟨_, rfl⟩
      have e2 : IntKind.u64.wrap ((r : Int) + (a : Int)) = (r' : Int) := u64_eq (by omega) (by omega)
      have HNX := Lib.hid (fun (hf : 4294967296 ≤ q ∨ 4294967296 * r + c < q * b) => show 1 ≤ q ∧ Dig u a b c q' r' from by rw [hqq, hrr]; exact dig_less la (by rw [← HEY.out]; exact lu) lc hd.out hf)
      have HGO := Lib.hid (And.intro hqq hrr)
      by_cases hbig : 4294967296 ≤ q
      · obtain ⟨p1, p2⟩ := HNX.out (.inl hbig)
        have d1 : decide ((4294967296 : Int) ≤ (q : Int)) = true := by rw [decide_eq_true_iff]; omega
        have e1 : IntKind.u64.wrap ((q : Int) - 1) = (q' : Int) := u64_eq (by omega) (by omega)
        have hlt : q' < q := by omega
        have hq2 : q' ≤ 4294967297 := by omega
        by_cases hbr : 4294967296 ≤ r'
        · have d2 : decide ((4294967296 : Int) ≤ (r' : Int)) = true := by rw [decide_eq_true_iff]; omega
          have HQ := Lib.hid (dig_break la lb p2 (by omega) hbr)
          clear p1 p2 hqq hrr hbig hbr hq' hr' la lb lu lc la2 hlt hq2
          go_wp2
          go_meet
          case rel => exact ⟨by rw [HQ1.out, HQ.out, ← HEY.out], rfl⟩
        · have d2 : decide ((4294967296 : Int) ≤ (r' : Int)) = false := by rw [decide_eq_false_iff_not]; omega
          have HR := Lib.hid (And.intro hq2 (And.intro (show r' < 4294967296 by omega) p2))
          clear p1 p2 hqq hrr hbig hbr hq' hr' la lb lu lc la2 hq2
          go_wp2
          go_round
          case rel => exact ⟨q', r', rfl, rfl, Lib.hid HR.out.1, Lib.hid HR.out.2.1, Lib.hid HR.out.2.2⟩
          case measure => simp [intOf]; omega
      · have d1 : decide ((4294967296 : Int) ≤ (q : Int)) = false := by rw [decide_eq_false_iff_not]; omega
        obtain ⟨qb, hqb⟩ : ∃ x, x = q * b := ⟨_, rfl⟩
        have lqb : qb < 18446744073709551616 := by rw [hqb]; exact Nat.lt_of_le_of_lt (Nat.mul_le_mul (show q ≤ 4294967295 by omega) (show b ≤ 4294967295 by omega)) (by decide)
        obtain ⟨rb, hrb⟩ : ∃ x, x = 4294967296 * r := ⟨_, rfl⟩
        obtain ⟨rc, hrc⟩ : ∃ x, x = 4294967296 * r + c := ⟨_, rfl⟩
        have f1 : IntKind.u64.wrap ((q : Int) * (b : Int)) = (qb : Int) := u64_eq (by rw [mulN, hqb]) lqb
        have f2 : IntKind.u64.wrap (4294967296 * (r : Int)) = (rb : Int) := u64_eq (by omega) (by omega)
        have f3 : IntKind.u64.wrap ((rb : Int) + (c : Int)) = (rc : Int) := u64_eq (by omega) (by omega)
        by_cases hgt : rc < qb
        · obtain ⟨p1, p2⟩ := HNX.out (.inr (by rw [← hrc, ← hqb]; exact hgt))
          have d3 : decide (rc < qb) = true := by rw [decide_eq_true_iff]; exact hgt
          have e1 : IntKind.u64.wrap ((q : Int) - 1) = (q' : Int) := u64_eq (by omega) (by omega)
          have hlt : q' < q := by omega
          have hq2 : q' ≤ 4294967297 := by omega
          by_cases hbr : 4294967296 ≤ r'
          · have d2 : decide ((4294967296 : Int) ≤ (r' : Int)) = true := by rw [decide_eq_true_iff]; omega
            have HQ := Lib.hid (dig_break la lb p2 (by omega) hbr)
            clear p1 p2 hqq hrr hbig hbr hq' hr' la lb lu lc la2 hlt hq2 lqb hqb hrb hrc
            go_wp2
            go_meet
            case rel => exact ⟨by rw [HQ1.out, HQ.out, ← HEY.out], rfl⟩
          · have d2 : decide ((4294967296 : Int) ≤ (r' : Int)) = false := by rw [decide_eq_false_iff_not]; omega
            have HR := Lib.hid (And.intro hq2 (And.intro (show r' < 4294967296 by omega) p2))
            clear p1 p2 hqq hrr hbig hbr hq' hr' la lb lu lc la2 hq2 lqb hqb hrb hrc
            go_wp2
            go_round
            case rel => exact ⟨q', r', rfl, rfl, Lib.hid HR.out.1, Lib.hid HR.out.2.1, Lib.hid HR.out.2.2⟩
            case measure => simp [intOf]; omega
        · have d3 : decide (rc < qb) = false := by rw [decide_eq_false_iff_not]; exact hgt
          have HQ := Lib.hid (dig_fits la hd.out (by rw [← hrc, ← hqb]; omega))
          clear hqq hrr hbig hq' hr' la lb lu lc la2 lqb hqb hrb hrc
          go_wp2
          go_meet
          case rel => exact ⟨by rw [HQ1.out, HQ.out, ← HEY.out], rfl⟩
  case rest =>
    obtain ⟨rfl, rfl⟩ := hcut
    obtain ⟨v, hv⟩ : ∃ x, x = (u * 4294967296 + c) % yy := ⟨_, rfl⟩
    have hy0 : 0 < yy := by omega
    have lv : v < yy := by rw [hv]; exact Nat.mod_lt _ hy0
    have hdm := Nat.div_add_mod (u * 4294967296 + c) yy
    rw [← HQ1.out, ← hv] at hdm
    obtain ⟨m2, hm2⟩ : ∃ x, x = q1 * yy := ⟨_, rfl⟩
    rw [Nat.mul_comm, ← hm2] at hdm
    have lq1 : q1 < 4294967296 := by rw [HQ1.out, HEY.out]; exact dig_lt (by rw [← HEY.out]; exact lu) lc la
    obtain ⟨k1, hk1⟩ : ∃ x, x = u * 4294967296 % 18446744073709551616 := ⟨_, rfl⟩
    obtain ⟨k2, hk2⟩ : ∃ x, x = (k1 + c) % 18446744073709551616 := ⟨_, rfl⟩
    obtain ⟨k3, hk3⟩ : ∃ x, x = m2 % 18446744073709551616 := ⟨_, rfl⟩
    have E1 : IntKind.u64.wrap ((u : Int) * 4294967296) = (k1 : Int) := by rw [show (u : Int) * 4294967296 = ((u * 4294967296 : Nat) : Int) by simp, wrapM, hk1]
    have E2 : IntKind.u64.wrap ((k1 : Int) + (c : Int)) = (k2 : Int) := by rw [addN, wrapM, hk2]
    have E3 : IntKind.u64.wrap ((q1 : Int) * (yy : Int)) = (k3 : Int) := by rw [mulN, wrapM, ← hm2, hk3]
    have E4 : IntKind.u64.wrap ((k2 : Int) - (k3 : Int)) = (v : Int) := by rw [IntKind.wrap_u64]; omega
    obtain ⟨qt, hqt⟩ : ∃ x, x = v / a := ⟨_, rfl⟩
    obtain ⟨rt, hrt⟩ : ∃ x, x = v % a := ⟨_, rfl⟩
    have hva := Nat.div_add_mod v a
    rw [← hqt, ← hrt, Nat.mul_comm] at hva
    have hD0 := Lib.hid (show Dig v a b d qt rt ∧ qt ≤ 4294967297 by rw [hqt, hrt]; exact dig_start la lb ld (by rw [← HEY.out]; exact lv))
    have hrl0 : rt < 4294967296 := by rw [hrt]; have := Nat.mod_lt v (show 0 < a by omega); omega
    obtain ⟨m3, hm3⟩ : ∃ x, x = qt * a := ⟨_, rfl⟩
    have E9 : IntKind.u64.wrap ((v : Int).tdiv (a : Int)) = (qt : Int) := by rw [← Int.ofNat_tdiv, ← hqt]; exact wrapN _ (by have := hD0.out.2; omega)
    have E9b : IntKind.u64.wrap ((v : Int) / (a : Int)) = (qt : Int) := by rw [← Int.natCast_ediv, ← hqt]; exact wrapN _ (by have := hD0.out.2; omega)
    have E10 : IntKind.u64.wrap ((qt : Int) * (a : Int)) = (m3 : Int) := u64_eq (by rw [mulN, hm3]) (by omega)
    have E11 : IntKind.u64.wrap ((v : Int) - (m3 : Int)) = (rt : Int) := u64_eq (by omega) (by omega)
    have HV := Lib.hid hv
    clear hqt hrt hva hm3 hdm hm2 hk1 hk2 hk3 hv
    go_upto_block 2 with fail
    obtain ⟨q0, hq0⟩ : ∃ x, x = (v * 4294967296 + d) / yy := ⟨_, rfl⟩
    have HQ0 := Lib.hid hq0
    clear E1 E2 E3 E4 E9 E9b E10 E11 hq0
    go_cut [18, 16] from 102 (fun x _ wx => x = .int .u64 (q0 : Int) ∧ wx = wc)
    case first =>
      have HRL0 := Lib.hid hrl0
      go_wp2_with fail
      have HBD := Lib.hid (And.intro la (And.intro lb (And.intro lv (And.intro ld la2))))
      clear la la2 lb lc ld lu h1 h2 h3 hlo hs hy2 a0 hrl0 lv lq1 hy0 hrl
      go_loop [18, 16] (fun x z => ∃ q r : Nat, x = .int .u64 (q : Int) ∧ z = .int .u64 (r : Int) ∧ Hid (q ≤ 4294967297) ∧ Hid (r < 4294967296) ∧ Hid (Dig v a b d q r)) (fun x _ => (intOf x).toNat)
      case atStart => exact ⟨qt, rt, rfl, rfl, Lib.hid hD0.out.2, HRL0.out, Lib.hid hD0.out.1⟩
      case round =>
        obtain ⟨q, r, rfl, rfl, hq, hr, hd⟩ := hrel
        obtain ⟨la, lb, lu, lc, la2⟩ := HBD.out
        have hq' := hq.out
        have hr' := hr.out
        obtain ⟨q', hqq⟩ : ∃ x, x = q - 1 := ⟨_, rfl⟩
        obtain ⟨r', hrr⟩ : ∃ x, x = r + a := ⟨_, rfl⟩
        have e2 : IntKind.u64.wrap ((r : Int) + (a : Int)) = (r' : Int) := u64_eq (by omega) (by omega)
        have HNX := Lib.hid (fun (hf : 4294967296 ≤ q ∨ 4294967296 * r + d < q * b) => show 1 ≤ q ∧ Dig v a b d q' r' from by rw [hqq, hrr]; exact dig_less la (by rw [← HEY.out]; exact lu) lc hd.out hf)
        have HGO := Lib.hid (And.intro hqq hrr)
        by_cases hbig : 4294967296 ≤ q
        · obtain ⟨p1, p2⟩ := HNX.out (.inl hbig)
          have d1 : decide ((4294967296 : Int) ≤ (q : Int)) = true := by rw [decide_eq_true_iff]; omega
          have e1 : IntKind.u64.wrap ((q : Int) - 1) = (q' : Int) := u64_eq (by omega) (by omega)
          have hlt : q' < q := by omega
          have hq2 : q' ≤ 4294967297 := by omega
          by_cases hbr : 4294967296 ≤ r'
          · have d2 : decide ((4294967296 : Int) ≤ (r' : Int)) = true := by rw [decide_eq_true_iff]; omega
            have HQ := Lib.hid (dig_break la lb p2 (by omega) hbr)
            clear p1 p2 hqq hrr hbig hbr hq' hr' la lb lu lc la2 hlt hq2
            go_wp2
            go_meet
            case rel => exact ⟨by rw [HQ0.out, HQ.out, ← HEY.out], rfl⟩
          · have d2 : decide ((4294967296 : Int) ≤ (r' : Int)) = false := by rw [decide_eq_false_iff_not]; omega
            have HR := Lib.hid (And.intro hq2 (And.intro (show r' < 4294967296 by omega) p2))
            clear p1 p2 hqq hrr hbig hbr hq' hr' la lb lu lc la2 hq2
            go_wp2
            go_round
            case rel => exact ⟨q', r', rfl, rfl, Lib.hid HR.out.1, Lib.hid HR.out.2.1, Lib.hid HR.out.2.2⟩
            case measure => simp [intOf]; omega
        · have d1 : decide ((4294967296 : Int) ≤ (q : Int)) = false := by rw [decide_eq_false_iff_not]; omega
          obtain ⟨qb, hqb⟩ : ∃ x, x = q * b := ⟨_, rfl⟩
          have lqb : qb < 18446744073709551616 := by rw [hqb]; exact Nat.lt_of_le_of_lt (Nat.mul_le_mul (show q ≤ 4294967295 by omega) (show b ≤ 4294967295 by omega)) (by decide)
          obtain ⟨rb, hrb⟩ : ∃ x, x = 4294967296 * r := ⟨_, rfl⟩
          obtain ⟨rc, hrc⟩ : ∃ x, x = 4294967296 * r + d := ⟨_, rfl⟩
          have f1 : IntKind.u64.wrap ((q : Int) * (b : Int)) = (qb : Int) := u64_eq (by rw [mulN, hqb]) lqb
          have f2 : IntKind.u64.wrap (4294967296 * (r : Int)) = (rb : Int) := u64_eq (by omega) (by omega)
          have f3 : IntKind.u64.wrap ((rb : Int) + (d : Int)) = (rc : Int) := u64_eq (by omega) (by omega)
          by_cases hgt : rc < qb
          · obtain ⟨p1, p2⟩ := HNX.out (.inr (by rw [← hrc, ← hqb]; exact hgt))
            have d3 : decide (rc < qb) = true := by rw [decide_eq_true_iff]; exact hgt
            have e1 : IntKind.u64.wrap ((q : Int) - 1) = (q' : Int) := u64_eq (by omega) (by omega)
            have hlt : q' < q := by omega
            have hq2 : q' ≤ 4294967297 := by omega
            by_cases hbr : 4294967296 ≤ r'
            · have d2 : decide ((4294967296 : Int) ≤ (r' : Int)) = true := by rw [decide_eq_true_iff]; omega
              have HQ := Lib.hid (dig_break la lb p2 (by omega) hbr)
              clear p1 p2 hqq hrr hbig hbr hq' hr' la lb lu lc la2 hlt hq2 lqb hqb hrb hrc
              go_wp2
              go_meet
              case rel => exact ⟨by rw [HQ0.out, HQ.out, ← HEY.out], rfl⟩
            · have d2 : decide ((4294967296 : Int) ≤ (r' : Int)) = false := by rw [decide_eq_false_iff_not]; omega
              have HR := Lib.hid (And.intro hq2 (And.intro (show r' < 4294967296 by omega) p2))
              clear p1 p2 hqq hrr hbig hbr hq' hr' la lb lu lc la2 hq2 lqb hqb hrb hrc
              go_wp2
              go_round
              case rel => exact ⟨q', r', rfl, rfl, Lib.hid HR.out.1, Lib.hid HR.out.2.1, Lib.hid HR.out.2.2⟩
              case measure => simp [intOf]; omega
          · have d3 : decide (rc < qb) = false := by rw [decide_eq_false_iff_not]; exact hgt
            have HQ := Lib.hid (dig_fits la hd.out (by rw [← hrc, ← hqb]; omega))
            clear hqq hrr hbig hq' hr' la lb lu lc la2 lqb hqb hrb hrc
            go_wp2
            go_meet
            case rel => exact ⟨by rw [HQ0.out, HQ.out, ← HEY.out], rfl⟩
    case rest =>
      obtain ⟨rfl, rfl⟩ := hcut
      obtain ⟨rr, hrr⟩ : ∃ x, x = (v * 4294967296 + d) % yy := ⟨_, rfl⟩
      obtain ⟨fq, fr⟩ := HFIN.out q1 v q0 rr HQ1.out HV.out HQ0.out hrr
      have lrr : rr < yy := by rw [hrr]; exact Nat.mod_lt _ hy0
      have lq0 : q0 < 4294967296 := by rw [HQ0.out, HEY.out]; exact dig_lt (by rw [← HEY.out]; exact lv) ld la
      have hdm := Nat.div_add_mod (v * 4294967296 + d) yy
      rw [← HQ0.out, ← hrr] at hdm
      obtain ⟨m4, hm4⟩ : ∃ x, x = q0 * yy := ⟨_, rfl⟩
      rw [Nat.mul_comm, ← hm4] at hdm
      obtain ⟨k1, hk1⟩ : ∃ x, x = v * 4294967296 % 18446744073709551616 := ⟨_, rfl⟩
      obtain ⟨k2, hk2⟩ : ∃ x, x = (k1 + d) % 18446744073709551616 := ⟨_, rfl⟩
      obtain ⟨k3, hk3⟩ : ∃ x, x = m4 % 18446744073709551616 := ⟨_, rfl⟩
      obtain ⟨k4, hk4⟩ : ∃ x, x = q1 * 4294967296 := ⟨_, rfl⟩
      obtain ⟨QQ, hQQ⟩ : ∃ x, x = (hi * 18446744073709551616 + lo) / y := ⟨_, rfl⟩
      obtain ⟨RR, hRR⟩ : ∃ x, x = (hi * 18446744073709551616 + lo) % y := ⟨_, rfl⟩
      rw [← hQQ] at fq
      rw [← hRR] at fr
      have E1 : IntKind.u64.wrap ((v : Int) * 4294967296) = (k1 : Int) := by rw [show (v : Int) * 4294967296 = ((v * 4294967296 : Nat) : Int) by simp, wrapM, hk1]
      have E2 : IntKind.u64.wrap ((k1 : Int) + (d : Int)) = (k2 : Int) := by rw [addN, wrapM, hk2]
      have E3 : IntKind.u64.wrap ((q0 : Int) * (yy : Int)) = (k3 : Int) := by rw [mulN, wrapM, ← hm4, hk3]
      have E4 : IntKind.u64.wrap ((k2 : Int) - (k3 : Int)) = (rr : Int) := by rw [IntKind.wrap_u64]; omega
      have E5 : (rr : Int) / 2 ^ s = (RR : Int) := by rw [← fr]; simp
      have E6 : IntKind.u64.wrap ((q1 : Int) * 4294967296) = (k4 : Int) := u64_eq (by rw [hk4]; simp) (by omega)
      have E7 : IntKind.u64.wrap ((k4 : Int) + (q0 : Int)) = (QQ : Int) := u64_eq (by omega) (by omega)
      have HQR := Lib.hid (And.intro hQQ hRR)
      clear fq fr lrr lq0 hdm hm4 hk1 hk2 hk3 hk4 hQQ hRR la la2 lb lc ld lu h1 h2 h3 hlo hy2 a0 hrl hrl0 lv lq1 hy0 hrr
      go_wp2
      go_ret2
      exact ⟨by rw [← HQR.out.1, ← HQR.out.2]; rfl, rfl⟩

set_option maxHeartbeats 1000000 in
theorem div_short (lo y : Nat) (w : World) (h2 : 0 < y) (h3 : y < 18446744073709551616) (hlo : lo < 18446744073709551616) :
   Calls Tryd.prog 60 #[.int .u64 0, .int .u64 (lo : Int), .int .u64 (y : Int)] w fun e w' =>
    e = .returned (.tuple #[.int .u64 (lo / y : Nat), .int .u64 (lo % y : Nat)]) ∧ ∃ n, w' = w.drewN n := by
  have g1 : ((y : Int) == 0) = false := by rw [beq_eq_false_iff_ne]; omega
  have g2 : decide ((y : Int) ≤ 0) = false := by rw [decide_eq_false_iff_not]; omega
  have y0 : (0 : Int) < (y : Int) := by omega
  have l0 : (0 : Int) ≤ (lo : Int) := by omega
  obtain ⟨q, hq⟩ : ∃ q, q = lo / y := ⟨_, rfl⟩
  obtain ⟨r, hr⟩ : ∃ r, r = lo % y := ⟨_, rfl⟩
  have lq : q < 18446744073709551616 := by rw [hq]; exact Nat.lt_of_le_of_lt (Nat.div_le_self _ _) hlo
  have lr : r < 18446744073709551616 := by rw [hr]; exact Nat.lt_trans (Nat.mod_lt _ h2) h3
  have E1 : (lo : Int) / (y : Int) = (q : Int) := by rw [← Int.natCast_ediv, ← hq]
  have E2 : (lo : Int) % (y : Int) = (r : Int) := by rw [← Int.natCast_emod, ← hr]
  have E3 : (lo : Int).tdiv (y : Int) = (q : Int) := by rw [← Int.ofNat_tdiv, ← hq]
  have E4 : (lo : Int).tmod (y : Int) = (r : Int) := by rw [← Int.ofNat_tmod, ← hr]
  have E5 : IntKind.u64.wrap (q : Int) = (q : Int) := wrapN q lq
  have E6 : IntKind.u64.wrap (r : Int) = (r : Int) := wrapN r lr
  have HQR := Lib.hid (And.intro hq hr)
  clear hq hr lq lr h3 hlo h2
  go_enter Tryd.func60, Tryd.ntmps60
  go_wp2
  go_quiet (fail)
  go_wp2
  go_ret2
  exact ⟨by rw [← HQR.out.1, ← HQR.out.2]; rfl, _, rfl⟩

/-- Two words by one: the quotient and what is left. -/
theorem div_any (hi lo y : Nat) (w : World) (h2 : hi < y) (h3 : y < 18446744073709551616) (hlo : lo < 18446744073709551616) :
   Calls Tryd.prog 60 #[.int .u64 (hi : Int), .int .u64 (lo : Int), .int .u64 (y : Int)] w fun e w' =>
    e = .returned (.tuple #[.int .u64 ((hi * 18446744073709551616 + lo) / y : Nat), .int .u64 ((hi * 18446744073709551616 + lo) % y : Nat)]) ∧ ∃ n, w' = w.drewN n := by
  by_cases h : hi = 0
  · subst h
    have := div_short lo y w h2 h3 hlo
    rwa [show 0 * 18446744073709551616 + lo = lo by omega]
  · obtain ⟨s, s1, s2, s3, HC⟩ := lz_any y (by omega) h3
    exact (div_long hi lo y s w (by omega) h2 h3 hlo s1 s2 s3 HC).mono fun e w' ⟨a, b⟩ => ⟨a, 0, b ▸ rfl⟩
end Go.Proofs.YtllaahdbngjigaaDoor
