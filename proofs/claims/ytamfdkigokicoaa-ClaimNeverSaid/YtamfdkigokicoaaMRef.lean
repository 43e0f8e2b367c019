/-
  The document's May and Pays of a policy; its file: Paid, Left, Claim. (Put together of XRMay, XRPays, XRFile, XRFileB.)
-/
import Derived.Test.YtamfdkigokicoaaPMay
import Derived.BigQuiet
import Derived.BigGuardPart
import Derived.Deep.QuietTactic
import Derived.Test.YtamfdkigokicoaaPPays
import Derived.Deep.RegionLaw
import Derived.Deep.DeepCutAuto
import Derived.Test.YtamfdkigokicoaaFClaim
import Derived.Test.YtamfdkigokicoaaAppRow
namespace Go.Proofs.Ytamfdkigokicoaa
open Go Go.RowKit
set_option linter.unusedVariables false
set_option linter.unusedSimpArgs false

def inB (n lo hi : Int) : Bool := decide (lo ≤ n) && decide (n ≤ hi)
theorem in_any (n lo hi : Int) (w : World) :
    Calls Try.prog 46 #[.int .i64 n, .int .i64 lo, .int .i64 hi] w fun e w' => e = .returned (.bool (inB n lo hi)) ∧ w' = w := by
  unfold inB
  cases h1 : decide (lo ≤ n) with
  | true =>
    go_enter Try.func46, Try.ntmps46
    go_wp2
    go_ret
    exact ⟨by rw [Bool.true_and]; rfl, rfl⟩
  | false =>
    go_enter Try.func46, Try.ntmps46
    go_wp2
    go_ret
    exact ⟨by rw [Bool.false_and]; rfl, rfl⟩

set_option maxHeartbeats 2000000 in
theorem rname06_any (s : ByteArray) (w : World) (hs : s.size ≤ maxLen) :
    Calls Try.prog 45 #[.string s] w fun e w' => e = .returned (.bool (nameB s)) ∧ w' = w := by
  obtain ⟨x, hx⟩ : ∃ x, x = nameB s := ⟨_, rfl⟩
  rw [← hx]
  have HX := Lib.hid hx
  clear hx
  obtain ⟨n, HN⟩ : ∃ n, Hid (n = s.size) := ⟨_, Lib.hid rfl⟩
  have e0 : s.size = n := HN.out.symm
  have hn : n ≤ 9223372036854775807 := by rw [HN.out]; unfold maxLen at hs; omega
  clear hs
  go_enter Try.func45, Try.ntmps45
  go_wp2
  go_loopw [3] (fun i wr => ∃ k : Nat, k ≤ n ∧ i = .int .i64 (k : Int) ∧ Hid (∀ j, j < k → chB (byt s j) = true) ∧ Hid (wr = w)) (fun i _ => n - (intOf i).toNat)
  case atStart => exact ⟨0, Nat.zero_le _, rfl, Lib.hid (fun j hj => by omega), Lib.hid rfl⟩
  case round =>
    obtain ⟨k, hk, rfl, hp, hw⟩ := hrel
    by_cases hlt : k < n
    · have l1 : (k : Int) < (n : Int) := by omega
      have HI := byt_run (P := Try.prog) 9 s k Try.underlying9 (by omega)
      have HC := Lib.hid (show chB (byt s k) = ((decide (97 ≤ byt s k) && decide (byt s k ≤ 122)) || (decide (48 ≤ byt s k) && decide (byt s k ≤ 57)) || byt s k == 45) from rfl)
      have HB := Lib.hid (fun h => name_bad (s := s) (k := k) (by omega) h)
      obtain ⟨z, hz⟩ : ∃ z, z = byt s k := ⟨_, rfl⟩
      rw [← hz] at HC HB
      rw [← hz] at HI
      have HZ := Lib.hid hz
      clear hz
      have HP := Lib.hid (show chB z = true → ∀ j, j < k + 1 → chB (byt s j) = true from fun h j hj => by
        by_cases e : j = k
        · subst e; rw [← HZ.out]; exact h
        · exact hp.out j (by omega))
      cases h1 : decide (97 ≤ z) with
      | true =>
        cases h2 : decide (z ≤ 122) with
        | true =>
          have HQ := Lib.hid (HP.out (by rw [HC.out, h1, h2]; rfl))
          clear HC HB HP HZ
          go_wp2
          go_roundw
          case rel => exact ⟨k + 1, by omega, by go_num, HQ, hw⟩
          case measure => simp [intOf]; omega
        | false =>
          cases h3 : decide (48 ≤ z) with
          | true =>
            cases h4 : decide (z ≤ 57) with
            | true =>
              have HQ := Lib.hid (HP.out (by rw [HC.out, h1, h2, h3, h4]; rfl))
              clear HC HB HP HZ
              go_wp2
              go_roundw
              case rel => exact ⟨k + 1, by omega, by go_num, HQ, hw⟩
              case measure => simp [intOf]; omega
            | false =>
              cases h5 : (z == 45) with
              | true =>
                have HQ := Lib.hid (HP.out (by rw [HC.out, h1, h2, h3, h4, h5]; rfl))
                clear HC HB HP HZ
                go_wp2
                go_roundw
                case rel => exact ⟨k + 1, by omega, by go_num, HQ, hw⟩
                case measure => simp [intOf]; omega
              | false =>
                have HR := Lib.hid (show x = false by rw [HX.out]; exact HB.out (by rw [HC.out, h1, h2, h3, h4, h5]; rfl))
                clear HC HB HP HZ
                go_wp2
                go_ret
                exact ⟨by rw [HR.out]; rfl, hw.out⟩
          | false =>
            cases h5 : (z == 45) with
            | true =>
              have HQ := Lib.hid (HP.out (by rw [HC.out, h1, h2, h3, h5]; rfl))
              clear HC HB HP HZ
              go_wp2
              go_roundw
              case rel => exact ⟨k + 1, by omega, by go_num, HQ, hw⟩
              case measure => simp [intOf]; omega
            | false =>
              have HR := Lib.hid (show x = false by rw [HX.out]; exact HB.out (by rw [HC.out, h1, h2, h3, h5]; rfl))
              clear HC HB HP HZ
              go_wp2
              go_ret
              exact ⟨by rw [HR.out]; rfl, hw.out⟩
      | false =>
        cases h3 : decide (48 ≤ z) with
        | true =>
          cases h4 : decide (z ≤ 57) with
          | true =>
            have HQ := Lib.hid (HP.out (by rw [HC.out, h1, h3, h4]; rfl))
            clear HC HB HP HZ
            go_wp2
            go_roundw
            case rel => exact ⟨k + 1, by omega, by go_num, HQ, hw⟩
            case measure => simp [intOf]; omega
          | false =>
            cases h5 : (z == 45) with
            | true =>
              have HQ := Lib.hid (HP.out (by rw [HC.out, h1, h3, h4, h5]; rfl))
              clear HC HB HP HZ
              go_wp2
              go_roundw
              case rel => exact ⟨k + 1, by omega, by go_num, HQ, hw⟩
              case measure => simp [intOf]; omega
            | false =>
              have HR := Lib.hid (show x = false by rw [HX.out]; exact HB.out (by rw [HC.out, h1, h3, h4, h5]; rfl))
              clear HC HB HP HZ
              go_wp2
              go_ret
              exact ⟨by rw [HR.out]; rfl, hw.out⟩
        | false =>
          cases h5 : (z == 45) with
          | true =>
            have HQ := Lib.hid (HP.out (by rw [HC.out, h1, h3, h5]; rfl))
            clear HC HB HP HZ
            go_wp2
            go_roundw
            case rel => exact ⟨k + 1, by omega, by go_num, HQ, hw⟩
            case measure => simp [intOf]; omega
          | false =>
            have HR := Lib.hid (show x = false by rw [HX.out]; exact HB.out (by rw [HC.out, h1, h3, h5]; rfl))
            clear HC HB HP HZ
            go_wp2
            go_ret
            exact ⟨by rw [HR.out]; rfl, hw.out⟩
    · obtain rfl : k = n := by omega
      have HR := Lib.hid (show x = (decide ((1 : Int) ≤ (k : Int)) && decide ((k : Int) ≤ 16)) by
        rw [HX.out]
        have ha : (List.range s.size).all (fun k => chB (byt s k)) = true := by
          rw [List.all_eq_true]
          intro j hj
          exact hp.out j (by have := List.mem_range.1 hj; omega)
        unfold nameB
        rw [ha, Bool.and_true, e0]
        congr 1
        · rw [decide_eq_decide]; omega
        · rw [decide_eq_decide]; omega)
      cases h1 : decide ((1 : Int) ≤ (k : Int)) with
      | true =>
        go_wp2
        go_ret
        exact ⟨by rw [HR.out, h1, Bool.true_and]; rfl, hw.out⟩
      | false =>
        go_wp2
        go_ret
        exact ⟨by rw [HR.out, h1, Bool.false_and]; rfl, hw.out⟩

theorem may_all {o : Po} (h : o.may = true) : nameB o.i = true ∧ nameB o.f = true ∧ nameB o.t = true ∧ 1 ≤ o.sum ∧ o.sum ≤ 1099511627776 ∧ 0 ≤ o.own ∧ o.own ≤ o.sum ∧ 1 ≤ o.share ∧ o.share ≤ 1000 ∧ causesB o.zs = true ∧ 0 ≤ o.first ∧ o.first ≤ 1048576 ∧ 0 ≤ o.last ∧ o.last ≤ 1048576 ∧ o.first ≤ o.last := by
  simp only [Po.may, dayB, Bool.and_eq_true, decide_eq_true_eq] at h
  obtain ⟨a1, a2, a3, a4, a5, a6, a7, a8, a9, a10, ⟨a11, a12⟩, ⟨a13, a14⟩, a15⟩ := h
  exact ⟨a1, a2, a3, a4, a5, a6, a7, a8, a9, a10, a11, a12, a13, a14, a15⟩
theorem may_of {o : Po} (h : nameB o.i = true ∧ nameB o.f = true ∧ nameB o.t = true ∧ 1 ≤ o.sum ∧ o.sum ≤ 1099511627776 ∧ 0 ≤ o.own ∧ o.own ≤ o.sum ∧ 1 ≤ o.share ∧ o.share ≤ 1000 ∧ causesB o.zs = true ∧ 0 ≤ o.first ∧ o.first ≤ 1048576 ∧ 0 ≤ o.last ∧ o.last ≤ 1048576 ∧ o.first ≤ o.last) : o.may = true := by
  simp only [Po.may, dayB, Bool.and_eq_true, decide_eq_true_eq]
  obtain ⟨a1, a2, a3, a4, a5, a6, a7, a8, a9, a10, a11, a12, a13, a14, a15⟩ := h
  exact ⟨a1, a2, a3, a4, a5, a6, a7, a8, a9, a10, ⟨a11, a12⟩, ⟨a13, a14⟩, a15⟩
theorem in_false {n lo hi : Int} (h : inB n lo hi = false) : ¬ (lo ≤ n ∧ n ≤ hi) := by
  unfold inB at h; intro ⟨h1, h2⟩; rw [decide_eq_true h1, decide_eq_true h2] at h; cases h
theorem in_true {n lo hi : Int} (h : inB n lo hi = true) : lo ≤ n ∧ n ≤ hi := by
  simpa [inB] using h

set_option maxRecDepth 100000 in
set_option maxHeartbeats 16000000 in
theorem rmay_any (i f t : ByteArray) (sum own : Int) (ao : Option Addr) (n cap : Nat) (zs : List Int) (first last share : Int) (w : World) (h : Ints w (.slice ao n cap) zs) (hn : n = zs.length) (s1 : i.size ≤ maxLen) (s2 : f.size ≤ maxLen) (s3 : t.size ≤ maxLen) (hn70 : n ≤ 1000) :
    Calls Try.prog 23 #[.agg #[.string i, .string f, .string t, .int .i64 sum, .int .i64 own, .slice ao n cap, .int .i64 first, .int .i64 last, .int .i64 share]] w fun e w' => e = .returned (.bool (Po.mk i f t sum own (.slice ao n cap) zs first last share).may) ∧ Below w.heap.size w w' := by
  obtain ⟨x, hx⟩ : ∃ x, x = (Po.mk i f t sum own (.slice ao n cap) zs first last share).may := ⟨_, rfl⟩
  rw [← hx]
  have HF := Lib.hid (show ¬ (nameB i = true ∧ nameB f = true ∧ nameB t = true ∧ 1 ≤ sum ∧ sum ≤ 1099511627776 ∧ 0 ≤ own ∧ own ≤ sum ∧ 1 ≤ share ∧ share ≤ 1000 ∧ causesB zs = true ∧ 0 ≤ first ∧ first ≤ 1048576 ∧ 0 ≤ last ∧ last ≤ 1048576 ∧ first ≤ last) → x = false from fun hf => by
    rw [hx, Bool.eq_false_iff]; exact fun hm => hf (may_all hm))
  have HT := Lib.hid (show (nameB i = true ∧ nameB f = true ∧ nameB t = true ∧ 1 ≤ sum ∧ sum ≤ 1099511627776 ∧ 0 ≤ own ∧ own ≤ sum ∧ 1 ≤ share ∧ share ≤ 1000 ∧ causesB zs = true ∧ 0 ≤ first ∧ first ≤ 1048576 ∧ 0 ≤ last ∧ last ≤ 1048576 ∧ first ≤ last) → x = true from fun hf => by
    rw [hx]; exact may_of hf)
  have HN1 := Lib.hid (fun w => rname06_any i w s1)
  have HN2 := Lib.hid (fun w => rname06_any f w s2)
  have HN3 := Lib.hid (fun w => rname06_any t w s3)
  have HIn := Lib.hid (fun a b c w => in_any a b c w)
  have HB := Lib.hid ((Below.refl w.heap.size w).alloc (Nat.le_refl _) (.cells #[.string i, .string f, .string t, .int .i64 sum, .int .i64 own, .slice ao n cap, .int .i64 first, .int .i64 last, .int .i64 share] 32))
  have HZ := Lib.hid (h.below HB.out)
  have HN := Lib.hid hn
  clear hx h hn s1 s2 s3
  cases g0 : nameB i with
  | false =>
    have HR := Lib.hid (HF.out (by rw [g0]; simp))
    go_enter Try.func23, Try.ntmps23
    go_wp2_with fail
    refine (HN1.out _).mono ?_
    rintro e w1 ⟨rfl, rfl⟩
    try rw [g0]
    go_wp2
    go_ret
    exact ⟨by rw [HR.out]; rfl, HB.out⟩
  | true =>
    cases g1 : nameB f with
    | false =>
      have HR := Lib.hid (HF.out (by rw [g1]; simp))
      go_enter Try.func23, Try.ntmps23
      go_wp2_with fail
      refine (HN1.out _).mono ?_
      rintro e w1 ⟨rfl, rfl⟩
      try rw [g0]
      go_wp2_with fail
      refine (HN2.out _).mono ?_
      rintro e w1 ⟨rfl, rfl⟩
      try rw [g1]
      go_wp2
      go_ret
      exact ⟨by rw [HR.out]; rfl, HB.out⟩
    | true =>
      cases g2 : nameB t with
      | false =>
        have HR := Lib.hid (HF.out (by rw [g2]; simp))
        go_enter Try.func23, Try.ntmps23
        go_wp2_with fail
        refine (HN1.out _).mono ?_
        rintro e w1 ⟨rfl, rfl⟩
        try rw [g0]
        go_wp2_with fail
        refine (HN2.out _).mono ?_
        rintro e w1 ⟨rfl, rfl⟩
        try rw [g1]
        go_wp2_with fail
        refine (HN3.out _).mono ?_
        rintro e w1 ⟨rfl, rfl⟩
        try rw [g2]
        go_wp2
        go_ret
        exact ⟨by rw [HR.out]; rfl, HB.out⟩
      | true =>
        by_cases g3 : sum < 1
        · have dg3 : decide (sum < 1) = true := by rw [decide_eq_true_iff]; omega
          have HR := Lib.hid (HF.out (by omega))
          go_enter Try.func23, Try.ntmps23
          go_wp2_with fail
          refine (HN1.out _).mono ?_
          rintro e w1 ⟨rfl, rfl⟩
          try rw [g0]
          go_wp2_with fail
          refine (HN2.out _).mono ?_
          rintro e w1 ⟨rfl, rfl⟩
          try rw [g1]
          go_wp2_with fail
          refine (HN3.out _).mono ?_
          rintro e w1 ⟨rfl, rfl⟩
          try rw [g2]
          go_wp2
          go_ret
          exact ⟨by rw [HR.out]; rfl, HB.out⟩
        · have dg3 : decide (sum < 1) = false := by rw [decide_eq_false_iff_not]; omega
          by_cases g4 : 1099511627776 < sum
          · have dg4 : decide (1099511627776 < sum) = true := by rw [decide_eq_true_iff]; omega
            have HR := Lib.hid (HF.out (by omega))
            go_enter Try.func23, Try.ntmps23
            go_wp2_with fail
            refine (HN1.out _).mono ?_
            rintro e w1 ⟨rfl, rfl⟩
            try rw [g0]
            go_wp2_with fail
            refine (HN2.out _).mono ?_
            rintro e w1 ⟨rfl, rfl⟩
            try rw [g1]
            go_wp2_with fail
            refine (HN3.out _).mono ?_
            rintro e w1 ⟨rfl, rfl⟩
            try rw [g2]
            go_wp2
            go_ret
            exact ⟨by rw [HR.out]; rfl, HB.out⟩
          · have dg4 : decide (1099511627776 < sum) = false := by rw [decide_eq_false_iff_not]; omega
            by_cases g5 : own < 0
            · have dg5 : decide (own < 0) = true := by rw [decide_eq_true_iff]; omega
              have HR := Lib.hid (HF.out (by omega))
              go_enter Try.func23, Try.ntmps23
              go_wp2_with fail
              refine (HN1.out _).mono ?_
              rintro e w1 ⟨rfl, rfl⟩
              try rw [g0]
              go_wp2_with fail
              refine (HN2.out _).mono ?_
              rintro e w1 ⟨rfl, rfl⟩
              try rw [g1]
              go_wp2_with fail
              refine (HN3.out _).mono ?_
              rintro e w1 ⟨rfl, rfl⟩
              try rw [g2]
              go_wp2
              go_ret
              exact ⟨by rw [HR.out]; rfl, HB.out⟩
            · have dg5 : decide (own < 0) = false := by rw [decide_eq_false_iff_not]; omega
              by_cases g6 : sum < own
              · have dg6 : decide (sum < own) = true := by rw [decide_eq_true_iff]; omega
                have HR := Lib.hid (HF.out (by omega))
                go_enter Try.func23, Try.ntmps23
                go_wp2_with fail
                refine (HN1.out _).mono ?_
                rintro e w1 ⟨rfl, rfl⟩
                try rw [g0]
                go_wp2_with fail
                refine (HN2.out _).mono ?_
                rintro e w1 ⟨rfl, rfl⟩
                try rw [g1]
                go_wp2_with fail
                refine (HN3.out _).mono ?_
                rintro e w1 ⟨rfl, rfl⟩
                try rw [g2]
                go_wp2
                go_ret
                exact ⟨by rw [HR.out]; rfl, HB.out⟩
              · have dg6 : decide (sum < own) = false := by rw [decide_eq_false_iff_not]; omega
                cases g7 : inB share 1 1000 with
                | false =>
                  have HR := Lib.hid (HF.out (by have := in_false g7; omega))
                  go_enter Try.func23, Try.ntmps23
                  go_wp2_with fail
                  refine (HN1.out _).mono ?_
                  rintro e w1 ⟨rfl, rfl⟩
                  try rw [g0]
                  go_wp2_with fail
                  refine (HN2.out _).mono ?_
                  rintro e w1 ⟨rfl, rfl⟩
                  try rw [g1]
                  go_wp2_with fail
                  refine (HN3.out _).mono ?_
                  rintro e w1 ⟨rfl, rfl⟩
                  try rw [g2]
                  go_wp2_with fail
                  refine (HIn.out _ _ _ _).mono ?_
                  rintro e w1 ⟨rfl, rfl⟩
                  try rw [g7]
                  go_wp2
                  go_ret
                  exact ⟨by rw [HR.out]; rfl, HB.out⟩
                | true =>
                  have Hg7 := Lib.hid (in_true g7)
                  cases g8 : inB first 0 1048576 with
                  | false =>
                    have HR := Lib.hid (HF.out (by have := in_false g8; omega))
                    go_enter Try.func23, Try.ntmps23
                    go_wp2_with fail
                    refine (HN1.out _).mono ?_
                    rintro e w1 ⟨rfl, rfl⟩
                    try rw [g0]
                    go_wp2_with fail
                    refine (HN2.out _).mono ?_
                    rintro e w1 ⟨rfl, rfl⟩
                    try rw [g1]
                    go_wp2_with fail
                    refine (HN3.out _).mono ?_
                    rintro e w1 ⟨rfl, rfl⟩
                    try rw [g2]
                    go_wp2_with fail
                    refine (HIn.out _ _ _ _).mono ?_
                    rintro e w1 ⟨rfl, rfl⟩
                    try rw [g7]
                    go_wp2_with fail
                    refine (HIn.out _ _ _ _).mono ?_
                    rintro e w1 ⟨rfl, rfl⟩
                    try rw [g8]
                    go_wp2
                    go_ret
                    exact ⟨by rw [HR.out]; rfl, HB.out⟩
                  | true =>
                    have Hg8 := Lib.hid (in_true g8)
                    cases g9 : inB last first 1048576 with
                    | false =>
                      have HR := Lib.hid (HF.out (by have := in_false g9; omega))
                      go_enter Try.func23, Try.ntmps23
                      go_wp2_with fail
                      refine (HN1.out _).mono ?_
                      rintro e w1 ⟨rfl, rfl⟩
                      try rw [g0]
                      go_wp2_with fail
                      refine (HN2.out _).mono ?_
                      rintro e w1 ⟨rfl, rfl⟩
                      try rw [g1]
                      go_wp2_with fail
                      refine (HN3.out _).mono ?_
                      rintro e w1 ⟨rfl, rfl⟩
                      try rw [g2]
                      go_wp2_with fail
                      refine (HIn.out _ _ _ _).mono ?_
                      rintro e w1 ⟨rfl, rfl⟩
                      try rw [g7]
                      go_wp2_with fail
                      refine (HIn.out _ _ _ _).mono ?_
                      rintro e w1 ⟨rfl, rfl⟩
                      try rw [g8]
                      go_wp2_with fail
                      refine (HIn.out _ _ _ _).mono ?_
                      rintro e w1 ⟨rfl, rfl⟩
                      try rw [g9]
                      go_wp2
                      go_ret
                      exact ⟨by rw [HR.out]; rfl, HB.out⟩
                    | true =>
                      have Hg9 := Lib.hid (in_true g9)
                      by_cases g10 : 64 < n
                      · have dg10 : decide ((64 : Int) < (n : Int)) = true := by rw [decide_eq_true_iff]; omega
                        have HR := Lib.hid (HF.out (fun hf => by have := ((causes_iff zs).1 hf.2.2.2.2.2.2.2.2.2.1).1; have := HN.out; omega))
                        go_enter Try.func23, Try.ntmps23
                        go_wp2_with fail
                        refine (HN1.out _).mono ?_
                        rintro e w1 ⟨rfl, rfl⟩
                        try rw [g0]
                        go_wp2_with fail
                        refine (HN2.out _).mono ?_
                        rintro e w1 ⟨rfl, rfl⟩
                        try rw [g1]
                        go_wp2_with fail
                        refine (HN3.out _).mono ?_
                        rintro e w1 ⟨rfl, rfl⟩
                        try rw [g2]
                        go_wp2_with fail
                        refine (HIn.out _ _ _ _).mono ?_
                        rintro e w1 ⟨rfl, rfl⟩
                        try rw [g7]
                        go_wp2_with fail
                        refine (HIn.out _ _ _ _).mono ?_
                        rintro e w1 ⟨rfl, rfl⟩
                        try rw [g8]
                        go_wp2_with fail
                        refine (HIn.out _ _ _ _).mono ?_
                        rintro e w1 ⟨rfl, rfl⟩
                        try rw [g9]
                        go_wp2
                        go_ret
                        exact ⟨by rw [HR.out]; rfl, HB.out⟩
                      · have dg10 : decide ((64 : Int) < (n : Int)) = false := by rw [decide_eq_false_iff_not]; omega
                        have HA := Lib.hid (show 1 ≤ sum ∧ sum ≤ 1099511627776 ∧ 0 ≤ own ∧ own ≤ sum ∧ 1 ≤ share ∧ share ≤ 1000 ∧ 0 ≤ first ∧ first ≤ 1048576 ∧ 0 ≤ last ∧ last ≤ 1048576 ∧ first ≤ last by have := Hg7.out; have := Hg8.out; have := Hg9.out; omega)
                        go_enter Try.func23, Try.ntmps23
                        go_wp2_with fail
                        refine (HN1.out _).mono ?_
                        rintro e w1 ⟨rfl, rfl⟩
                        try rw [g0]
                        go_wp2_with fail
                        refine (HN2.out _).mono ?_
                        rintro e w1 ⟨rfl, rfl⟩
                        try rw [g1]
                        go_wp2_with fail
                        refine (HN3.out _).mono ?_
                        rintro e w1 ⟨rfl, rfl⟩
                        try rw [g2]
                        go_wp2_with fail
                        refine (HIn.out _ _ _ _).mono ?_
                        rintro e w1 ⟨rfl, rfl⟩
                        try rw [g7]
                        go_wp2_with fail
                        refine (HIn.out _ _ _ _).mono ?_
                        rintro e w1 ⟨rfl, rfl⟩
                        try rw [g8]
                        go_wp2_with fail
                        refine (HIn.out _ _ _ _).mono ?_
                        rintro e w1 ⟨rfl, rfl⟩
                        try rw [g9]
                        go_wp2_with fail
                        go_loopw [3] (fun ix wr => ∃ k : Nat, k ≤ n ∧ ix = .int .i64 (k : Int) ∧ Hid (∀ j, j < k → causeAt zs j = true) ∧ Hid (∃ q, wr = (w.alloc (.cells #[.string i, .string f, .string t, .int .i64 sum, .int .i64 own, .slice ao n cap, .int .i64 first, .int .i64 last, .int .i64 share] 32)).drewN q)) (fun ix _ => n - (intOf ix).toNat)
                        case atStart => exact ⟨0, Nat.zero_le _, rfl, Lib.hid (fun j hj => by omega), Lib.hid ⟨0, rfl⟩⟩
                        case round =>
                          obtain ⟨k, hk, rfl, hp, hw⟩ := hrel
                          have c5 : wr.cell? ⟨w.heap.size, 5, none⟩ = some (.slice ao n cap) := by
                            obtain ⟨q, e⟩ := hw.out
                            have h5 : (w.alloc (.cells #[.string i, .string f, .string t, .int .i64 sum, .int .i64 own, .slice ao n cap, .int .i64 first, .int .i64 last, .int .i64 share] 32)).cell? ⟨w.heap.size, 5, none⟩ = some (.slice ao n cap) := by unfold World.cell?; rw [heap_alloc_new]; rfl
                            rw [e]; exact h5
                          have HBw := Lib.hid (show Below w.heap.size w wr by obtain ⟨q, e⟩ := hw.out; rw [e]; exact below_drewN HB.out q)
                          by_cases hlt : k < n
                          · have l1 : (k : Int) < (n : Int) := by omega
                            have l0 : (0 : Int) ≤ (k : Int) := by omega
                            have HBad := Lib.hid (show causeAt zs k = false → x = false from fun h => HF.out (fun hf => by have := causes_bad (zs := zs) (k := k) (by rw [← HN.out]; exact hlt) h; rw [hf.2.2.2.2.2.2.2.2.2.1] at this; cases this))
                            have HP := Lib.hid (show causeAt zs k = true → ∀ j, j < k + 1 → causeAt zs j = true from fun h j hj => by
                              by_cases e : j = k
                              · subst e; exact h
                              · exact hp.out j (by omega))
                            obtain ⟨bl, off, rfl, hbl, hc⟩ := HZ.out.get2 HN.out (by omega)
                            have hcw : ∀ j, j < n → wr.cell? ⟨bl, off + j, none⟩ = some (.int .i64 (zs.getD j 0)) := fun j hj => by
                              obtain ⟨q, e⟩ := hw.out
                              rw [e]; exact hc j hj
                            have c1 := hcw k hlt
                            have HQd := Lib.hid (show ∀ nq, ∃ q, wr.drewN nq = (w.alloc (.cells #[.string i, .string f, .string t, .int .i64 sum, .int .i64 own, .slice (some ⟨bl, off, none⟩) n cap, .int .i64 first, .int .i64 last, .int .i64 share] 32)).drewN q from fun nq => by obtain ⟨q, e⟩ := hw.out; exact ⟨q + nq, by rw [e, World.drewN_drewN]⟩)
                            rcases k with _ | k
                            · have HO := Lib.hid (causeAt_zero zs)
                              have HIk := Lib.hid (fun w => HIn.out (zs.getD 0 0) 0 1048576 w)
                              have HOi := Lib.hid (show causeAt zs 0 = inB (zs.getD 0 0) 0 1048576 from HO.out)
                              obtain ⟨z, hz⟩ : ∃ z, z = zs.getD 0 0 := ⟨_, rfl⟩
                              rw [← hz] at c1 HIk HOi
                              clear hz hc hcw HO
                              simp at c1
                              cases g : inB z 0 1048576 with
                              | false =>
                                rw [g] at HIk
                                have HR := Lib.hid (HBad.out (by rw [HOi.out, g]))
                                go_wp2_with fail
                                go_quiet ((go_at_call 46; exact Calls.quiet_of_same (HIk.out _)))
                                go_wp2
                                go_ret
                                exact ⟨by rw [HR.out]; rfl, below_drewN HBw.out _⟩
                              | true =>
                                rw [g] at HIk
                                have HQ := Lib.hid (HP.out (by rw [HOi.out, g]))
                                go_wp2_with fail
                                go_quiet ((go_at_call 46; exact Calls.quiet_of_same (HIk.out _)))
                                go_wp2
                                go_roundw
                                case rel => exact ⟨1, by omega, by go_num, HQ, Lib.hid (HQd.out _)⟩
                                case measure => simp [intOf]; omega
                            · have HO := Lib.hid (causeAt_succ zs k)
                              have c0 := hcw k (by omega)
                              have HIk := Lib.hid (fun w => HIn.out (zs.getD (k + 1) 0) 0 1048576 w)
                              have HOi := Lib.hid (show causeAt zs (k + 1) = (inB (zs.getD (k + 1) 0) 0 1048576 && decide (zs.getD k 0 < zs.getD (k + 1) 0)) from HO.out)
                              obtain ⟨z, hz⟩ : ∃ z, z = zs.getD (k + 1) 0 := ⟨_, rfl⟩
                              obtain ⟨y, hy⟩ : ∃ y, y = zs.getD k 0 := ⟨_, rfl⟩
                              rw [← hz] at c1 HIk HOi
                              rw [← hy] at c0 HOi
                              clear hz hy hc hcw HO
                              have l2 : (k : Int) < (n : Int) := by omega
                              have l3 : (0 : Int) ≤ (k : Int) := by omega
                              have v1 : IntKind.i64.wrap ((k : Int) + 1 - 1) = (k : Int) := by rw [Int.add_sub_cancel]; exact IntWalk.i64_in _ (by omega)
                              have v2 : IntKind.i64.wrap (k : Int) = (k : Int) := IntWalk.i64_in _ (by omega)
                              have d5 : decide ((0 : Int) < (k : Int) + 1) = true := by rw [decide_eq_true_iff]; omega
                              cases g : inB z 0 1048576 with
                              | false =>
                                rw [g] at HIk
                                have HR := Lib.hid (HBad.out (by rw [HOi.out, g]; rfl))
                                go_wp2_with fail
                                go_quiet ((go_at_call 46; exact Calls.quiet_of_same (HIk.out _)))
                                go_wp2
                                go_ret
                                exact ⟨by rw [HR.out]; rfl, below_drewN HBw.out _⟩
                              | true =>
                                rw [g] at HIk
                                by_cases g3 : z ≤ y
                                · have d6 : decide (z ≤ y) = true := by rw [decide_eq_true_iff]; exact g3
                                  have HR := Lib.hid (HBad.out (by rw [HOi.out, g, show decide (y < z) = false by rw [decide_eq_false_iff_not]; omega]; rfl))
                                  go_wp2_with fail
                                  go_quiet ((go_at_call 46; exact Calls.quiet_of_same (HIk.out _)))
                                  go_wp2
                                  go_ret
                                  exact ⟨by rw [HR.out]; rfl, below_drewN HBw.out _⟩
                                · have d6 : decide (z ≤ y) = false := by rw [decide_eq_false_iff_not]; exact g3
                                  have HQ := Lib.hid (HP.out (by rw [HOi.out, g, show decide (y < z) = true by rw [decide_eq_true_iff]; omega]; rfl))
                                  go_wp2_with fail
                                  go_quiet ((go_at_call 46; exact Calls.quiet_of_same (HIk.out _)))
                                  go_wp2
                                  go_roundw
                                  case rel => exact ⟨k + 1 + 1, by omega, by go_num, HQ, Lib.hid (HQd.out _)⟩
                                  case measure => simp [intOf]; omega
                          · obtain rfl : k = n := by omega
                            have HR := Lib.hid (HT.out ⟨g0, g1, g2, HA.out.1, HA.out.2.1, HA.out.2.2.1, HA.out.2.2.2.1, HA.out.2.2.2.2.1, HA.out.2.2.2.2.2.1, (causes_iff zs).2 ⟨by rw [← HN.out]; omega, fun j hj => hp.out j (by rw [HN.out]; exact hj)⟩, HA.out.2.2.2.2.2.2⟩)
                            go_wp2
                            go_ret
                            exact ⟨by rw [HR.out]; rfl, HBw.out⟩


theorem rinsured_any (o : Po) (value : Int) (w : World) (h : Ints w o.cv o.zs) :
    Calls Try.prog 62 #[o.val, .int .i64 value] w fun e w' => e = .returned (.int .i64 (min value o.sum)) ∧ Below w.heap.size w w' := by
  have HB0 := Lib.hid ((Below.refl w.heap.size w).alloc (Nat.le_refl _) (.cells (Po.cells o).toArray 32))
  obtain ⟨i, f, t, sum, own, ao, n, cap, first, last, share, e, hn, _⟩ := Po.apart h
  generalize o.zs = zs at *
  subst e
  unfold Po.val
  unfold Po.cells at HB0 ⊢
  dsimp only
  clear hn h
  by_cases g : value < sum
  · have d1 : decide (value < sum) = true := by rw [decide_eq_true_iff]; exact g
    have HR := Lib.hid (show min value sum = value by omega)
    rw [HR.out]
    go_enter Try.func62, Try.ntmps62
    go_wp2
    go_ret
    exact ⟨rfl, HB0.out⟩
  · have d1 : decide (value < sum) = false := by rw [decide_eq_false_iff_not]; exact g
    have HR := Lib.hid (show min value sum = sum by omega)
    rw [HR.out]
    go_enter Try.func62, Try.ntmps62
    go_wp2
    go_ret
    exact ⟨rfl, HB0.out⟩

theorem sc_bound {c q r H j a b : Nat} (h : c * q + r = H * 2 ^ j) (hH : H * 1048576 ≤ a * b) (hj : j ≤ 20) (hb : b ≤ c) (hc : 0 < c) : q ≤ a := by
  have h1 : H * 2 ^ j ≤ H * 2 ^ 20 := Nat.mul_le_mul_left _ (Nat.pow_le_pow_right (by omega) hj)
  have h2 : H * 2 ^ 20 ≤ a * b := hH
  have h3 : a * b ≤ a * c := Nat.mul_le_mul_left _ hb
  have h4 : c * q ≤ c * a := by rw [Nat.mul_comm c a]; omega
  exact Nat.le_of_mul_le_mul_left h4 hc

set_option maxRecDepth 100000 in
set_option maxHeartbeats 4000000 in
theorem scaled_any (a b c : Nat) (w : World) (ha : a ≤ 1099511627776) (hb : b ≤ c) (hc0 : 1 ≤ c) (hc : c ≤ 1099511627776) :
    Calls Try.prog 61 #[.int .i64 (a : Int), .int .i64 (b : Int), .int .i64 (c : Int)] w fun e w' => e = .returned (.int .i64 ((a * b / c : Nat) : Int)) ∧ Below w.heap.size w w' := by
  obtain ⟨bh, hbh⟩ : ∃ x, x = b / 1048576 := ⟨_, rfl⟩
  obtain ⟨bl, hbl⟩ : ∃ x, x = b % 1048576 := ⟨_, rfl⟩
  obtain ⟨H, hH⟩ : ∃ x, x = a * bh := ⟨_, rfl⟩
  obtain ⟨L, hL⟩ : ∃ x, x = a * bl := ⟨_, rfl⟩
  obtain ⟨Q, hQ⟩ : ∃ x, x = a * b / c := ⟨_, rfl⟩
  have hsp : H * 1048576 + L = a * b := by rw [hH, hL, hbh, hbl]; exact scaled_parts a b
  have hHb : H ≤ 1152921504606846976 := by
    rw [hH]
    calc a * bh ≤ 1099511627776 * 1048576 := Nat.mul_le_mul ha (by omega)
      _ = 1152921504606846976 := by decide
  have hLb : L ≤ 1152921504606846976 := by
    rw [hL]
    calc a * bl ≤ 1099511627776 * 1048576 := Nat.mul_le_mul ha (by omega)
      _ = 1152921504606846976 := by decide
  obtain ⟨q0, hq0⟩ : ∃ x, x = H / c := ⟨_, rfl⟩
  obtain ⟨r0, hr0⟩ : ∃ x, x = H % c := ⟨_, rfl⟩
  obtain ⟨ql, hql⟩ : ∃ x, x = L / c := ⟨_, rfl⟩
  obtain ⟨rl, hrl⟩ : ∃ x, x = L % c := ⟨_, rfl⟩
  have hq0b : q0 ≤ H := by rw [hq0]; exact Nat.div_le_self _ _
  have hqlb : ql ≤ L := by rw [hql]; exact Nat.div_le_self _ _
  have hr0b : r0 < c := by rw [hr0]; exact Nat.mod_lt _ (by omega)
  have hrlb : rl < c := by rw [hrl]; exact Nat.mod_lt _ (by omega)
  have c0 : (0 : Int) < (c : Int) := by omega
  have A0 : (a : Int) * (bh : Int) = (H : Int) := by rw [hH, Int.natCast_mul]
  have A1 : (a : Int) * (bl : Int) = (L : Int) := by rw [hL, Int.natCast_mul]
  have A2 : IntKind.i64.wrap (H : Int) = (H : Int) := IntWalk.i64_in _ (by omega)
  have A3 : IntKind.i64.wrap (L : Int) = (L : Int) := IntWalk.i64_in _ (by omega)
  have B0 : (b : Int) / 2 ^ 20 = (bh : Int) := by rw [hbh, Int.natCast_ediv]; rfl
  have B1 : (b : Int) / 1048576 = (bh : Int) := by rw [hbh, Int.natCast_ediv]; rfl
  have B2 : (b : Int) % 1048576 = (bl : Int) := by rw [hbl, Int.natCast_emod]; rfl
  have B3 : (b : Int).tmod 1048576 = (bl : Int) := by rw [show (1048576 : Int) = ((1048576 : Nat) : Int) from rfl, ← Int.ofNat_tmod, ← hbl]
  have B4 : IntKind.i64.wrap (bl : Int) = (bl : Int) := IntWalk.i64_in _ (by omega)
  have B5 : IntKind.i64.wrap (bh : Int) = (bh : Int) := IntWalk.i64_in _ (by omega)
  have G1 : (H : Int) / (c : Int) = (q0 : Int) := by rw [← Int.natCast_ediv, ← hq0]
  have G2 : (H : Int) % (c : Int) = (r0 : Int) := by rw [← Int.natCast_emod, ← hr0]
  have G3 : (H : Int).tdiv (c : Int) = (q0 : Int) := by rw [← Int.ofNat_tdiv, ← hq0]
  have G4 : (H : Int).tmod (c : Int) = (r0 : Int) := by rw [← Int.ofNat_tmod, ← hr0]
  have G5 : IntKind.i64.wrap (q0 : Int) = (q0 : Int) := IntWalk.i64_in _ (by omega)
  have G6 : IntKind.i64.wrap (r0 : Int) = (r0 : Int) := IntWalk.i64_in _ (by omega)
  have K1 : (L : Int) / (c : Int) = (ql : Int) := by rw [← Int.natCast_ediv, ← hql]
  have K2 : (L : Int) % (c : Int) = (rl : Int) := by rw [← Int.natCast_emod, ← hrl]
  have K3 : (L : Int).tdiv (c : Int) = (ql : Int) := by rw [← Int.ofNat_tdiv, ← hql]
  have K4 : (L : Int).tmod (c : Int) = (rl : Int) := by rw [← Int.ofNat_tmod, ← hrl]
  have K5 : IntKind.i64.wrap (ql : Int) = (ql : Int) := IntWalk.i64_in _ (by omega)
  have K6 : IntKind.i64.wrap (rl : Int) = (rl : Int) := IntWalk.i64_in _ (by omega)
  have HBd := Lib.hid (fun (q r j : Nat) (h : c * q + r = H * 2 ^ j) (hj : j ≤ 20) => sc_bound (a := a) (b := b) h (by omega) hj hb (by omega))
  have HSt := Lib.hid (fun (q r j : Nat) (h : c * q + r = H * 2 ^ j) (hr : r < c) => scaled_step h hr)
  have HEn := Lib.hid (fun (q r : Nat) (hr : r < c) (h : c * q + r + L = a * b) => scaled_end (c := c) (q := q) (r := r) (low := L) (x := a * b) (by omega) hr h)
  have HSt0 := Lib.hid (show c * q0 + r0 = H * 2 ^ 0 by rw [hq0, hr0, Nat.pow_zero, Nat.mul_one]; exact Nat.div_add_mod H c)
  rw [← hql, ← hrl, ← hQ] at HEn
  rw [← hQ]
  have HSum := Lib.hid hsp
  have HR0 := Lib.hid hr0b
  have HRl := Lib.hid hrlb
  have HCc := Lib.hid hc
  have HAa := Lib.hid ha
  have HQl := Lib.hid (show ql ≤ 1152921504606846976 by omega)
  clear ha hb hc0 hc hbh hbl hH hL hQ hsp hHb hLb hq0 hr0 hql hrl hq0b hqlb hr0b hrlb
  go_enter Try.func61, Try.ntmps61
  go_wp2_with fail
  go_quiet (fail)
  go_wp2_with fail
  clear A0 A1 A2 A3 B0 B1 B2 B3 B4 B5 G1 G2 G3 G4 G5 G6
  go_loopw [9, 10, 11] (fun vq vr vi wr => ∃ (j q r : Nat), vi = .int .i64 (j : Int) ∧ vq = .int .i64 (q : Int) ∧ vr = .int .i64 (r : Int) ∧ j ≤ 20 ∧ Hid (c * q + r = H * 2 ^ j) ∧ Hid (r < c) ∧ Hid (∃ x, wr = w.drewN x)) (fun _ _ vi _ => 20 - (intOf vi).toNat)
  case atStart => exact ⟨0, q0, r0, rfl, rfl, rfl, by omega, HSt0, HR0, Lib.hid ⟨_, rfl⟩⟩
  case round =>
    obtain ⟨j, q, r, rfl, rfl, rfl, hj, hq, hr, hw⟩ := hrel
    have HBw := Lib.hid (show Below w.heap.size w wr by obtain ⟨x, e⟩ := hw.out; rw [e]; exact below_drewN (Below.refl _ _) x)
    have hqa := HBd.out q r j hq.out hj
    have hcc := HCc.out
    have haa := HAa.out
    have hrc := hr.out
    by_cases hlt : j < 20
    · have l1 : (j : Int) < 20 := by omega
      have d0 : decide ((j : Int) < 20) = true := by rw [decide_eq_true_iff]; exact l1
      obtain ⟨q2, hq2⟩ : ∃ x, x = 2 * q := ⟨_, rfl⟩
      obtain ⟨r2, hr2⟩ : ∃ x, x = 2 * r := ⟨_, rfl⟩
      have E1 : IntKind.i64.wrap ((q : Int) * 2) = (q2 : Int) := by rw [show (q : Int) * 2 = (q2 : Int) by omega]; exact IntWalk.i64_in _ (by omega)
      have E2 : IntKind.i64.wrap ((r : Int) * 2) = (r2 : Int) := by rw [show (r : Int) * 2 = (r2 : Int) by omega]; exact IntWalk.i64_in _ (by omega)
      have hst := HSt.out q r j hq.out hrc
      rw [← hq2, ← hr2, show 2 * (H * 2 ^ j) = H * 2 ^ (j + 1) by rw [Nat.pow_succ, Nat.mul_comm (2 ^ j) 2, Nat.mul_left_comm]] at hst
      by_cases g : c ≤ r2
      · have d1 : decide (c ≤ r2) = true := by rw [decide_eq_true_iff]; exact g
        obtain ⟨r3, hr3⟩ : ∃ x, x = r2 - c := ⟨_, rfl⟩
        have E3 : IntKind.i64.wrap ((r2 : Int) - (c : Int)) = (r3 : Int) := by rw [show (r2 : Int) - (c : Int) = (r3 : Int) by omega]; exact IntWalk.i64_in _ (by omega)
        have E4 : IntKind.i64.wrap ((q2 : Int) + 1) = (q2 : Int) + 1 := IntWalk.i64_in _ (by omega)
        have HN1 := Lib.hid (show c * (q2 + 1) + r3 = H * 2 ^ (j + 1) by rw [hr3]; exact (hst.1 g).1)
        have HN2 := Lib.hid (show r3 < c by rw [hr3]; exact (hst.1 g).2)
        clear hst hr3 hq2 hr2 hqa hcc haa hrc
        go_wp2
        go_roundw
        case rel => exact ⟨j + 1, q2 + 1, r3, by go_num, by go_num, rfl, by omega, HN1, HN2, hw⟩
        case measure => simp [intOf]; omega
      · have d1 : decide (c ≤ r2) = false := by rw [decide_eq_false_iff_not]; exact g
        have HN1 := Lib.hid (show c * q2 + r2 = H * 2 ^ (j + 1) from hst.2 (by omega))
        have HN2 := Lib.hid (show r2 < c by omega)
        clear hst hq2 hr2 hqa hcc haa hrc
        go_wp2
        go_roundw
        case rel => exact ⟨j + 1, q2, r2, by go_num, rfl, rfl, by omega, HN1, HN2, hw⟩
        case measure => simp [intOf]; omega
    · obtain rfl : j = 20 := by omega
      have d0 : decide (((20 : Nat) : Int) < 20) = false := by decide
      have hen := HEn.out q r hrc (by have h1 := hq.out; have h2 := HSum.out; have h3 : H * 2 ^ 20 = H * 1048576 := rfl; omega)
      have hrlb := HRl.out
      have hqlb := HQl.out
      have E1 : IntKind.i64.wrap ((q : Int) + (ql : Int)) = ((q + ql : Nat) : Int) := by rw [← Int.natCast_add]; exact IntWalk.i64_in _ (by omega)
      have E2 : IntKind.i64.wrap ((r : Int) + (rl : Int)) = ((r + rl : Nat) : Int) := by rw [← Int.natCast_add]; exact IntWalk.i64_in _ (by omega)
      have E0 : IntKind.i64.wrap (((q + ql : Nat) : Int) + 1) = ((q + ql : Nat) : Int) + 1 := IntWalk.i64_in _ (by omega)
      obtain ⟨qq, hqq⟩ : ∃ x, x = q + ql := ⟨_, rfl⟩
      obtain ⟨rr, hrr⟩ : ∃ x, x = r + rl := ⟨_, rfl⟩
      rw [← hqq] at E1 E0 hen
      rw [← hrr] at E2 hen
      by_cases g : c ≤ rr
      · have d1 : decide (c ≤ rr) = true := by rw [decide_eq_true_iff]; exact g
        have HE := Lib.hid (hen.1 g)
        clear hen hqq hrr hqa hcc haa hrc hrlb hqlb
        go_wp2
        go_ret
        exact ⟨by rw [← HE.out]; first | rfl | simp, HBw.out⟩
      · have d1 : decide (c ≤ rr) = false := by rw [decide_eq_false_iff_not]; exact g
        have HE := Lib.hid (hen.2 (by omega))
        clear hen hqq hrr hqa hcc haa hrc hrlb hqlb
        go_wp2
        go_ret
        exact ⟨by rw [← HE.out]; rfl, HBw.out⟩

set_option maxRecDepth 100000 in
set_option maxHeartbeats 8000000 in
theorem rpays_any (o : Po) (loss value : Nat) (w : World) (h : Ints w o.cv o.zs) (hm : o.may = true) (h1 : 1 ≤ value) (h2 : value ≤ 1099511627776) (h3 : loss ≤ 1099511627776) :
    Calls Try.prog 40 #[o.val, .int .i64 (loss : Int), .int .i64 (value : Int)] w fun e w' => e = .returned (.int .i64 (o.paysN loss value : Int)) ∧ Below w.heap.size w w' := by
  have hb := may_nums hm
  have HB0 := Lib.hid ((Below.refl w.heap.size w).alloc (Nat.le_refl _) (.cells (Po.cells o).toArray 32))
  have HI := Lib.hid (rinsured_any o value _ (h.below (HB0.out.drew)))
  have e0 : min (value : Int) o.sum = ((min value o.sum.toNat : Nat) : Int) := by omega
  rw [e0] at HI
  obtain ⟨ins, hins⟩ : ∃ x, x = min value o.sum.toNat := ⟨_, rfl⟩
  rw [← hins] at HI
  obtain ⟨ml, hml⟩ : ∃ x, x = min loss value := ⟨_, rfl⟩
  have h4 : ml * ins / value ≤ ml := Nat.div_le_of_le_mul (by rw [Nat.mul_comm value]; exact Nat.mul_le_mul_left _ (by omega))
  have HS := Lib.hid (fun w => scaled_any ml ins value w (by omega) (by omega) h1 h2)
  obtain ⟨part, hpart⟩ : ∃ x, x = ml * ins / value := ⟨_, rfl⟩
  rw [← hpart] at HS h4
  obtain ⟨mx, hmx⟩ : ∃ x, x = part - o.own.toNat := ⟨_, rfl⟩
  obtain ⟨pr, hpr⟩ : ∃ x, x = mx * o.share.toNat := ⟨_, rfl⟩
  have h5 : pr ≤ 1099511627776000 := by rw [hpr]; exact Nat.mul_le_mul (show mx ≤ 1099511627776 by omega) (show o.share.toNat ≤ 1000 by omega)
  have hN : o.paysN loss value = pr / 1000 := by rw [hpr, hmx, hpart, hml, hins]; rfl
  obtain ⟨N, hNN⟩ : ∃ N, N = o.paysN loss value := ⟨_, rfl⟩
  rw [← hNN] at hN ⊢
  have e2 : ((o.share.toNat : Nat) : Int) = o.share := by omega
  have e3 : ((o.own.toNat : Nat) : Int) = o.own := by omega
  have P0 : (mx : Int) * o.share = (pr : Int) := by rw [hpr, Int.natCast_mul, e2]
  have P1 : IntKind.i64.wrap (pr : Int) = (pr : Int) := IntWalk.i64_in _ (by omega)
  have P2 : (pr : Int) / 1000 = (N : Int) := by rw [hN, Int.natCast_ediv]; rfl
  have P3 : (pr : Int).tdiv 1000 = (N : Int) := by rw [show (1000 : Int) = ((1000 : Nat) : Int) from rfl, ← Int.ofNat_tdiv, ← hN]
  have P4 : IntKind.i64.wrap (N : Int) = (N : Int) := IntWalk.i64_in _ (by omega)
  have e4 : IntKind.i64.wrap ((part : Int) - o.own) = (part : Int) - o.own := IntWalk.i64_in _ (by omega)
  obtain ⟨own', ho⟩ : ∃ x, x = o.own := ⟨_, rfl⟩
  have HM := Lib.hid (show (own' ≤ (part : Int) → (part : Int) - own' = (mx : Int)) ∧ ((part : Int) < own' → N = 0) by
    refine ⟨fun g => by rw [ho] at g ⊢; omega, fun g => ?_⟩
    have : mx = 0 := by rw [ho] at g; omega
    rw [hN, hpr, this, Nat.zero_mul])
  have hlv : (loss : Int) > (value : Int) → ml = value := fun g => by omega
  have hlv2 : ¬ (loss : Int) > (value : Int) → ml = loss := fun g => by omega
  have HLV := Lib.hid (And.intro hlv hlv2)
  rw [← ho] at e4
  obtain ⟨i, f, t, sum, own, ao, n, cap, first, last, share, e, hn, _⟩ := Po.apart h
  generalize o.zs = zs at *
  subst e
  dsimp only at ho P0
  subst ho
  unfold Po.val at HI ⊢
  unfold Po.cells at HI HB0 ⊢
  dsimp only at HI HB0
  have c4 : (w.alloc (.cells #[.string i, .string f, .string t, .int .i64 sum, .int .i64 own', .slice ao n cap, .int .i64 first, .int .i64 last, .int .i64 share] 32)).cell? ⟨w.heap.size, 4, none⟩ = some (.int .i64 own') := by unfold World.cell?; rw [heap_alloc_new]; rfl
  have c8 : (w.alloc (.cells #[.string i, .string f, .string t, .int .i64 sum, .int .i64 own', .slice ao n cap, .int .i64 first, .int .i64 last, .int .i64 share] 32)).cell? ⟨w.heap.size, 8, none⟩ = some (.int .i64 share) := by unfold World.cell?; rw [heap_alloc_new]; rfl
  clear hn h hm h1 h2 h3 h4 h5 e0 e2 e3 hb hins hml hpart hmx hpr hN hNN hlv hlv2
  by_cases g : value < loss
  · have d1 : decide (value < loss) = true := by rw [decide_eq_true_iff]; exact g
    obtain rfl : ml = value := HLV.out.1 (by omega)
    clear g HLV
    go_enter Try.func40, Try.ntmps40
    go_upto_region 3 with fail
    go_cut [7] from 12 to 20 (fun x wx => x = .int .i64 ((part : Int) - own') ∧ Hid (wx.cell? ⟨w.heap.size, 8, none⟩ = some (.int .i64 share) ∧ Below w.heap.size w wx))
    case first =>
      go_region_with (first | (go_at_call 62; refine HI.out.mono ?_; rintro e w5 ⟨rfl, hb5⟩; have c4 := cell_later hb5 c4; have c8 := cell_later hb5 c8; have HB5 := Lib.hid (bt HB0.out.drew hb5); clear hb5) | (go_at_call 61; refine (HS.out _).mono ?_; rintro e w6 ⟨rfl, hb6⟩; have c4 := cell_later hb6 c4; have c8 := cell_later hb6 c8; have HB6 := Lib.hid (bt HB5.out hb6); clear hb6))
      all_goals
        dsimp only [Exit.then]
        apply_assumption
        go_meet
        exact ⟨rfl, Lib.hid ⟨c8, HB6.out⟩⟩
    case rest =>
      obtain ⟨rfl, hx⟩ := hcut
      obtain ⟨x8, xb⟩ := hx.out
      have HXb := Lib.hid xb
      by_cases g2 : (part : Int) < own'
      · have d2 : decide ((part : Int) - own' < 0) = true := by rw [decide_eq_true_iff]; omega
        have HR := Lib.hid (HM.out.2 g2)
        clear g2 xb hx
        go_wp2
        go_ret
        exact ⟨by rw [HR.out]; rfl, HXb.out⟩
      · have hmx := HM.out.1 (by omega)
        rw [hmx]
        have d2 : decide ((mx : Int) < 0) = false := by rw [decide_eq_false_iff_not]; omega
        clear g2 xb hx hmx
        go_wp2
        go_ret
        exact ⟨rfl, HXb.out⟩
  · have d1 : decide (value < loss) = false := by rw [decide_eq_false_iff_not]; exact g
    obtain rfl : ml = loss := HLV.out.2 (by omega)
    clear g HLV
    go_enter Try.func40, Try.ntmps40
    go_upto_region 3 with fail
    go_cut [7] from 12 to 20 (fun x wx => x = .int .i64 ((part : Int) - own') ∧ Hid (wx.cell? ⟨w.heap.size, 8, none⟩ = some (.int .i64 share) ∧ Below w.heap.size w wx))
    case first =>
      go_region_with (first | (go_at_call 62; refine HI.out.mono ?_; rintro e w5 ⟨rfl, hb5⟩; have c4 := cell_later hb5 c4; have c8 := cell_later hb5 c8; have HB5 := Lib.hid (bt HB0.out.drew hb5); clear hb5) | (go_at_call 61; refine (HS.out _).mono ?_; rintro e w6 ⟨rfl, hb6⟩; have c4 := cell_later hb6 c4; have c8 := cell_later hb6 c8; have HB6 := Lib.hid (bt HB5.out hb6); clear hb6))
      all_goals
        dsimp only [Exit.then]
        apply_assumption
        go_meet
        exact ⟨rfl, Lib.hid ⟨c8, HB6.out⟩⟩
    case rest =>
      obtain ⟨rfl, hx⟩ := hcut
      obtain ⟨x8, xb⟩ := hx.out
      have HXb := Lib.hid xb
      by_cases g2 : (part : Int) < own'
      · have d2 : decide ((part : Int) - own' < 0) = true := by rw [decide_eq_true_iff]; omega
        have HR := Lib.hid (HM.out.2 g2)
        clear g2 xb hx
        go_wp2
        go_ret
        exact ⟨by rw [HR.out]; rfl, HXb.out⟩
      · have hmx := HM.out.1 (by omega)
        rw [hmx]
        have d2 : decide ((mx : Int) < 0) = false := by rw [decide_eq_false_iff_not]; omega
        clear g2 xb hx hmx
        go_wp2
        go_ret
        exact ⟨rfl, HXb.out⟩


/-- A file as the document holds it. -/
structure RF (w : World) (ao : Option Addr) (n cap : Nat) (f : Fi) : Prop where
  row : Pms w (.slice ao n cap) f.L
  hn : n = f.L.length
  ok : FileOk f
  len : f.L.length ≤ 100
  v0 : 1 ≤ f.value
  lt : ∀ a, ao = some a → a.block < w.heap.size
theorem RF.below {w w' : World} {ao : Option Addr} {n cap : Nat} {f : Fi} (h : RF w ao n cap f) (hb : Below w.heap.size w w') : RF w' ao n cap f := ⟨Row.below h.row hb, h.hn, h.ok, h.len, h.v0, fun a e => Nat.lt_of_lt_of_le (h.lt a e) hb.size⟩
def Fi.arr (f : Fi) (ao : Option Addr) (n cap : Nat) : Array Value := #[.int .i64 f.loss, .int .i64 f.value, .slice ao n cap, .int .i64 f.own]

set_option maxHeartbeats 2000000 in
theorem rpaid_any (w : World) (ao : Option Addr) (n cap : Nat) (f : Fi) (h : RF w ao n cap f) :
    Calls Try.prog 21 #[.agg #[.int .i64 f.loss, .int .i64 f.value, .slice ao n cap, .int .i64 f.own]] w fun e w' => e = .returned (.int .i64 (paidF f)) ∧ Below w.heap.size w w' := by
  have hba := (Below.refl w.heap.size w).alloc (Nat.le_refl _) (.cells #[.int .i64 f.loss, .int .i64 f.value, .slice ao n cap, .int .i64 f.own] 41)
  have HP := Lib.hid (h.below hba).row
  have HB0 := Lib.hid hba
  have c2 : (w.alloc (.cells #[.int .i64 f.loss, .int .i64 f.value, .slice ao n cap, .int .i64 f.own] 41)).cell? ⟨w.heap.size, 2, none⟩ = some (.slice ao n cap) := by unfold World.cell?; rw [heap_alloc_new]; rfl
  have HN := Lib.hid h.hn
  have hn100 : n ≤ 100 := by rw [h.hn]; exact h.len
  have hok := ok_bd h.ok
  have HT := Lib.hid (fun k => isum_take (ok_p h.ok) k)
  have HS := Lib.hid (show (pL f.L).sum = paidF f from rfl)
  have HPb := Lib.hid (show paidF f ≤ 1099511627776 by omega)
  clear h hok hba
  go_enter Try.func21, Try.ntmps21
  go_wp2
  generalize w.alloc (.cells #[.int .i64 f.loss, .int .i64 f.value, .slice ao n cap, .int .i64 f.own] 41) = w1 at *
  go_loopw [3, 4] (fun s i wr => ∃ (k : Nat) (z : Int), k ≤ n ∧ i = .int .i64 (k : Int) ∧ s = .int .i64 z ∧ Hid (z = ((pL f.L).take k).sum) ∧ Hid (wr = w1)) (fun _ i _ => n - (intOf i).toNat)
  case atStart => exact ⟨0, 0, Nat.zero_le _, rfl, rfl, Lib.hid (by simp), Lib.hid rfl⟩
  case round =>
    obtain ⟨k, z, hk, rfl, rfl, hz, hw⟩ := hrel
    have hwe := hw.out
    subst hwe
    by_cases hlt : k < n
    · have l1 : (k : Int) < (n : Int) := by omega
      have l0 : (0 : Int) ≤ (k : Int) := by omega
      obtain ⟨bl, off, rfl, hbl, hc⟩ := HP.out.get HN.out (by omega)
      obtain ⟨-, c1, -⟩ := hc k hlt
      have HSt := Lib.hid (isum_step (xs := pL f.L) (k := k) (by simp [pL]; rw [← HN.out]; exact hlt))
      rw [pL_get (by rw [← HN.out]; exact hlt)] at HSt
      have ht0 := HT.out k
      have ht1 := HT.out (k + 1)
      rw [HS.out] at ht0 ht1
      have hpb := HPb.out
      generalize (f.L.getD k default).p = op at *
      rw [HSt.out] at ht1
      rw [← hz.out] at ht0 ht1
      have v1 : IntKind.i64.wrap (z + op) = z + op := IntWalk.i64_in _ (by omega)
      have HZ := Lib.hid (show z + op = ((pL f.L).take (k + 1)).sum by rw [HSt.out, hz.out])
      clear ht0 ht1 hpb hc
      go_wp2
      go_roundw
      case rel => exact ⟨k + 1, z + op, by omega, by go_num, rfl, HZ, Lib.hid (by trivial)⟩
      case measure => simp [intOf]; omega
    · obtain rfl : k = n := by omega
      have HR := Lib.hid (show z = paidF f by
        have := hz.out
        rw [List.take_of_length_le (by simp [pL]; rw [← HN.out]; exact Nat.le_refl _), HS.out] at this
        exact this)
      go_wp2
      go_ret
      exact ⟨by rw [HR.out]; rfl, HB0.out⟩

set_option maxHeartbeats 2000000 in
theorem rleft_any (w : World) (ao : Option Addr) (n cap : Nat) (f : Fi) (h : RF w ao n cap f) :
    Calls Try.prog 36 #[.agg #[.int .i64 f.loss, .int .i64 f.value, .slice ao n cap, .int .i64 f.own]] w fun e w' => e = .returned (.int .i64 (leftF f)) ∧ Below w.heap.size w w' := by
  have hba := (Below.refl w.heap.size w).alloc (Nat.le_refl _) (.cells #[.int .i64 f.loss, .int .i64 f.value, .slice ao n cap, .int .i64 f.own] 41)
  have HB0 := Lib.hid hba
  have HP := Lib.hid (rpaid_any _ ao n cap f (h.below hba.drew))
  have hx := heap_alloc_new w (.cells #[.int .i64 f.loss, .int .i64 f.value, .slice ao n cap, .int .i64 f.own] 41)
  have k0 : (w.alloc (.cells #[.int .i64 f.loss, .int .i64 f.value, .slice ao n cap, .int .i64 f.own] 41)).cell? ⟨w.heap.size, 0, none⟩ = some (.int .i64 f.loss) := by unfold World.cell?; rw [hx]; rfl
  have k3 : (w.alloc (.cells #[.int .i64 f.loss, .int .i64 f.value, .slice ao n cap, .int .i64 f.own] 41)).cell? ⟨w.heap.size, 3, none⟩ = some (.int .i64 f.own) := by unfold World.cell?; rw [hx]; rfl
  have hok := ok_bd h.ok
  have HL := Lib.hid (show leftF f = f.loss - paidF f - f.own from rfl)
  have v1 : IntKind.i64.wrap (f.loss - paidF f) = f.loss - paidF f := IntWalk.i64_in _ (by omega)
  have v2 : IntKind.i64.wrap (f.loss - paidF f - f.own) = f.loss - paidF f - f.own := IntWalk.i64_in _ (by omega)
  rw [HL.out]
  generalize paidF f = P at *
  clear h hok HL hx hba
  go_enter Try.func36, Try.ntmps36
  go_wp2
  go_region_with (go_at_call 21; refine HP.out.mono ?_; rintro e w5 ⟨rfl, hb5⟩; have c0 := cell_later hb5 k0; have c3 := cell_later hb5 k3; have HB5 := Lib.hid (bt HB0.out.drew hb5); clear hb5)
  all_goals
    go_wp2
    go_ret
    exact ⟨rfl, HB5.out⟩

theorem three_box {w w3 : World} {A B C : Array Value} {t1 t2 t3 : TypeId} (hb : Below (((w.alloc (.cells A t1)).alloc (.cells B t2)).alloc (.cells C t3)).heap.size (((w.alloc (.cells A t1)).alloc (.cells B t2)).alloc (.cells C t3)) w3) :
    (∀ j x, A[j]? = some x → w3.cell? ⟨w.heap.size, j, none⟩ = some x) ∧ (∀ j x, B[j]? = some x → w3.cell? ⟨w.heap.size + 1, j, none⟩ = some x) ∧ (∀ j x, C[j]? = some x → w3.cell? ⟨w.heap.size + 1 + 1, j, none⟩ = some x) ∧
      (∀ j, w3.frozen? ⟨w.heap.size, j, none⟩ = false) ∧ (∀ j, w3.frozen? ⟨w.heap.size + 1 + 1, j, none⟩ = false) ∧ Below w.heap.size w w3 := by
  have h1 := heap_alloc_new w (.cells A t1)
  have b0 := (Below.refl w.heap.size w).alloc (Nat.le_refl _) (.cells A t1)
  have s1 : (w.alloc (.cells A t1)).heap.size = w.heap.size + 1 := by simp
  generalize w.alloc (.cells A t1) = u1 at *
  have h2 := heap_alloc_new u1 (.cells B t2)
  have b1 := (Below.refl u1.heap.size u1).alloc (Nat.le_refl _) (.cells B t2)
  have s2 : (u1.alloc (.cells B t2)).heap.size = w.heap.size + 1 + 1 := by simp [s1]
  rw [s1] at h2
  generalize u1.alloc (.cells B t2) = u2 at *
  have h3 := heap_alloc_new u2 (.cells C t3)
  have b2 := (Below.refl u2.heap.size u2).alloc (Nat.le_refl _) (.cells C t3)
  have s3 : (u2.alloc (.cells C t3)).heap.size = w.heap.size + 1 + 1 + 1 := by simp [s2]
  rw [s2] at h3
  generalize u2.alloc (.cells C t3) = u3 at *
  have g3 := (hb.block (w.heap.size + 1 + 1) (by omega)).trans h3
  have g2 := ((hb.block (w.heap.size + 1) (by omega)).trans (b2.block (w.heap.size + 1) (by omega))).trans h2
  have g1 := (((hb.block w.heap.size (by omega)).trans (b2.block w.heap.size (by omega))).trans (b1.block w.heap.size (by omega))).trans h1
  refine ⟨fun j x hx => by simp [World.cell?, g1, hx], fun j x hx => by simp [World.cell?, g2, hx], fun j x hx => by simp [World.cell?, g3, hx], fun j => by simp [World.frozen?, g1], fun j => by simp [World.frozen?, g3], bt (bt (bt b0 b1) b2) hb⟩

/-- One's may, by the document. -/
theorem rmay_o (o : Po) (w : World) (h : Ints w o.cv o.zs) (s1 : o.i.size ≤ maxLen) (s2 : o.f.size ≤ maxLen) (s3 : o.t.size ≤ maxLen) (s4 : o.zs.length ≤ 1000) :
    Calls Try.prog 23 #[o.val] w fun e w' => e = .returned (.bool o.may) ∧ Below w.heap.size w w' := by
  obtain ⟨i, f, t, sum, own, ao, n, cap, first, last, share, e, hn, _⟩ := Po.apart h
  generalize o.zs = zs at *
  subst e
  exact rmay_any i f t sum own ao n cap zs first last share w h hn s1 s2 s3 (by omega)

/-- A policy's texts are texts, its causes few. -/
structure PoOk (w : World) (o : Po) : Prop where
  zs : Ints w o.cv o.zs
  s1 : o.i.size ≤ maxLen
  s2 : o.f.size ≤ maxLen
  s3 : o.t.size ≤ maxLen
  s4 : o.zs.length ≤ 1000
theorem PoOk.below {w w' : World} {o : Po} (h : PoOk w o) (hb : Below w.heap.size w w') : PoOk w' o := ⟨h.zs.below hb, h.s1, h.s2, h.s3, h.s4⟩

/-- What a claim answers, by the document. -/
def RClaimed (w : World) (f : Fi) (ao0 : Option Addr) (r : Fi × Int × Int) (e : Ending) (w' : World) : Prop :=
  ∃ ao n cap, e = .returned (.tuple #[.agg #[.int .i64 f.loss, .int .i64 f.value, .slice ao n cap, .int .i64 f.own], .int .i64 r.2.1, .int .i64 r.2.2]) ∧ RF w' ao n cap r.1 ∧ Below w.heap.size w w' ∧ ∀ a, ao = some a → ao0 = some a ∨ w.heap.size ≤ a.block

theorem RF.res {w w3 : World} {ao : Option Addr} {n cap b : Nat} {f : Fi} {x0 x1 x2 x3 : Value} (h : RF w ao n cap f) (hb : Below w.heap.size w w3) (hlt : w.heap.size ≤ b) :
    RF ((((w3.setCell ⟨b, 0, none⟩ x0).setCell ⟨b, 1, none⟩ x1).setCell ⟨b, 2, none⟩ x2).setCell ⟨b, 3, none⟩ x3) ao n cap f ∧ Below w.heap.size w ((((w3.setCell ⟨b, 0, none⟩ x0).setCell ⟨b, 1, none⟩ x1).setCell ⟨b, 2, none⟩ x2).setCell ⟨b, 3, none⟩ x3) := by
  have hb2 := (((hb.setCell (p := ⟨b, 0, none⟩) hlt x0).setCell (p := ⟨b, 1, none⟩) hlt x1).setCell (p := ⟨b, 2, none⟩) hlt x2).setCell (p := ⟨b, 3, none⟩) hlt x3
  exact ⟨h.below hb2, hb2⟩

set_option maxRecDepth 100000 in
set_option maxHeartbeats 4000000 in
theorem rclaim_no (w : World) (ao : Option Addr) (n cap : Nat) (f : Fi) (u : ByteArray) (o : Po) (h : RF w ao n cap f) (hp : PoOk w o) (hno : o.may = false ∨ u ≠ o.i) :
    Calls Try.prog 18 #[.agg #[.int .i64 f.loss, .int .i64 f.value, .slice ao n cap, .int .i64 f.own], .string u, o.val] w (RClaimed w f ao (f.claim u o)) := by
  have HB3 := Lib.hid ((((Below.refl w.heap.size w).alloc (Nat.le_refl _) (.cells #[.int .i64 f.loss, .int .i64 f.value, .slice ao n cap, .int .i64 f.own] 41)).alloc (by simp) (.cells (Po.cells o).toArray 32)).alloc (by simp; omega) (.cells #[.int .i64 0, .int .i64 0, .slice none 0 0, .int .i64 0] 41))
  have hp3 := hp.below HB3.out
  have HM := Lib.hid (rmay_o o _ hp3.zs hp3.s1 hp3.s2 hp3.s3 hp3.s4)
  have HTb := Lib.hid (fun w3 hb => three_box (w := w) (w3 := w3) (A := #[.int .i64 f.loss, .int .i64 f.value, .slice ao n cap, .int .i64 f.own]) (B := (Po.cells o).toArray) (C := #[.int .i64 0, .int .i64 0, .slice none 0 0, .int .i64 0]) (t1 := 41) (t2 := 32) (t3 := 41) hb)
  obtain ⟨r, hr⟩ : ∃ r, r = f.claim u o := ⟨_, rfl⟩
  rw [← hr]
  unfold Fi.claim at hr
  obtain ⟨i, fr, t, sum, own, ap, np, capp, first, last, share, e, hn, _⟩ := Po.apart hp.zs
  have hoi : o.i = i := by rw [e]
  rw [hoi] at hr hno
  rw [e] at HM HTb HB3
  unfold Po.val at HM
  rw [show o.val = .agg #[.string i, .string fr, .string t, .int .i64 sum, .int .i64 own, .slice ap np capp, .int .i64 first, .int .i64 last, .int .i64 share] by rw [e]; rfl]
  unfold Po.cells at HM HTb HB3
  dsimp only at HM HTb HB3
  rw [← e] at HM
  have HF := Lib.hid h
  have HR := Lib.hid (fun w3 (hb : Below w.heap.size w w3) x0 x1 x2 x3 => h.res (b := w.heap.size + 1 + 1) (x0 := x0) (x1 := x1) (x2 := x2) (x3 := x3) hb (by omega))
  clear hp hp3 hn e hoi h
  cases g1 : o.may with
  | false =>
    rw [if_pos g1] at hr
    rw [g1] at HM
    subst hr
    clear g1 hno
    go_enter Try.func18, Try.ntmps18
    go_wp2_with fail
    refine HM.out.mono ?_
    rintro e w3 ⟨rfl, hb⟩
    obtain ⟨kA, -, kC, fA, fC, hb3⟩ := HTb.out w3 hb
    have a0 := kA 0 _ rfl
    have a1 := kA 1 _ rfl
    have a2 := kA 2 _ rfl
    have a3 := kA 3 _ rfl
    have r0 := kC 0 _ rfl
    have r1 := kC 1 _ rfl
    have r2 := kC 2 _ rfl
    have r3 := kC 3 _ rfl
    have z0 := fC 0
    have z1 := fC 1
    have z2 := fC 2
    have z3 := fC 3
    have HBx := Lib.hid hb3
    clear kA kC fA fC hb hb3 HTb HM
    go_wp2
    obtain ⟨e1, e2⟩ := HR.out w3 HBx.out (.int .i64 f.loss) (.int .i64 f.value) (.slice ao n cap) (.int .i64 f.own)
    exact bodyPost_ret (v := .tuple #[.agg #[.int .i64 f.loss, .int .i64 f.value, .slice ao n cap, .int .i64 f.own], .int .i64 0, .int .i64 1]) (by simp [results, Try.results18, go_sem, r0, r1, r2, r3, z0, z1, z2, z3]) rfl ⟨ao, n, cap, rfl, e1, e2, fun a h => .inl h⟩
  | true =>
    have g2 : u ≠ i := by rcases hno with h | h; rw [g1] at h; cases h; exact h
    rw [if_neg (by rw [g1]; simp), if_pos g2] at hr
    have b1 : (u.toList == i.toList) = false := (Lib.bytes_beq_false_iff _ _).2 g2
    have b2 : (u.toList != i.toList) = true := by simp [bne, b1]
    rw [g1] at HM
    subst hr
    clear g1 g2 hno
    go_enter Try.func18, Try.ntmps18
    go_wp2_with fail
    refine HM.out.mono ?_
    rintro e w3 ⟨rfl, hb⟩
    obtain ⟨kA, kB, kC, fA, fC, hb3⟩ := HTb.out w3 hb
    have a0 := kA 0 _ rfl
    have a1 := kA 1 _ rfl
    have a2 := kA 2 _ rfl
    have a3 := kA 3 _ rfl
    have p0 := kB 0 _ rfl
    have r0 := kC 0 _ rfl
    have r1 := kC 1 _ rfl
    have r2 := kC 2 _ rfl
    have r3 := kC 3 _ rfl
    have z0 := fC 0
    have z1 := fC 1
    have z2 := fC 2
    have z3 := fC 3
    have HBx := Lib.hid hb3
    clear kA kB kC fA fC hb hb3 HTb HM
    go_wp2
    obtain ⟨e1, e2⟩ := HR.out w3 HBx.out (.int .i64 f.loss) (.int .i64 f.value) (.slice ao n cap) (.int .i64 f.own)
    exact bodyPost_ret (v := .tuple #[.agg #[.int .i64 f.loss, .int .i64 f.value, .slice ao n cap, .int .i64 f.own], .int .i64 0, .int .i64 8]) (by simp [results, Try.results18, go_sem, r0, r1, r2, r3, z0, z1, z2, z3]) rfl ⟨ao, n, cap, rfl, e1, e2, fun a h => .inl h⟩


theorem lit0s (W : World) (e sz n : Nat) (h : n = W.heap.size) : (W.alloc (.cells #[] e)).ownsRow 0 e sz (.slice (some ⟨n, 0, none⟩) 0 0) 0 [] := by
  subst h
  exact ⟨by simp, .inr ⟨W.heap.size, 0, #[], rfl, Nat.zero_le _, heap_alloc_new _ _, Nat.le_refl _, by unfold maxLen; omega, by simp, by simp⟩⟩
theorem Try.infoRPm : (Try.prog.info? 81).map (fun i => (i.zero, i.size, i.bytes)) = some (some (.agg #[.string ⟨#[]⟩, .int .i64 0, .int .i64 0]), 3, 32) := by kernel_rfl
theorem many_pm (l : List Pm) : ∀ u ∈ l.flatMap Pm.cells, u.oneCell' = true := by
  intro u hu
  obtain ⟨o, _, ho⟩ := List.mem_flatMap.1 hu
  exact one_pm o u ho
theorem app1 {W w8 : World} {e : TypeId} {v8 : Value} (ht : Touch (fun k => (Value.slice (some ⟨W.heap.size, 0, none⟩) 0 0).ownBlock = some k) (W.alloc (.cells #[] e)) w8)
    (hlo : ∀ k, v8.ownBlock = some k → (Value.slice (some ⟨W.heap.size, 0, none⟩) 0 0).ownBlock = some k ∨ (W.alloc (.cells #[] e)).heap.size ≤ k) :
    Below W.heap.size W w8 ∧ ∀ k, v8.ownBlock = some k → W.heap.size ≤ k := by
  have b1 := (Below.refl W.heap.size W).alloc (Nat.le_refl _) (.cells #[] e)
  refine ⟨b1.trans (ht.below b1.size (fun x hx => by cases hx; exact Nat.le_refl _)), fun k hk => ?_⟩
  rcases hlo k hk with h | h
  · cases h; exact Nat.le_refl _
  · simp at h; omega
theorem app2 {W w8 w9 : World} {e : TypeId} {us : Array Value} {v8 v9 : Value} (hb : Below W.heap.size W w8) (hv : ∀ k, v8.ownBlock = some k → W.heap.size ≤ k) (hg : (w8.alloc (.cells us e)).grownBy w9 v8.ownBlock)
    (hlo : ∀ k, v9.ownBlock = some k → v8.ownBlock = some k ∨ (w8.alloc (.cells us e)).heap.size ≤ k) :
    Below W.heap.size W w9 ∧ ∀ k, v9.ownBlock = some k → W.heap.size ≤ k := by
  have b1 := hb.alloc hb.size (.cells us e)
  refine ⟨b1.grown hg b1.size (fun x hx => hv x hx), fun k hk => ?_⟩
  rcases hlo k hk with h | h
  · exact hv k h
  · have := b1.size; omega

/-- The claim's end: payments are appended, and the file is handed back. -/
theorem RF.adds {w w9 : World} {b3 b6 : Nat} {f f' : Fi} {M : Int} {u : ByteArray} {a9 : Option Addr} {n c9 : Nat} {x2 x0' x1' x2' x3' : Value} {W : World}
    (hn : n = f.L.length) (hf : f'.L = f.L ++ [⟨u, M, 0⟩]) (ok : FileOk f') (len : f'.L.length ≤ 100) (v0 : 1 ≤ f'.value)
    (hw : Below w.heap.size w W) (hW : Below W.heap.size W w9) (ho : w9.ownsRow 0 81 3 (.slice a9 (n + 1) c9) (n + 1) (f.L.flatMap Pm.cells ++ [.string u, .int .i64 M, .int .i64 0]))
    (hv : ∀ k, (Value.slice a9 (n + 1) c9).ownBlock = some k → W.heap.size ≤ k) (h3 : w.heap.size ≤ b3) (h6 : w.heap.size ≤ b6) (l3 : b3 < W.heap.size) (l6 : b6 < W.heap.size) :
    RF (((((w9.setCell ⟨b3, 2, none⟩ x2).setCell ⟨b6, 0, none⟩ x0').setCell ⟨b6, 1, none⟩ x1').setCell ⟨b6, 2, none⟩ x2').setCell ⟨b6, 3, none⟩ x3') a9 (n + 1) c9 f' ∧
      Below w.heap.size w (((((w9.setCell ⟨b3, 2, none⟩ x2).setCell ⟨b6, 0, none⟩ x0').setCell ⟨b6, 1, none⟩ x1').setCell ⟨b6, 2, none⟩ x2').setCell ⟨b6, 3, none⟩ x3') := by
  have e1 : f'.L.length = n + 1 := by rw [hf, List.length_append, hn]; rfl
  have e2 : f'.L.flatMap Pm.cells = f.L.flatMap Pm.cells ++ [.string u, .int .i64 M, .int .i64 0] := by rw [hf, List.flatMap_append]; rfl
  refine ⟨⟨?_, e1.symm, ok, len, v0, fun a e => by have h1 := own_lt ho (k := a.block) (by rw [e]; rfl); simpa [World.setCell] using h1⟩, ?_⟩
  · unfold Pms
    rw [e1, e2]
    refine Row.of_own (ownsRow_setCell_other (ownsRow_setCell_other (ownsRow_setCell_other (ownsRow_setCell_other (ownsRow_setCell_other ho ?_ _) ?_ _) ?_ _) ?_ _) ?_ _)
    · intro e; have := hv _ e; simp at this; omega
    · intro e; have := hv _ e; simp at this; omega
    · intro e; have := hv _ e; simp at this; omega
    · intro e; have := hv _ e; simp at this; omega
    · intro e; have := hv _ e; simp at this; omega
  · exact (((((bt hw hW).setCell (p := ⟨b3, 2, none⟩) h3 _).setCell (p := ⟨b6, 0, none⟩) h6 _).setCell (p := ⟨b6, 1, none⟩) h6 _).setCell (p := ⟨b6, 2, none⟩) h6 _).setCell (p := ⟨b6, 3, none⟩) h6 _

set_option maxRecDepth 100000 in
set_option maxHeartbeats 16000000 in
theorem rclaim_yes (w : World) (ao : Option Addr) (n cap : Nat) (f : Fi) (u : ByteArray) (o : Po) (h : RF w ao n cap f) (hl : f.L.length < 100) (hp : PoOk w o) (g1 : o.may = true) (g2 : u = o.i) :
    Calls Try.prog 18 #[.agg #[.int .i64 f.loss, .int .i64 f.value, .slice ao n cap, .int .i64 f.own], .string u, o.val] w (RClaimed w f ao (f.claim u o)) := by
  have HB3 := Lib.hid ((((Below.refl w.heap.size w).alloc (Nat.le_refl _) (.cells #[.int .i64 f.loss, .int .i64 f.value, .slice ao n cap, .int .i64 f.own] 41)).alloc (by simp) (.cells (Po.cells o).toArray 32)).alloc (by simp; omega) (.cells #[.int .i64 0, .int .i64 0, .slice none 0 0, .int .i64 0] 41))
  have hp3 := hp.below HB3.out
  have HM := Lib.hid (rmay_o o _ hp3.zs hp3.s1 hp3.s2 hp3.s3 hp3.s4)
  rw [g1] at HM
  have HTb := Lib.hid (fun w3 hb => three_box (w := w) (w3 := w3) (A := #[.int .i64 f.loss, .int .i64 f.value, .slice ao n cap, .int .i64 f.own]) (B := (Po.cells o).toArray) (C := #[.int .i64 0, .int .i64 0, .slice none 0 0, .int .i64 0]) (t1 := 41) (t2 := 32) (t3 := 41) hb)
  obtain ⟨r, hr⟩ : ∃ r, r = f.claim u o := ⟨_, rfl⟩
  rw [← hr]
  unfold Fi.claim at hr
  rw [if_neg (by rw [g1]; simp), if_neg (by simpa using g2)] at hr
  have HF := Lib.hid h
  have HN := Lib.hid h.hn
  have hn100 : n < 100 := by rw [h.hn]; exact hl
  have hok := ok_bd h.ok
  have hv0 := h.v0
  have hnb := (pays_bd g1 (loss := f.loss.toNat) (value := f.value.toNat) (by omega)).1
  have HPy := Lib.hid (fun w hi => rpays_any o f.loss.toNat f.value.toNat w hi g1 (by omega) (by omega) (by omega))
  rw [show ((f.loss.toNat : Nat) : Int) = f.loss by omega, show ((f.value.toNat : Nat) : Int) = f.value by omega] at HPy
  obtain ⟨NP, hNP⟩ : ∃ N, N = o.paysN f.loss.toNat f.value.toNat := ⟨_, rfl⟩
  rw [← hNP] at hr hnb HPy
  have HPz := Lib.hid hp.zs
  obtain ⟨i, fr, t, sum, own, ap, np, capp, first, last, share, e, hnz, _⟩ := Po.apart hp.zs
  have hui : u = i := by rw [g2, e]
  have HO := Lib.hid e
  rw [e] at HTb HB3
  have hval : o.val = .agg #[.string i, .string fr, .string t, .int .i64 sum, .int .i64 own, .slice ap np capp, .int .i64 first, .int .i64 last, .int .i64 share] := by rw [e]; rfl
  have hcells : o.cells = [.string i, .string fr, .string t, .int .i64 sum, .int .i64 own, .slice ap np capp, .int .i64 first, .int .i64 last, .int .i64 share] := by rw [e]; rfl
  rw [hval, hcells] at HM
  rw [hval] at HPy
  clear hcells
  rw [hval]
  unfold Po.cells at HTb HB3
  dsimp only at HTb HB3
  have HOk2 := Lib.hid (addF_ok h.ok u (n := (NP : Int)) (by omega))
  have HLn := Lib.hid (show (addF f u (NP : Int)).L.length ≤ 100 by simp [addF]; omega)
  have HV0 := Lib.hid hv0
  have HLf := Lib.hid (fun W h => rleft_any W ao n cap f h)
  obtain ⟨M, hMm⟩ : ∃ M, M = min (NP : Int) (leftF f) := ⟨_, rfl⟩
  rw [← hMm] at hr
  have HL2 := Lib.hid (show (addF f u (NP : Int)).L = f.L ++ [⟨u, M, 0⟩] by rw [hMm]; rfl)
  have HMm := Lib.hid hMm
  generalize leftF f = LF at *
  obtain ⟨j0, hj, hj0, hj1, hj2⟩ := info_parts Try.infoRPm
  clear hp hp3 hnz g1 g2 hok hv0 hnb hNP hMm hval h hl
  subst hui
  have HRr := Lib.hid hr
  clear hr
  go_enter Try.func18, Try.ntmps18
  go_wp2_with fail
  refine HM.out.mono ?_
  rintro e' w3 ⟨rfl, hb⟩
  obtain ⟨kA, kB, kC, fA, fC, hb3⟩ := HTb.out w3 hb
  have HAll := Lib.hid (show ∀ W, Below w3.heap.size w3 W → W.cell? ⟨w.heap.size, 0, none⟩ = some (.int .i64 f.loss) ∧ W.cell? ⟨w.heap.size, 1, none⟩ = some (.int .i64 f.value) ∧ W.cell? ⟨w.heap.size, 2, none⟩ = some (.slice ao n cap) ∧ W.cell? ⟨w.heap.size, 3, none⟩ = some (.int .i64 f.own) ∧ W.frozen? ⟨w.heap.size, 2, none⟩ = false from fun W hW =>
    ⟨cell_later hW (kA 0 _ rfl), cell_later hW (kA 1 _ rfl), cell_later hW (kA 2 _ rfl), cell_later hW (kA 3 _ rfl), by rw [hW.frozen (World.block_lt_of_cell? _ _ (kA 2 _ rfl))]; exact fA 2⟩)
  have HRes := Lib.hid (show ∀ W, Below w3.heap.size w3 W → W.cell? ⟨w.heap.size + 1 + 1, 0, none⟩ = some (.int .i64 0) ∧ W.cell? ⟨w.heap.size + 1 + 1, 1, none⟩ = some (.int .i64 0) ∧ W.cell? ⟨w.heap.size + 1 + 1, 2, none⟩ = some (.slice none 0 0) ∧ W.cell? ⟨w.heap.size + 1 + 1, 3, none⟩ = some (.int .i64 0) ∧ ∀ j, W.frozen? ⟨w.heap.size + 1 + 1, j, none⟩ = false from fun W hW =>
    ⟨cell_later hW (kC 0 _ rfl), cell_later hW (kC 1 _ rfl), cell_later hW (kC 2 _ rfl), cell_later hW (kC 3 _ rfl), fun j => by rw [hW.frozen (p := ⟨w.heap.size + 1 + 1, j, none⟩) (World.block_lt_of_cell? _ _ (kC 2 _ rfl) :)]; exact fC j⟩)
  have HLt6 := Lib.hid (show w.heap.size + 1 + 1 < w3.heap.size from World.block_lt_of_cell? _ _ (kC 2 _ rfl))
  have KB := Lib.hid kB
  have p0 := kB 0 _ rfl
  have HBw := Lib.hid hb3
  have hR3 := HF.out.below hb3
  have HR3 := Lib.hid hR3
  obtain ⟨a0, a1, a2, a3, z2⟩ := HAll.out w3 (Below.refl _ _)
  clear kA kB kC fA fC hb hb3 HTb HM hR3
  go_wp2_with fail
  go_loopw [9] (fun ix wr => ∃ k : Nat, k ≤ n ∧ ix = .int .i64 (k : Int) ∧ Hid (∀ j, j < k → decide ((f.L.getD j default).t = u) = false) ∧ Hid (wr = w3)) (fun ix _ => n - (intOf ix).toNat)
  case atStart => exact ⟨0, Nat.zero_le _, rfl, Lib.hid (fun j hj => by omega), Lib.hid rfl⟩
  case round =>
    obtain ⟨k, hk, rfl, ha, hw⟩ := hrel
    have hwe := hw.out
    subst hwe
    by_cases hlt : k < n
    · have l1 : (k : Int) < (n : Int) := by omega
      have l0 : (0 : Int) ≤ (k : Int) := by omega
      obtain ⟨bl, off, rfl, hbl, hc⟩ := HR3.out.row.get HN.out (by omega)
      obtain ⟨c0, -, -⟩ := hc k hlt
      have hkl : k < f.L.length := by rw [← HN.out]; exact hlt
      have HT := Lib.hid (show decide ((f.L.getD k default).t = u) = false → ∀ j, j < k + 1 → decide ((f.L.getD j default).t = u) = false from fun h j hj => by
        by_cases e' : j = k
        · subst e'; exact h
        · exact ha.out j (by omega))
      have HFd := Lib.hid (show (f.L.getD k default).t = u → hasF f.L u = true from fun h => by
        unfold hasF
        rw [List.any_eq_true]
        rw [List.getD_eq_getElem?_getD, List.getElem?_eq_getElem hkl] at h
        exact ⟨f.L[k], List.getElem_mem hkl, by simpa using h⟩)
      generalize (f.L.getD k default).t = pt at *
      clear hc
      by_cases g : pt = u
      · have hh := HFd.out g
        have hr := HRr.out
        rw [if_pos hh] at hr
        subst g
        obtain ⟨r0, r1, r2, r3, z⟩ := HRes.out wr (Below.refl _ _)
        have z0 := z 0
        have z1 := z 1
        have z2' := z 2
        have z3 := z 3
        subst hr
        clear z HT HFd hh
        go_wp2
        obtain ⟨e1, e2⟩ := HF.out.res (b := w.heap.size + 1 + 1) (x0 := .int .i64 f.loss) (x1 := .int .i64 f.value) (x2 := .slice (some ⟨bl, off, none⟩) n cap) (x3 := .int .i64 f.own) HBw.out (by omega)
        exact bodyPost_ret (v := .tuple #[.agg #[.int .i64 f.loss, .int .i64 f.value, .slice (some ⟨bl, off, none⟩) n cap, .int .i64 f.own], .int .i64 0, .int .i64 5]) (by simp [results, Try.results18, go_sem, r0, r1, r2, r3, z0, z1, z2', z3]) rfl ⟨_, n, cap, rfl, e1, e2, fun a h => .inl h⟩
      · have b1 : (pt.toList == u.toList) = false := (Lib.bytes_beq_false_iff _ _).2 g
        have HQ := Lib.hid (HT.out (by simpa using g))
        clear HT HFd
        go_wp2
        go_roundw
        case rel => exact ⟨k + 1, by omega, by go_num, HQ, Lib.hid (by trivial)⟩
        case measure => simp [intOf]; omega
    · obtain rfl : k = n := by omega
      have hno : hasF f.L u = false := by
        rw [Bool.eq_false_iff]
        intro h
        unfold hasF at h
        rw [List.any_eq_true] at h
        obtain ⟨x, hx, he⟩ := h
        obtain ⟨j, hj', rfl⟩ := List.mem_iff_getElem.1 hx
        have := ha.out j (by have := HN.out; omega)
        rw [List.getD_eq_getElem?_getD, List.getElem?_eq_getElem hj'] at this
        dsimp only [Option.getD] at this
        rw [he] at this; cases this
      have hr := HRr.out
      rw [if_neg (by rw [hno]; simp)] at hr
      subst hr
      have p0 := KB.out 0 _ rfl
      have p1 := KB.out 1 _ rfl
      have p2 := KB.out 2 _ rfl
      have p3 := KB.out 3 _ rfl
      have p4 := KB.out 4 _ rfl
      have p5 := KB.out 5 _ rfl
      have p6 := KB.out 6 _ rfl
      have p7 := KB.out 7 _ rfl
      have p8 := KB.out 8 _ rfl
      have HPw := Lib.hid (HPy.out wr (HPz.out.below HBw.out))
      clear hno HPy
      go_wp2_with fail
      refine HPw.out.mono ?_
      rintro e' w4 ⟨rfl, hb4⟩
      clear a0 a1 a2 a3 z2 p0 p1 p2 p3 p4 p5 p6 p7 p8 KB
      obtain ⟨a0, a1, a2, a3, z2⟩ := HAll.out w4 hb4
      have HB4 := Lib.hid hb4
      have HL4 := Lib.hid (HLf.out w4 (HF.out.below (bt HBw.out hb4)))
      clear hb4 HPw
      go_wp2_with fail
      refine HL4.out.mono ?_
      rintro e' w5 ⟨rfl, hb5⟩
      clear a0 a1 a2 a3 z2
      have hb5 := bt HB4.out hb5
      obtain ⟨a0, a1, a2, a3, z2⟩ := HAll.out w5 hb5
      have HB5 := Lib.hid hb5
      have HL5 := Lib.hid (HLf.out w5 (HF.out.below (bt HBw.out hb5)))
      clear hb5 HL4
      by_cases g : LF < (NP : Int)
      · have d1 : decide (LF < (NP : Int)) = true := by rw [decide_eq_true_iff]; exact g
        obtain rfl : M = LF := by have := HMm.out; omega
        clear g
        go_wp2_with fail
        refine HL5.out.mono ?_
        rintro e' w6 ⟨rfl, hb6⟩
        clear a0 a1 a2 a3 z2
        have hb6 := bt HB5.out hb6
        obtain ⟨a0, a1, a2, a3, z2⟩ := HAll.out w6 hb6
        have HB6 := Lib.hid hb6
        clear hb6 HL5
        have hf0 := HF.out.below (bt HBw.out HB6.out)
        have HRow := Lib.hid (show Row (w6.alloc (.cells #[] 81)) (.slice ao k cap) 3 k (f.L.flatMap Pm.cells) by
          have h9 := Row.below hf0.row ((Below.refl w6.heap.size w6).alloc (Nat.le_refl _) (.cells #[] 81))
          rwa [← HN.out] at h9)
        have n2 := (HAll.out _ (bt HB6.out ((Below.refl w6.heap.size w6).alloc (Nat.le_refl _) (.cells #[] 81)))).2.2.1
        have HWs := Lib.hid HB6.out.size
        clear hf0
        go_wp2_with (at_builtin; first | (refine wpList_row rfl (.tmp 48) (.tmp 50) 39 rfl 81 j0 _ 3 32 Try.underlying39 hj hj0 hj1 hj2 rfl (by decide) _ 0 [] rfl (lit0s w6 81 3 _ rfl) _ k cap (f.L.flatMap Pm.cells) rfl HRow.out (many_pm f.L) (by unfold maxLen; omega) (by omega) ?_; intro v8 w8 hown ht hlo; rw [Nat.zero_add, List.nil_append] at hown; obtain ⟨hb8, hv8⟩ := app1 ht hlo; clear a0 a1 a2 a3 z2 n2 ht hlo; obtain ⟨a0, a1, a2, a3, z2⟩ := HAll.out w8 (bt HB6.out hb8); have HO8 := Lib.hid hown; have HB8 := Lib.hid hb8; have HV8 := Lib.hid hv8; clear hown hb8 hv8; obtain ⟨a8, c8, rfl⟩ := own_shape HO8.out) | (refine wpList_own rfl (.tmp 51) (.tmp 55) 39 rfl 81 j0 _ 3 32 Try.underlying39 hj hj0 hj1 hj2 rfl (by decide) _ k _ rfl (HO8.out.alloc _) ⟨w8.heap.size, 0, none⟩ 1 1 [.string u, .int .i64 M, .int .i64 0] rfl rfl (new_cells w8 #[.string u, .int .i64 M, .int .i64 0] _) (one_pm ⟨u, M, 0⟩) (by unfold maxLen; omega) (by omega) ?_; intro v9 w9 hown hg hlo; obtain ⟨hb9, hv9⟩ := app2 HB8.out HV8.out hg hlo; clear a0 a1 a2 a3 z2 hg hlo; obtain ⟨a0, a1, a2, a3, z2⟩ := HAll.out w9 (bt HB6.out hb9); obtain ⟨r0, r1, r2, r3, z⟩ := HRes.out w9 (bt HB6.out hb9); have y0 := z 0; have y1 := z 1; have y2 := z 2; have y3 := z 3; have HO9 := Lib.hid hown; have HB9 := Lib.hid hb9; have HV9 := Lib.hid hv9; clear hown hb9 hv9 z; obtain ⟨a9, c9, rfl⟩ := own_shape HO9.out))
        obtain ⟨e1, e2⟩ := RF.adds (w := w) (b3 := w.heap.size) (b6 := w.heap.size + 1 + 1) (x2 := .slice a9 (k + 1) c9) (x0' := .int .i64 f.loss) (x1' := .int .i64 f.value) (x2' := .slice a9 (k + 1) c9) (x3' := .int .i64 f.own) HN.out HL2.out HOk2.out HLn.out HV0.out (bt HBw.out HB6.out) HB9.out HO9.out HV9.out (Nat.le_refl _) (by omega) (by have := HLt6.out; have := HWs.out; omega) (by have := HLt6.out; have := HWs.out; omega)
        exact bodyPost_ret (v := .tuple #[.agg #[.int .i64 f.loss, .int .i64 f.value, .slice a9 (k + 1) c9, .int .i64 f.own], .int .i64 M, .int .i64 0]) (by simp [results, Try.results18, go_sem, r0, r1, r2, r3, y0, y1, y2, y3, a0, a1, a2, a3, z2]) rfl ⟨a9, k + 1, c9, rfl, e1, e2, fun a h => .inr (by have h1 := HV9.out a.block (by rw [h]; rfl); have h2 := (bt HBw.out HB6.out).size; omega)⟩
      · have d1 : decide (LF < (NP : Int)) = false := by rw [decide_eq_false_iff_not]; exact g
        obtain rfl : M = (NP : Int) := by have := HMm.out; omega
        clear g
        have hf0 := HF.out.below (bt HBw.out HB5.out)
        have HRow := Lib.hid (show Row (w5.alloc (.cells #[] 81)) (.slice ao k cap) 3 k (f.L.flatMap Pm.cells) by
          have h9 := Row.below hf0.row ((Below.refl w5.heap.size w5).alloc (Nat.le_refl _) (.cells #[] 81))
          rwa [← HN.out] at h9)
        have n2 := (HAll.out _ (bt HB5.out ((Below.refl w5.heap.size w5).alloc (Nat.le_refl _) (.cells #[] 81)))).2.2.1
        have HWs := Lib.hid HB5.out.size
        clear hf0
        go_wp2_with (at_builtin; first | (refine wpList_row rfl (.tmp 48) (.tmp 50) 39 rfl 81 j0 _ 3 32 Try.underlying39 hj hj0 hj1 hj2 rfl (by decide) _ 0 [] rfl (lit0s w5 81 3 _ rfl) _ k cap (f.L.flatMap Pm.cells) rfl HRow.out (many_pm f.L) (by unfold maxLen; omega) (by omega) ?_; intro v8 w8 hown ht hlo; rw [Nat.zero_add, List.nil_append] at hown; obtain ⟨hb8, hv8⟩ := app1 ht hlo; clear a0 a1 a2 a3 z2 n2 ht hlo; obtain ⟨a0, a1, a2, a3, z2⟩ := HAll.out w8 (bt HB5.out hb8); have HO8 := Lib.hid hown; have HB8 := Lib.hid hb8; have HV8 := Lib.hid hv8; clear hown hb8 hv8; obtain ⟨a8, c8, rfl⟩ := own_shape HO8.out) | (refine wpList_own rfl (.tmp 51) (.tmp 55) 39 rfl 81 j0 _ 3 32 Try.underlying39 hj hj0 hj1 hj2 rfl (by decide) _ k _ rfl (HO8.out.alloc _) ⟨w8.heap.size, 0, none⟩ 1 1 [.string u, .int .i64 (NP : Int), .int .i64 0] rfl rfl (new_cells w8 #[.string u, .int .i64 (NP : Int), .int .i64 0] _) (one_pm ⟨u, (NP : Int), 0⟩) (by unfold maxLen; omega) (by omega) ?_; intro v9 w9 hown hg hlo; obtain ⟨hb9, hv9⟩ := app2 HB8.out HV8.out hg hlo; clear a0 a1 a2 a3 z2 hg hlo; obtain ⟨a0, a1, a2, a3, z2⟩ := HAll.out w9 (bt HB5.out hb9); obtain ⟨r0, r1, r2, r3, z⟩ := HRes.out w9 (bt HB5.out hb9); have y0 := z 0; have y1 := z 1; have y2 := z 2; have y3 := z 3; have HO9 := Lib.hid hown; have HB9 := Lib.hid hb9; have HV9 := Lib.hid hv9; clear hown hb9 hv9 z; obtain ⟨a9, c9, rfl⟩ := own_shape HO9.out))
        obtain ⟨e1, e2⟩ := RF.adds (w := w) (b3 := w.heap.size) (b6 := w.heap.size + 1 + 1) (x2 := .slice a9 (k + 1) c9) (x0' := .int .i64 f.loss) (x1' := .int .i64 f.value) (x2' := .slice a9 (k + 1) c9) (x3' := .int .i64 f.own) HN.out HL2.out HOk2.out HLn.out HV0.out (bt HBw.out HB5.out) HB9.out HO9.out HV9.out (Nat.le_refl _) (by omega) (by have := HLt6.out; have := HWs.out; omega) (by have := HLt6.out; have := HWs.out; omega)
        exact bodyPost_ret (v := .tuple #[.agg #[.int .i64 f.loss, .int .i64 f.value, .slice a9 (k + 1) c9, .int .i64 f.own], .int .i64 (NP : Int), .int .i64 0]) (by simp [results, Try.results18, go_sem, r0, r1, r2, r3, y0, y1, y2, y3, a0, a1, a2, a3, z2]) rfl ⟨a9, k + 1, c9, rfl, e1, e2, fun a h => .inr (by have h1 := HV9.out a.block (by rw [h]; rfl); have h2 := (bt HBw.out HB5.out).size; omega)⟩

theorem rclaim_any (w : World) (ao : Option Addr) (n cap : Nat) (f : Fi) (u : ByteArray) (o : Po) (h : RF w ao n cap f) (hl : f.L.length < 100) (hp : PoOk w o) :
    Calls Try.prog 18 #[.agg #[.int .i64 f.loss, .int .i64 f.value, .slice ao n cap, .int .i64 f.own], .string u, o.val] w (RClaimed w f ao (f.claim u o)) := by
  cases g1 : o.may with
  | false => exact rclaim_no w ao n cap f u o h hp (.inl g1)
  | true =>
    by_cases g2 : u = o.i
    · exact rclaim_yes w ao n cap f u o h hl hp g1 g2
    · exact rclaim_no w ao n cap f u o h hp (.inr g2)
end Go.Proofs.Ytamfdkigokicoaa
