/- above and the document's Power, for all numbers and degrees from 1 to 64. -/
import Derived.Test.YtdkbfphpooedaaaOne
namespace Go.Proofs.Ytdkbfphpooedaaa.Word
set_option linter.unusedVariables false
open Go.RowKit

set_option maxHeartbeats 1000000 in
theorem above_c (x k n : Nat) (hx : x < 18446744073709551616) (hn : n < 18446744073709551616) (hk : 1 ≤ k) (hk2 : k ≤ 64) (w : World) : Calls Try.prog 24 #[.int .u64 x, .int .i64 k, .int .u64 n] w fun e w' => e = .returned (.bool (decide (n < x ^ k))) ∧ w' = w := by
  have HX := Lib.hid hx
  have HN := Lib.hid hn
  obtain ⟨B, hB⟩ : ∃ B, B = decide (n < x ^ k) := ⟨_, rfl⟩
  rw [← hB]
  have HB := Lib.hid hB
  clear hB
  go_enter Try.func24, Try.ntmps24
  go_wp2_with fail
  go_loopw [7, 11] (fun p i wr => ∃ (j P : Nat), p = .int .u64 P ∧ i = .int .i64 j ∧ j ≤ k ∧ P = x ^ j ∧ P < 18446744073709551616 ∧ (1 ≤ j → P ≤ n) ∧ wr = w) (fun _ i _ => k - (intOf i).toNat)
  case atStart => exact ⟨0, 1, rfl, rfl, by omega, rfl, by omega, by omega, rfl⟩
  case round =>
    obtain ⟨j, P, rfl, rfl, hj, hP, hP2, hPn, rfl⟩ := hrel
    have HP := Lib.hid hP
    have HPN := Lib.hid hPn
    clear hP hPn
    by_cases h0 : j < k
    · have h1 : (j : Int) < (k : Int) := by omega
      have C := Lib.hid (mul64_c P x hP2 HX.out wr)
      obtain ⟨Z, hZ⟩ : ∃ Z, Z = P * x := ⟨_, rfl⟩
      rw [← hZ] at C
      have HZ := Lib.hid hZ
      clear hZ
      obtain ⟨H, hH⟩ : ∃ H : Int, H = ((Z / 18446744073709551616 : Nat) : Int) := ⟨_, rfl⟩
      obtain ⟨L, hL⟩ : ∃ L : Int, L = ((Z % 18446744073709551616 : Nat) : Int) := ⟨_, rfl⟩
      rw [← hH, ← hL] at C
      have hcase : (0 < H ∧ n < Z) ∨ (H = 0 ∧ L = (Z : Int) ∧ Z < 18446744073709551616 ∧ ((n : Int) < (Z : Int) ∨ ¬(n : Int) < (Z : Int))) := by
        have hn : n < 18446744073709551616 := HN.out
        omega
      have more : n < Z → B = true := by
        intro h
        rw [HB.out]
        refine decide_eq_true (Nat.lt_of_lt_of_le h ?_)
        rw [HZ.out, HP.out, ← Nat.pow_succ]
        by_cases hx0 : x = 0
        · have : Z = 0 := by rw [HZ.out, hx0, Nat.mul_zero]
          omega
        · exact Nat.pow_le_pow_right (by omega) (by omega)
      have HM := Lib.hid more
      clear more hH hL
      rcases hcase with ⟨a1, a2⟩ | ⟨rfl, rfl, a2, a3 | a3⟩
      · have hb := HM.out a2
        subst hb
        go_wp2_with fail
        refine C.out.mono ?_
        rintro e w1 ⟨rfl, rfl⟩
        go_wp2_with fail
        go_ret
        exact ⟨rfl, rfl⟩
      · have hb := HM.out (by omega)
        subst hb
        go_wp2_with fail
        refine C.out.mono ?_
        rintro e w1 ⟨rfl, rfl⟩
        go_wp2_with fail
        go_ret
        exact ⟨rfl, rfl⟩
      · go_wp2_with fail
        refine C.out.mono ?_
        rintro e w1 ⟨rfl, rfl⟩
        go_wp2_with fail
        go_roundw
        case rel => exact ⟨j + 1, Z, rfl, by go_num, by omega, by rw [HZ.out, HP.out, Nat.pow_succ], by omega, by omega, by first | rfl | trivial⟩
        case measure => simp [intOf]; omega
    · obtain rfl : j = k := by omega
      have h1 : ¬(j : Int) < (j : Int) := by omega
      have hfin : B = false := by
        rw [HB.out, ← HP.out]
        exact decide_eq_false (by have := HPN.out hk; omega)
      subst hfin
      go_wp2_with fail
      go_ret
      exact ⟨rfl, rfl⟩
set_option maxHeartbeats 1000000 in
theorem power_c (x k n : Nat) (hx : x < 18446744073709551616) (hn : n < 18446744073709551616) (hk2 : k ≤ 64) (w : World) : Calls Try.prog 20 #[.int .u64 x, .int .i64 k, .int .u64 n] w fun e w' => (∃ P : Int, e = .returned (.tuple #[.int .u64 P, .bool (decide (x ^ k ≤ n))])) ∧ w' = w := by
  have HN := Lib.hid hn
  obtain ⟨B, hB⟩ : ∃ B, B = decide (x ^ k ≤ n) := ⟨_, rfl⟩
  rw [← hB]
  have HB := Lib.hid hB
  clear hB
  go_enter Try.func20, Try.ntmps20
  go_wp2_with fail
  go_loopw [8, 9] (fun p i wr => ∃ (j P : Nat), p = .int .u64 P ∧ i = .int .i64 j ∧ j ≤ k ∧ P = x ^ j ∧ P < 18446744073709551616 ∧ wr = w) (fun _ i _ => k - (intOf i).toNat)
  case atStart => exact ⟨0, 1, rfl, rfl, by omega, rfl, by omega, rfl⟩
  case round =>
    obtain ⟨j, P, rfl, rfl, hj, hP, hP2, rfl⟩ := hrel
    have HP := Lib.hid hP
    clear hP
    by_cases h0 : j < k
    · have h1 : (j : Int) < (k : Int) := by omega
      by_cases hx0 : x = 0
      · subst hx0
        go_wp2_with fail
        go_roundw
        case rel => exact ⟨j + 1, 0, by simp, by go_num, by omega, by rw [Nat.pow_succ, Nat.mul_zero], by omega, by first | rfl | trivial⟩
        case measure => simp [intOf]; omega
      · have hx1 : (0 : Int) < (x : Int) := by omega
        have hnx : n / x < 18446744073709551616 := Nat.lt_of_le_of_lt (Nat.div_le_self _ _) hn
        obtain ⟨Q, hQ⟩ : ∃ Q : Int, Q = ((n / x : Nat) : Int) := ⟨_, rfl⟩
        have hw : IntKind.u64.wrap ((n : Int) / (x : Int)) = Q := by
          rw [hQ, ← Int.natCast_ediv]
          exact Mul64.wrapN _ hnx
        have hd : n / x < P ↔ n < P * x := Nat.div_lt_iff_lt_mul (by omega)
        obtain ⟨Z, hZ⟩ : ∃ Z, Z = P * x := ⟨_, rfl⟩
        rw [← hZ] at hd
        have more : n < Z → B = false := by
          intro h
          rw [HB.out]
          refine decide_eq_false (fun h2 => ?_)
          have h3 : x ^ (j + 1) ≤ x ^ k := Nat.pow_le_pow_right (by omega) (by omega)
          rw [Nat.pow_succ, ← HP.out, ← hZ] at h3
          omega
        have hw2 : Z ≤ n → IntKind.u64.wrap ((P : Int) * (x : Int)) = (Z : Int) := by
          intro h
          rw [hZ, ← Int.natCast_mul, ← hZ, IntKind.wrap_u64]
          omega
        have hq : (Q < (P : Int) ∧ n < Z) ∨ (¬Q < (P : Int) ∧ Z ≤ n) := by omega
        have HM := Lib.hid more
        have HZ := Lib.hid hZ
        have HW := Lib.hid hw2
        clear more hZ hw2 hQ hd
        rcases hq with ⟨hq, hq2⟩ | ⟨hq, hq2⟩
        · have hb := HM.out hq2
          subst hb
          go_wp2_with fail
          go_ret2
          exact ⟨⟨_, rfl⟩, rfl⟩
        · have hw2 := HW.out hq2
          go_wp2_with fail
          go_roundw
          case rel => exact ⟨j + 1, Z, rfl, by go_num, by omega, by rw [HZ.out, HP.out, Nat.pow_succ], by omega, by first | rfl | trivial⟩
          case measure => simp [intOf]; omega
    · obtain rfl : j = k := by omega
      have h1 : ¬(j : Int) < (j : Int) := by omega
      have hb : (decide ((P : Int) ≤ (n : Int))) = B := by
        rw [HB.out, ← HP.out]
        simp
      have hb2 : (decide (P ≤ n)) = B := by
        rw [HB.out, ← HP.out]
      go_wp2_with fail
      go_ret2
      exact ⟨⟨_, rfl⟩, rfl⟩
end Go.Proofs.Ytdkbfphpooedaaa.Word
