/- Root and the document's Root, for all numbers and degrees. -/
import Derived.Test.YtdkbfphpooedaaaRoot
namespace Go.Proofs.Ytdkbfphpooedaaa.Word
set_option linter.unusedVariables false
open Go.RowKit

theorem rt_start (n K q : Nat) (hn : n < 18446744073709551616) (hK : 1 ≤ K) (hq : q = 63 / K) : n < (0 + 2 ^ (q + 1)) ^ K := by
  rw [Nat.zero_add, ← Nat.pow_mul]
  have h1 : 64 ≤ (q + 1) * K := by
    have := Nat.div_add_mod 63 K
    have h2 := Nat.mod_lt 63 (show 0 < K by omega)
    rw [hq, Nat.add_mul, Nat.mul_comm (63 / K) K]
    omega
  have h2 := Nat.pow_le_pow_right (show 0 < 2 by decide) h1
  have h3 : 2 ^ 64 = 18446744073709551616 := by decide
  omega
/-- no step of the root runs over -/
theorem rt_room (n K O s : Nat) (hn : n < 18446744073709551616) (hK : 1 ≤ K) (hO : O ^ K ≤ n) (hm : O % 2 ^ (s + 1) = 0) (hs : s < 64) : O + 2 ^ (s + 1) ≤ 18446744073709551616 := by
  have h0 : O < 18446744073709551616 := by
    have : O ≤ n := by
      by_cases h0 : O = 0
      · omega
      · have h1 := Nat.pow_le_pow_right (show O > 0 by omega) hK
        rw [Nat.pow_one] at h1
        omega
    omega
  obtain ⟨c, rfl⟩ := Nat.dvd_of_mod_eq_zero hm
  have h2 : (18446744073709551616 : Nat) = 2 ^ (s + 1) * 2 ^ (63 - s) := by
    rw [← Nat.pow_add, show s + 1 + (63 - s) = 64 from by omega]
  rw [h2] at h0 ⊢
  have h3 : c < 2 ^ (63 - s) := Nat.lt_of_mul_lt_mul_left h0
  have h4 := Nat.mul_le_mul_left (2 ^ (s + 1)) (show c + 1 ≤ 2 ^ (63 - s) from h3)
  rw [Nat.mul_add, Nat.mul_one] at h4
  exact h4
theorem root_low (n : Nat) (k : Int) (w : World) (h : k < 1 ∨ (¬k < 1 ∧ n = 0)) : Calls Try.prog 18 #[.int .u64 n, .int .i64 k] w fun e w' => e = .returned (.int .u64 0) ∧ w' = w := by
  rcases h with h | ⟨h, rfl⟩
  · go_enter Try.func18, Try.ntmps18
    go_wp2_with fail
    go_ret
    exact ⟨rfl, rfl⟩
  · show Calls Try.prog 18 #[.int .u64 0, .int .i64 k] w _
    go_enter Try.func18, Try.ntmps18
    go_wp2_with fail
    go_ret
    exact ⟨rfl, rfl⟩
set_option maxHeartbeats 1000000 in
theorem root_in (n : Nat) (k : Int) (K : Nat) (hn : n < 18446744073709551616) (hn0 : 0 < n) (hk : 1 ≤ k) (hK : (k ≤ 64 ∧ k = K) ∨ (64 < k ∧ K = 64)) (w : World) : Calls Try.prog 18 #[.int .u64 n, .int .i64 k] w fun e w' => (∃ r : Nat, e = .returned (.int .u64 r) ∧ Rt n K r) ∧ w' = w := by
  have hk1 : ¬k < 1 := by omega
  have hK1 : 1 ≤ K := by omega
  have hK2 : K ≤ 64 := by omega
  have hne : ((n : Int) == 0) = false := by simp; omega
  have HN := Lib.hid hn
  have HS := Lib.hid (rt_start n K _ hn hK1 rfl)
  have hq : 63 / K ≤ 63 := Nat.div_le_self _ _
  have hqi : (63 : Int) / (K : Int) = ((63 / K : Nat) : Int) := by simp
  have hq0 : K = 64 → 63 / K = 0 := fun h => by rw [h]
  generalize 63 / K = q at HS hq hqi hq0 ⊢
  have h5 : (k ≤ 64 ∧ k = K) ∨ (64 < k ∧ (64 : Int) = K ∧ q = 0) := by
    rcases hK with h | h
    · exact .inl h
    · exact .inr ⟨h.1, by omega, hq0 h.2⟩
  have HQI := Lib.hid hqi
  clear hK hq0 hqi
  have hlast : ∀ O, O % 2 ^ 0 = 0 → O ^ K ≤ n → n < (O + 2 ^ 0) ^ K → Rt n K O := fun O _ h1 h2 => ⟨h1, h2⟩
  have HLAST := Lib.hid hlast
  have hstep : ∀ O s, s < 64 → O % 2 ^ (s + 1) = 0 → O ^ K ≤ n → bits .or .u64 (O : Int) ((2 ^ s : Nat) : Int) = ((O + 2 ^ s : Nat) : Int) ∧ O + 2 ^ s < 18446744073709551616 ∧ 2 ^ s < 18446744073709551616 := fun O s hs hm hO => by
    have h1 := rt_room n K O s hn hK1 hO hm hs
    rw [Nat.pow_succ] at h1
    have h2 : 0 < 2 ^ s := Nat.two_pow_pos s
    refine ⟨?_, by omega, by omega⟩
    rw [u64_or_nat _ _ (by omega) (by omega), nat_join (s + 1) _ _ hm (by rw [Nat.pow_succ]; omega)]
  have HSTEP := Lib.hid hstep
  clear hlast hstep
  rcases h5 with ⟨h64, rfl⟩ | ⟨h64, h65, rfl⟩
  all_goals
    first | have h65 := Lib.hid h65 | skip
    go_enter Try.func18, Try.ntmps18
    go_wp2_with fail
    first | rw [h65.out] | skip
    go_loopw [5, 6] (fun o i wr => ∃ (t O : Nat) (z : Int), o = .int .u64 O ∧ i = .int .i64 z ∧ z = (t : Int) - 1 ∧ t ≤ 64 ∧ O % 2 ^ t = 0 ∧ O ^ K ≤ n ∧ n < (O + 2 ^ t) ^ K ∧ wr = w) (fun _ i _ => (intOf i + 1).toNat)
    case atStart => exact ⟨_, 0, _, rfl, rfl, by first | (rw [HQI.out]; exact (Int.add_sub_cancel (_ : Int) 1).symm) | (show (0 : Int) = ((0 + 1 : Nat) : Int) - 1; rfl), by omega, Nat.zero_mod _, by rw [Nat.zero_pow (by omega)]; omega, HS.out, rfl⟩
    case round =>
      obtain ⟨t, O, z, rfl, rfl, hz, ht, hm, hO, hOn, rfl⟩ := hrel
      by_cases h0 : z < 0
      · obtain rfl : t = 0 := by omega
        have hfin := Lib.hid (HLAST.out O hm hO hOn)
        clear hm hO hOn hz
        go_wp2_with fail
        go_ret
        exact ⟨⟨O, rfl, hfin.out⟩, rfl⟩
      · obtain ⟨s, rfl⟩ : ∃ s : Nat, z = s := ⟨z.toNat, by omega⟩
        obtain rfl : t = s + 1 := by omega
        have hs : (s : Int) ≤ 63 := by omega
        obtain ⟨e1, e2, e3⟩ := HSTEP.out O s (by omega) hm hO
        have hA := Lib.hid (above_c (O + 2 ^ s) K n e2 HN.out hK1 hK2 wr)
        have hw : IntKind.u64.wrap (2 ^ s) = ((2 ^ s : Nat) : Int) := by
          have h3 := Mul64.wrapN _ e3
          rw [← h3]
          simp
        have hm2 : O % 2 ^ s = 0 := Nat.mod_eq_zero_of_dvd (Nat.dvd_trans (Nat.pow_dvd_pow 2 (Nat.le_succ s)) (Nat.dvd_of_mod_eq_zero hm))
        have hOn2 : n < (O + 2 ^ s + 2 ^ s) ^ K := by
          have : O + 2 ^ s + 2 ^ s = O + 2 ^ (s + 1) := by rw [Nat.pow_succ]; omega
          rw [this]
          exact hOn
        have hm3 : (O + 2 ^ s) % 2 ^ s = 0 := by rw [Nat.add_mod_right]; exact hm2
        have H2 := Lib.hid (And.intro hm2 (And.intro hm3 (And.intro hO (And.intro hOn2 e2))))
        clear hm hO hOn hz hm2 hm3 hOn2
        obtain ⟨D, hD⟩ : ∃ D, D = 2 ^ s := ⟨_, rfl⟩
        rw [← hD] at e1 hA hw H2 e2 e3
        obtain ⟨E, hE⟩ : ∃ E, E = O + D := ⟨_, rfl⟩
        rw [← hE] at e1 hA e2
        have HD := Lib.hid hD
        have HE := Lib.hid hE
        clear hD hE
        by_cases hc : n < E ^ K
        · rw [decide_eq_true hc] at hA
          have HC := Lib.hid hc
          clear hc
          go_wp2_with fail
          refine hA.out.mono ?_
          rintro e w1 ⟨rfl, rfl⟩
          go_wp2_with fail
          go_roundw
          case rel => exact ⟨s, O, _, rfl, rfl, rfl, by omega, by rw [← HD.out]; exact H2.out.1, H2.out.2.2.1, by rw [← HD.out, ← HE.out]; exact HC.out, by first | rfl | trivial⟩
          case measure => simp [intOf] <;> omega
        · rw [decide_eq_false hc] at hA
          have HC := Lib.hid hc
          clear hc
          go_wp2_with fail
          refine hA.out.mono ?_
          rintro e w1 ⟨rfl, rfl⟩
          go_wp2_with fail
          go_roundw
          case rel => exact ⟨s, E, _, rfl, rfl, rfl, by omega, by rw [← HD.out, HE.out]; exact H2.out.2.1, Nat.le_of_not_lt HC.out, by rw [← HD.out, HE.out]; exact H2.out.2.2.2.1, by first | rfl | trivial⟩
          case measure => simp [intOf] <;> omega
/-- The root, as a law of its number and degree. -/
def RtAt (n : Nat) (k : Int) (r : Nat) : Prop := (k < 1 → r = 0) ∧ (1 ≤ k → Rt n (min k 64).toNat r)
theorem root_c (n : Nat) (k : Int) (hn : n < 18446744073709551616) (w : World) : Calls Try.prog 18 #[.int .u64 n, .int .i64 k] w fun e w' => (∃ r : Nat, e = .returned (.int .u64 r) ∧ RtAt n k r) ∧ w' = w := by
  by_cases h1 : k < 1
  · refine (root_low n k w (.inl h1)).mono ?_
    rintro e w' ⟨rfl, rfl⟩
    exact ⟨⟨0, rfl, fun _ => rfl, fun h => by omega⟩, rfl⟩
  · by_cases h0 : n = 0
    · refine (root_low n k w (.inr ⟨h1, h0⟩)).mono ?_
      rintro e w' ⟨rfl, rfl⟩
      refine ⟨⟨0, rfl, fun _ => rfl, fun h => ⟨?_, ?_⟩⟩, rfl⟩
      · rw [Nat.zero_pow (by omega)]
        omega
      · rw [h0]
        simp
    · refine (root_in n k (min k 64).toNat hn (by omega) (by omega) (by omega) w).mono ?_
      rintro e w' ⟨⟨r, rfl, h⟩, rfl⟩
      exact ⟨⟨r, rfl, fun h2 => by omega, fun _ => h⟩, rfl⟩
/-! ### the document's root, by halving -/
theorem rroot_low (n : Nat) (k : Int) (w : World) (h : k < 1) : Calls Try.prog 19 #[.int .u64 n, .int .i64 k] w fun e w' => e = .returned (.int .u64 0) ∧ w' = w := by
  go_enter Try.func19, Try.ntmps19
  go_wp2_with fail
  go_ret
  exact ⟨rfl, rfl⟩
set_option maxHeartbeats 1000000 in
theorem rroot_in (n : Nat) (k : Int) (K : Nat) (hn : n < 18446744073709551616) (hk : 1 ≤ k) (hK : (k ≤ 64 ∧ k = K) ∨ (64 < k ∧ K = 64)) (w : World) : Calls Try.prog 19 #[.int .u64 n, .int .i64 k] w fun e w' => (∃ r : Nat, e = .returned (.int .u64 r) ∧ Rt n K r) ∧ w' = w := by
  have hk1 : ¬k < 1 := by omega
  have hK1 : 1 ≤ K := by omega
  have hK2 : K ≤ 64 := by omega
  have HN := Lib.hid hn
  have hn1 : n < (n + 1) ^ K := by
    have := Nat.pow_le_pow_right (show n + 1 > 0 by omega) hK1
    rw [Nat.pow_one] at this
    omega
  have HS := Lib.hid hn1
  have h5 : (¬(64 : Int) < k ∧ k = K) ∨ (64 < k ∧ (64 : Int) = K) := by omega
  clear hK hn1
  rcases h5 with ⟨h64, rfl⟩ | ⟨h64, h65⟩
  all_goals
    first | have h65 := Lib.hid h65 | skip
    go_enter Try.func19, Try.ntmps19
    go_wp2_with fail
    first | rw [h65.out] | skip
    go_loopw [5, 6] (fun a b wr => ∃ (L H : Nat), a = .int .u64 L ∧ b = .int .u64 H ∧ L ≤ H ∧ H ≤ n ∧ L ^ K ≤ n ∧ n < (H + 1) ^ K ∧ wr = w) (fun a b _ => (intOf b - intOf a).toNat)
    case atStart => exact ⟨0, n, rfl, rfl, by omega, by omega, by rw [Nat.zero_pow (by omega)]; omega, HS.out, rfl⟩
    case round =>
      obtain ⟨L, H, rfl, rfl, hLH, hHn, hL, hH, rfl⟩ := hrel
      have HL := Lib.hid hL
      have HH := Lib.hid hH
      clear hL hH
      by_cases h0 : L < H
      · have h1 : (L : Int) < (H : Int) := by omega
        obtain ⟨M, hM⟩ : ∃ M, M = L + (H - L) / 2 + (H - L) % 2 := ⟨_, rfl⟩
        have hM1 : L < M := by omega
        have hM2 : M ≤ H := by omega
        obtain ⟨S, hS⟩ : ∃ S, S = H - L := ⟨_, rfl⟩
        rw [← hS] at hM
        have e1 : ((H : Int) - (L : Int)) = (S : Int) := by omega
        have hS2 : (S : Int) + (L : Int) ≤ 18446744073709551615 := by omega
        have hA := Lib.hid (fun w => power_c M K n (by omega) hn hK2 w)
        have HM := Lib.hid hM
        clear hM hS
        by_cases hc : M ^ K ≤ n
        · rw [decide_eq_true hc] at hA
          have HC := Lib.hid hc
          clear hc
          go_wp2_with fail
          rw [show (L : Int) + (S : Int) / 2 + (S : Int) % 2 = (M : Int) from by have := HM.out; omega]
          refine (hA.out _).mono ?_
          rintro e w1 ⟨⟨P, rfl⟩, rfl⟩
          go_wp2_with fail
          go_roundw
          case rel => exact ⟨M, H, rfl, rfl, hM2, hHn, HC.out, HH.out, by first | rfl | trivial⟩
          case measure => simp [intOf] <;> omega
        · rw [decide_eq_false hc] at hA
          have HC := Lib.hid hc
          clear hc
          go_wp2_with fail
          rw [show (L : Int) + (S : Int) / 2 + (S : Int) % 2 = (M : Int) from by have := HM.out; omega]
          refine (hA.out _).mono ?_
          rintro e w1 ⟨⟨P, rfl⟩, rfl⟩
          go_wp2_with fail
          go_roundw
          case rel => exact ⟨L, M - 1, rfl, by go_num, by omega, by omega, HL.out, by rw [Nat.sub_add_cancel (by omega)]; exact Nat.lt_of_not_le HC.out, by first | rfl | trivial⟩
          case measure => simp [intOf] <;> omega
      · obtain rfl : L = H := by omega
        have h1 : ¬(L : Int) < (L : Int) := by omega
        go_wp2_with fail
        go_ret
        exact ⟨⟨L, rfl, HL.out, HH.out⟩, rfl⟩
theorem rroot_c (n : Nat) (k : Int) (hn : n < 18446744073709551616) (w : World) : Calls Try.prog 19 #[.int .u64 n, .int .i64 k] w fun e w' => (∃ r : Nat, e = .returned (.int .u64 r) ∧ RtAt n k r) ∧ w' = w := by
  by_cases h1 : k < 1
  · refine (rroot_low n k w h1).mono ?_
    rintro e w' ⟨rfl, rfl⟩
    exact ⟨⟨0, rfl, fun _ => rfl, fun h => by omega⟩, rfl⟩
  · refine (rroot_in n k (min k 64).toNat hn (by omega) (by omega) w).mono ?_
    rintro e w' ⟨⟨r, rfl, h⟩, rfl⟩
    exact ⟨⟨r, rfl, fun h2 => by omega, fun _ => h⟩, rfl⟩
theorem RtAt.uniq {n : Nat} {k : Int} {r s : Nat} (h : RtAt n k r) (g : RtAt n k s) : r = s := by
  by_cases h1 : k < 1
  · rw [h.1 h1, g.1 h1]
  · exact (h.2 (by omega)).uniq (g.2 (by omega))
theorem RtAt.le {n : Nat} {k : Int} {r : Nat} (h : RtAt n k r) : r ≤ n := by
  by_cases h1 : k < 1
  · rw [h.1 h1]
    omega
  · exact (h.2 (by omega)).le (by omega)
end Go.Proofs.Ytdkbfphpooedaaa.Word
