/- RotateLeft32, Turn and the document's Turn, for every word and number. -/
import Derived.Test.YtdkbfphpooedaaaObj
namespace Go.Proofs.Ytdkbfphpooedaaa.Word
set_option linter.unusedVariables false
open Go.RowKit

theorem i64_and31 (n : Int) : bits .and .i64 n 31 = n % 32 := by
  have ha : ((BitVec.ofInt 64 n).toNat : Int) = n % 18446744073709551616 := by
    rw [BitVec.toNat_ofInt]
    omega
  have hb : (BitVec.ofInt 64 n &&& BitVec.ofInt 64 31).toNat = (BitVec.ofInt 64 n).toNat % 32 := by
    rw [BitVec.toNat_and]
    exact nat_mask5 _
  show IntKind.i64.wrap (((BitVec.ofInt 64 n &&& BitVec.ofInt 64 31).toNat : Nat) : Int) = n % 32
  rw [hb, IntKind.wrap_i64]
  omega
theorem u64_and31 (a : Nat) (ha : a < 18446744073709551616) : bits .and .u64 (a : Int) 31 = ((a % 32 : Nat) : Int) := by
  have h := u64_and_nat a 31 ha (by omega)
  rw [nat_mask5] at h
  exact h
theorem rot_form (x r s : Nat) (hx : x < 4294967296) (hr : r < 32) (hs : s = (32 - r) % 32) : bits .or .u32 ((x : Int) * 2 ^ s % 4294967296) ((x : Int) / 2 ^ (32 - s)) = ((rot x r : Nat) : Int) := by
  have e1 : (x : Int) * 2 ^ s % 4294967296 = ((x * 2 ^ s % 4294967296 : Nat) : Int) := by simp
  have e2 : (x : Int) / 2 ^ (32 - s) = ((x / 2 ^ (32 - s) : Nat) : Int) := by simp
  have h2 : x / 2 ^ (32 - s) < 4294967296 := Nat.lt_of_le_of_lt (Nat.div_le_self _ _) hx
  rw [e1, e2, u32_or_nat _ _ (by omega) h2]
  congr 1
  by_cases h0 : r = 0
  · subst h0
    obtain rfl : s = 0 := by omega
    rw [rot_zero x hx, Nat.pow_zero, Nat.mul_one, Nat.mod_eq_of_lt hx, show x / 2 ^ (32 - 0) = 0 from by omega, Nat.or_zero]
  · obtain rfl : s = 32 - r := by omega
    unfold rot
    rw [Nat.shiftRight_eq_div_pow, Nat.shiftLeft_eq, show 32 - (32 - r) = r from by omega, Nat.or_comm]
set_option maxHeartbeats 1000000 in
theorem rl_c (x r : Nat) (hx : x < 4294967296) (hr : r < 32) (w : World) : Calls Try.prog 23 #[.int .u32 x, .int .i64 (-(r : Int))] w fun e w' => e = .returned (.int .u32 ((rot x r : Nat) : Int)) ∧ w' = w := by
  obtain ⟨s, hs⟩ : ∃ s : Nat, s = (32 - r) % 32 := ⟨_, rfl⟩
  have e0 : IntKind.u64.wrap (-(r : Int)) = (((18446744073709551616 - r) % 18446744073709551616 : Nat) : Int) := by rw [IntKind.wrap_u64]; omega
  have e2 : bits .and .u64 (((18446744073709551616 - r) % 18446744073709551616 : Nat) : Int) 31 = (s : Int) := by
    rw [u64_and31 _ (by omega)]
    omega
  rw [← e0] at e2
  have hs1 : (s : Int) ≤ 31 := by omega
  have hs2 : (0 : Int) ≤ (32 : Int) - (s : Int) := by omega
  have hs3 : (32 : Int) - (s : Int) ≤ 32 := by omega
  have HS := Lib.hid hs
  clear hs e0
  go_enter Try.func23, Try.ntmps23
  go_wp2
  have hfin := rot_form x r s hx hr HS.out
  rw [hfin]
  go_ret
  exact ⟨rfl, rfl⟩
theorem turn_c (x : Nat) (n : Int) (hx : x < 4294967296) (w : World) : Calls Try.prog 16 #[.int .u32 x, .int .i64 n] w fun e w' => e = .returned (.int .u32 ((rot x (n % 32).toNat : Nat) : Int)) ∧ w' = w := by
  have e1 := i64_and31 n
  obtain ⟨r, hr⟩ : ∃ r : Nat, n % 32 = r := ⟨(n % 32).toNat, by omega⟩
  rw [hr] at e1 ⊢
  have hr2 : r < 32 := by omega
  have C := Lib.hid (rl_c x r hx hr2 w)
  clear hr
  go_enter Try.func16, Try.ntmps16
  go_wp2_with fail
  refine C.out.mono ?_
  rintro e w1 ⟨rfl, rfl⟩
  go_wp2_with fail
  go_ret
  exact ⟨rfl, rfl⟩
theorem rot_next (X k : Nat) (hX : X < 4294967296) (hk : k + 1 < 32) : rot X (k + 1) = rot X k / 2 + rot X k % 2 * 2147483648 := by
  rw [← rot_one _ (rot_lt X k hX (by omega)), rot_rot X k 1 hX (by omega) (by decide), Nat.mod_eq_of_lt hk]
set_option maxHeartbeats 1000000 in
theorem rturn_c (X : Nat) (n : Int) (hX : X < 4294967296) (w : World) : Calls Try.prog 17 #[.int .u32 X, .int .i64 n] w fun e w' => e = .returned (.int .u32 ((rot X (n % 32).toNat : Nat) : Int)) ∧ w' = w := by
  obtain ⟨t, ht⟩ : ∃ t, t = n.tmod 32 := ⟨_, rfl⟩
  have hb : -31 ≤ t ∧ t ≤ 31 ∧ (n % 32).toNat < 32 ∧ ((t < 0 ∧ t + 32 = ((n % 32).toNat : Int)) ∨ (¬t < 0 ∧ t = ((n % 32).toNat : Int))) := by
    subst ht
    rcases Int.lt_or_le n 0 with h | h
    · have e : n.tmod 32 = -((-n) % 32) := by
        rw [← Int.tmod_eq_emod_of_nonneg (a := -n) (by omega), Int.neg_tmod, Int.neg_neg]
      omega
    · have e : n.tmod 32 = n % 32 := Int.tmod_eq_emod_of_nonneg h
      omega
  obtain ⟨b1, b2, b3, b4⟩ := hb
  generalize (n % 32).toNat = r at b3 b4 ⊢
  have ht' : n.tmod 32 = t := ht.symm
  clear ht
  have H0 := Lib.hid (rot_zero X hX)
  have HX := Lib.hid hX
  clear hX
  rcases b4 with ⟨b4, b5⟩ | ⟨b4, b5⟩
  all_goals
    go_enter Try.func17, Try.ntmps17
    go_wp2_with fail
    first | rw [b5] | skip
    go_loopw [0, 5] (fun x i wr => ∃ (k : Nat), x = .int .u32 (rot X k : Nat) ∧ i = .int .i64 k ∧ k ≤ r ∧ wr = w) (fun _ i _ => r - (intOf i).toNat)
    case atStart => exact ⟨0, by rw [H0.out], rfl, by omega, rfl⟩
    case round =>
      obtain ⟨k, rfl, rfl, hk, rfl⟩ := hrel
      by_cases h0 : k < r
      · have h1 : (k : Int) < (r : Int) := by omega
        have HE := Lib.hid (rot_next X k HX.out (by omega))
        have hm := rot_lt X k HX.out (by omega)
        generalize rot X k = m at HE hm ⊢
        have hm : m < 4294967296 := hm
        rcases (show (m : Int) % 2 = 0 ∨ (m : Int) % 2 = 1 from by omega) with e | e
        all_goals
          go_wp2_with fail
          go_roundw
          case rel => exact ⟨k + 1, by rw [HE.out]; first | (refine congrArg _ ?_; omega) | skip, by go_num, by omega, by first | rfl | trivial⟩
          case measure => simp [intOf]; omega
      · obtain rfl : k = r := by omega
        have h1 : ¬(k : Int) < (k : Int) := by omega
        go_wp2_with fail
        go_ret
        exact ⟨rfl, rfl⟩
end Go.Proofs.Ytdkbfphpooedaaa.Word
