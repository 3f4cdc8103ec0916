/- Get32, for every byte string and place. -/
import Derived.Test.YtdkbfphpooedaaaTurn
namespace Go.Proofs.Ytdkbfphpooedaaa.Word
set_option linter.unusedVariables false
open Go.RowKit

theorem get32_no (s : ByteArray) (k : Int) (w : World) (hk : k ≤ 9223372036854775807) (hs : s.size ≤ 1000000000000000000) (h : k < 0 ∨ (s.size : Int) < k + 4) : Calls Try.prog 12 #[.string s, .int .i64 k] w fun e w' => e = .returned (.tuple #[.int .u32 0, .bool false]) ∧ w' = w := by
  have h : k < 0 ∨ (¬k < 0 ∧ (s.size : Int) < 4) ∨ (¬k < 0 ∧ ¬(s.size : Int) < 4 ∧ (s.size : Int) - 4 < k) := by omega
  rcases h with h | ⟨h1, h⟩ | ⟨h1, h2, h⟩
  all_goals
    go_enter Try.func12, Try.ntmps12
    go_wp2_with fail
    go_ret2
    exact ⟨rfl, rfl⟩
theorem or_wd (a b c d : Nat) (ha : a < 256) (hb : b < 256) (hc : c < 256) (hd : d < 256) :
    bits .or .u32 (bits .or .u32 (bits .or .u32 ((a : Int) * 16777216) ((b : Int) * 65536)) ((c : Int) * 256)) (d : Int) = ((wd a b c d : Nat) : Int) := by
  rw [show (a : Int) * 16777216 = ((a * 16777216 : Nat) : Int) from by omega, show (b : Int) * 65536 = ((b * 65536 : Nat) : Int) from by omega, show (c : Int) * 256 = ((c * 256 : Nat) : Int) from by omega]
  rw [u32_or_nat _ _ (by omega) (by omega), nat_join 24 _ _ (by omega) (by omega)]
  rw [u32_or_nat _ _ (by omega) (by omega), nat_join 16 _ _ (by omega) (by omega)]
  rw [u32_or_nat _ _ (by omega) (by omega), nat_join 8 _ _ (by omega) (by omega)]
  rfl
set_option maxHeartbeats 1000000 in
theorem get32_at (s : ByteArray) (k k1 k2 k3 : Nat) (w : World) (hs : s.size ≤ 1000000000000000000) (e1 : k1 = k + 1) (e2 : k2 = k + 2) (e3 : k3 = k + 3) (l0 : k < s.size) (l1 : k1 < s.size) (l2 : k2 < s.size) (l3 : k3 < s.size) : Calls Try.prog 12 #[.string s, .int .i64 k] w fun e w' => e = .returned (.tuple #[.int .u32 (wd s[k].toNat s[k1].toNat s[k2].toNat s[k3].toNat : Nat), .bool true]) ∧ Kept (fun _ => False) w w' := by
  have h1 : ¬(k : Int) < 0 := by omega
  have h2 : ¬(s.size : Int) < 4 := by omega
  have h3 : ¬(s.size : Int) - 4 < (k : Int) := by omega
  have v1 : IntKind.i64.wrap ((k : Int) + 1) = (k1 : Int) := by rw [IntKind.wrap_i64]; omega
  have v2 : IntKind.i64.wrap ((k : Int) + 2) = (k2 : Int) := by rw [IntKind.wrap_i64]; omega
  have v3 : IntKind.i64.wrap ((k : Int) + 3) = (k3 : Int) := by rw [IntKind.wrap_i64]; omega
  clear e1 e2 e3
  have t0 : (k : Int) < (s.size : Int) := by omega
  have t1 : (k1 : Int) < (s.size : Int) := by omega
  have t2 : (k2 : Int) < (s.size : Int) := by omega
  have t3 : (k3 : Int) < (s.size : Int) := by omega
  have b0 := (s[k]'l0).toNat_lt
  have b1 := (s[k1]'l1).toNat_lt
  have b2 := (s[k2]'l2).toNat_lt
  have b3 := (s[k3]'l3).toNat_lt
  have b0' : ((s[k]'l0).toNat : Int) < 256 := by omega
  have b1' : ((s[k1]'l1).toNat : Int) < 256 := by omega
  have b2' : ((s[k2]'l2).toNat : Int) < 256 := by omega
  have b3' : ((s[k3]'l3).toNat : Int) < 256 := by omega
  go_enter Try.func12, Try.ntmps12
  go_wp2
  go_quiet (fail)
  go_wp2
  rw [or_wd _ _ _ _ (by omega) (by omega) (by omega) (by omega)]
  go_ret2
  exact ⟨rfl, (Kept.refl _ w).drewN _⟩
theorem get32_ok (s : ByteArray) (k : Nat) (w : World) (hs : s.size ≤ 1000000000000000000) (h : k + 4 ≤ s.size) : Calls Try.prog 12 #[.string s, .int .i64 k] w fun e w' => e = .returned (.tuple #[.int .u32 (wd (s[k]'(by omega)).toNat (s[k+1]'(by omega)).toNat (s[k+2]'(by omega)).toNat (s[k+3]'(by omega)).toNat : Nat), .bool true]) ∧ Kept (fun _ => False) w w' :=
  get32_at s k (k + 1) (k + 2) (k + 3) w hs rfl rfl rfl (by omega) (by omega) (by omega) (by omega)
end Go.Proofs.Ytdkbfphpooedaaa.Word
