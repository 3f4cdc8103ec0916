/- For all words and every number: Turn goes through exclusive or, and through and. The walk. No condition beyond the kinds and the reach. -/
import Derived.Test.YtdkbfphpooedaaaLawc
namespace Go.Proofs.Ytdkbfphpooedaaa.Word.LawMixes
set_option linter.unusedVariables false
open Go.RowKit

set_option maxHeartbeats 1000000 in
theorem walk (x y n : Int) (w : World) (hx : (Lit.int .u32 x).wf = true) (hy : (Lit.int .u32 y).wf = true) (hn : (Lit.int .i64 n).wf = true) : Calls Try.prog 6 #[.int .u32 x, .int .u32 y, .int .i64 n] w fun e w' => e = .returned (.bool true) ∧ Below w.heap.size w w' := by
  obtain ⟨hx0, hx1⟩ := wf_u32 hx
  obtain ⟨hy0, hy1⟩ := wf_u32 hy
  clear hx hn hy
  obtain ⟨x, rfl⟩ : ∃ m : Nat, x = m := ⟨x.toNat, by omega⟩
  obtain ⟨y, rfl⟩ : ∃ m : Nat, y = m := ⟨y.toNat, by omega⟩
  have hX : x < 2 ^ 32 := by omega
  have hY : y < 2 ^ 32 := by omega
  have hr : (n % 32).toNat < 32 := by omega
  have hXY := Nat.xor_lt_two_pow hX hY
  have hAY := Nat.and_lt_two_pow x hY
  have e1 := u32_xor_nat x y hX hY
  have e2 := u32_and_nat x y hX hY
  have e3 := u32_xor_nat _ _ (rot_lt x _ hX hr) (rot_lt y _ hY hr)
  have e4 := u32_and_nat _ _ (rot_lt x _ hX hr) (rot_lt y _ hY hr)
  rw [rot_xor x y _ hX hY hr] at e3
  rw [rot_and x y _ hX hY hr] at e4
  have T1 := Lib.hid (fun w => turn_c x n hX w)
  have T2 := Lib.hid (fun w => turn_c y n hY w)
  have T3 := Lib.hid (fun w => turn_c (x ^^^ y) n hXY w)
  have T4 := Lib.hid (fun w => turn_c (x &&& y) n hAY w)
  clear hXY hAY hX hY hr
  generalize (n % 32).toNat = r at T1 T2 T3 T4 e3 e4
  generalize rot (x ^^^ y) r = RX at T3 e3
  generalize rot (x &&& y) r = RA at T4 e4
  generalize rot x r = R1 at T1 e3 e4
  generalize rot y r = R2 at T2 e3 e4
  generalize (x ^^^ y) = X at T3 e1
  generalize (x &&& y) = A at T4 e2
  go_enter Try.func6, Try.ntmps6
  go_wp2_with fail
  refine (awake_c w).mono ?_
  rintro e w2 ⟨rfl, B⟩
  go_wp2_with fail
  refine (T1.out w2).mono ?_
  rintro e w3 ⟨rfl, rfl⟩
  go_wp2_with fail
  refine (T2.out w3).mono ?_
  rintro e w4 ⟨rfl, rfl⟩
  go_wp2_with fail
  refine (T3.out w4).mono ?_
  rintro e w5 ⟨rfl, rfl⟩
  go_wp2_with fail
  refine (T1.out w5).mono ?_
  rintro e w6 ⟨rfl, rfl⟩
  go_wp2_with fail
  refine (T2.out w6).mono ?_
  rintro e w7 ⟨rfl, rfl⟩
  go_wp2_with fail
  refine (T4.out w7).mono ?_
  rintro e w8 ⟨rfl, rfl⟩
  go_wp2_with fail
  go_ret
  exact ⟨by first | rfl | (simp; done), B⟩
end Go.Proofs.Ytdkbfphpooedaaa.Word.LawMixes
