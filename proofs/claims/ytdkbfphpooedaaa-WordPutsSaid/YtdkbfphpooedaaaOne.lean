/- Layer 1: One. -/
import Derived.Test.YtdkbfphpooedaaaObj
namespace Go.Proofs.Ytdkbfphpooedaaa.Word
set_option linter.unusedVariables false
open Go.RowKit

set_option maxHeartbeats 1000000 in
theorem mul64_c (x y : Nat) (hx : x < 18446744073709551616) (hy : y < 18446744073709551616) (w : World) :
    Calls Try.prog 25 #[.int .u64 x, .int .u64 y] w fun e w' => e = .returned (.tuple #[.int .u64 ((x * y / 18446744073709551616 : Nat) : Int), .int .u64 ((x * y % 18446744073709551616 : Nat) : Int)]) ∧ w' = w := by
  obtain ⟨bd, bt, bw, hhi⟩ := Lib.mul64_hi x y hx hy
  have ba := Lib.half_mul_le (a := x / 4294967296) (b := y / 4294967296) (by omega) (by omega)
  have bb := Lib.half_mul_le (a := x / 4294967296) (b := y % 4294967296) (by omega) (by omega)
  have bc := Lib.half_mul_le (a := x % 4294967296) (b := y / 4294967296) (by omega) (by omega)
  have ba' : x / 4294967296 * (y / 4294967296) < 18446744073709551616 := by omega
  have bb' : x / 4294967296 * (y % 4294967296) < 18446744073709551616 := by omega
  have bc' : x % 4294967296 * (y / 4294967296) < 18446744073709551616 := by omega
  have bh1 : x / 4294967296 * (y / 4294967296) + (x / 4294967296 * (y % 4294967296) + x % 4294967296 * (y % 4294967296) / 4294967296) / 4294967296 < 18446744073709551616 := by omega
  have bh : x / 4294967296 * (y / 4294967296) + (x / 4294967296 * (y % 4294967296) + x % 4294967296 * (y % 4294967296) / 4294967296) / 4294967296 + ((x / 4294967296 * (y % 4294967296) + x % 4294967296 * (y % 4294967296) / 4294967296) % 4294967296 + x % 4294967296 * (y / 4294967296)) / 4294967296 < 18446744073709551616 := by omega
  go_enter Try.func25, Try.ntmps25
  go_wp2
  simp only [Mul64.maskN x hx, Mul64.maskN y hy, Mul64.divN, Mul64.mulN, Mul64.addN, Mul64.wrapN _ bd, Mul64.wrapN _ bb', Mul64.wrapN _ bt, Mul64.maskN _ bt, Mul64.wrapN _ bc', Mul64.wrapN _ bw, Mul64.wrapN _ ba', Mul64.wrapN _ bh1, Mul64.wrapN _ bh, Mul64.wrapM (x * y)]
  rw [hhi]
  go_ret2
  exact ⟨rfl, rfl⟩

theorem conv_lit4 (w : World) (a b c d : Int) : (convert 45 9 (.slice (some ⟨w.heap.size, 0, none⟩) 4 4)).run Try.prog (w.alloc (.cells #[.int .u8 a, .int .u8 b, .int .u8 c, .int .u8 d] 5)) = .ok (.string (strOfNums [a, b, c, d])) (w.alloc (.cells #[.int .u8 a, .int .u8 b, .int .u8 c, .int .u8 d] 5)) :=
  run_convert_bytes_arg (P := Try.prog) (w := w.alloc (.cells #[.int .u8 a, .int .u8 b, .int .u8 c, .int .u8 d] 5)) 45 5 Try.underlying45 Try.underlying5 w.heap.size 0 4 4 [a, b, c, d] rfl (fun i hi => by
    rw [World.cell?_alloc_new]
    match i, hi with
    | 0, _ => rfl
    | 1, _ => rfl
    | 2, _ => rfl
    | 3, _ => rfl) 9 Try.underlying9
theorem put32_c (x : Nat) (hx : x < 4294967296) (w : World) : Calls Try.prog 13 #[.int .u32 x] w fun e w' => e = .returned (.string (strOfNums (be 4 x))) ∧ Kept (fun i => w.heap.size ≤ i) w w' := by
  have hcv := conv_lit4
  go_enter Try.func13, Try.ntmps13
  go_wp2_with fail
  go_ret
  refine ⟨?_, (Kept.refl _ w).alloc _⟩
  rw [be4, show x / 16777216 % 256 = x / 16777216 from by omega]
  simp
theorem put64_c (x : Nat) (hx : x < 18446744073709551616) (w : World) : Calls Try.prog 15 #[.int .u64 x] w fun e w' => e = .returned (.string (strOfNums (be 8 x))) ∧ Kept (fun i => w.heap.size ≤ i) w w' := by
  have P1 := Lib.hid (put32_c (x / 4294967296) (by omega) w)
  have P2 := Lib.hid (fun w => put32_c (x % 4294967296) (by omega) w)
  have s1 : ∀ y, (strOfNums (be 4 y)).size = 4 := fun y => by rw [strOfNums_size, be_len]
  rw [be8, strOfNums_append]
  go_enter Try.func15, Try.ntmps15
  go_wp2_with fail
  rw [show ((x : Int) / 4294967296) = ((x / 4294967296 : Nat) : Int) from by omega]
  refine P1.out.mono ?_
  rintro e w1 ⟨rfl, K1⟩
  have K := Lib.hid K1
  clear K1
  go_wp2_with fail
  rw [show ((x : Int) % 4294967296) = ((x % 4294967296 : Nat) : Int) from by omega]
  refine (P2.out w1).mono ?_
  rintro e w2 ⟨rfl, K2⟩
  go_wp2_with fail
  go_ret
  exact ⟨rfl, K.out.trans (K2.mono (fun i hi => Nat.le_trans K.out.size hi))⟩
end Go.Proofs.Ytdkbfphpooedaaa.Word
