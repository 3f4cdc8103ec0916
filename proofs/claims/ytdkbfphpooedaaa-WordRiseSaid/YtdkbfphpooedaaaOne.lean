/- Mul64 at this program's numbers, Put32 and Put64, for every number. -/
import Derived.Test.YtdkbfphpooedaaaObj
namespace Go.Proofs.Ytdkbfphpooedaaa.Word
set_option linter.unusedVariables false
open Go.RowKit

/-! ### math/bits.Mul64: the library's contract, laid at this program's numbers -/
def ren : Go.Shelf.Ren := ⟨fun _ => 25, fun n => if n = 46 then 43 else 22, fun _ => 0⟩
theorem laid : Lays.n264 Try.prog ren := { mixed := by kernel_rfl, f264 := by kernel_rfl, t46 := by kernel_rfl, a46 := fun _ => by kernel_rfl, z46 := fun _ => by kernel_rfl, v46 := fun _ => by kernel_rfl, t53 := by kernel_rfl, a53 := fun _ => by kernel_rfl, z53 := fun _ => by kernel_rfl, v53 := fun _ => by kernel_rfl }
theorem mul64_c (x y : Nat) (hx : x < 18446744073709551616) (hy : y < 18446744073709551616) (w : World) :
    Calls Try.prog 25 #[.int .u64 x, .int .u64 y] w fun e w' => e = .returned (.tuple #[.int .u64 ((x * y / 18446744073709551616 : Nat) : Int), .int .u64 ((x * y % 18446744073709551616 : Nat) : Int)]) ∧ w' = w :=
  Any.bits_Mul64 laid x y hx hy w

theorem conv_lit4 (w : World) (a b c d : Int) : (convert 45 9 (.slice (some ⟨w.heap.size, 0, none⟩) 4 4)).run Try.prog (w.alloc (.cells #[.int .u8 a, .int .u8 b, .int .u8 c, .int .u8 d] 5)) = .ok (.string (strOfNums [a, b, c, d])) (w.alloc (.cells #[.int .u8 a, .int .u8 b, .int .u8 c, .int .u8 d] 5)) :=
  run_convert_bytes_arg (P := Try.prog) (w := w.alloc (.cells #[.int .u8 a, .int .u8 b, .int .u8 c, .int .u8 d] 5)) 45 5 Try.underlying45 Try.underlying5 w.heap.size 0 4 4 [a, b, c, d] rfl (fun i hi => by
    rw [World.cell?_alloc_new]
    match i, hi with
    | 0, _ => rfl
    | 1, _ => rfl
    | 2, _ => rfl
    | 3, _ => rfl) 9 Try.underlying9
theorem put32_c (x : Nat) (hx : x < 4294967296) (w : World) : Calls Try.prog 13 #[.int .u32 x] w fun e w' => e = .returned (.string (strOfNums (be 4 x))) ∧ Kept (fun i => w.heap.size ≤ i) w w' := by
  have hcv := conv_lit4
  go_enter Try.func13, Try.ntmps13
  go_wp2_with fail
  go_ret
  refine ⟨?_, (Kept.refl _ w).alloc _⟩
  rw [be4, show x / 16777216 % 256 = x / 16777216 from by omega]
  simp
theorem put64_c (x : Nat) (hx : x < 18446744073709551616) (w : World) : Calls Try.prog 15 #[.int .u64 x] w fun e w' => e = .returned (.string (strOfNums (be 8 x))) ∧ Kept (fun i => w.heap.size ≤ i) w w' := by
  have P1 := Lib.hid (put32_c (x / 4294967296) (by omega) w)
  have P2 := Lib.hid (fun w => put32_c (x % 4294967296) (by omega) w)
  have s1 : ∀ y, (strOfNums (be 4 y)).size = 4 := fun y => by rw [strOfNums_size, be_len]
  rw [be8, strOfNums_append]
  go_enter Try.func15, Try.ntmps15
  go_wp2_with fail
  rw [show ((x : Int) / 4294967296) = ((x / 4294967296 : Nat) : Int) from by omega]
  refine P1.out.mono ?_
  rintro e w1 ⟨rfl, K1⟩
  have K := Lib.hid K1
  clear K1
  go_wp2_with fail
  rw [show ((x : Int) % 4294967296) = ((x % 4294967296 : Nat) : Int) from by omega]
  refine (P2.out w1).mono ?_
  rintro e w2 ⟨rfl, K2⟩
  go_wp2_with fail
  go_ret
  exact ⟨rfl, K.out.trans (K2.mono (fun i hi => Nat.le_trans K.out.size hi))⟩
end Go.Proofs.Ytdkbfphpooedaaa.Word
