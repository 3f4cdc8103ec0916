/- What the laws share: words in bytes. -/
import Derived.Test.YtdkbfphpooedaaaAwake
namespace Go.Proofs.Ytdkbfphpooedaaa.Word
set_option linter.unusedVariables false
open Go.RowKit

theorem wf_u64 {n : Int} (h : (Lit.int .u64 n).wf = true) : 0 ≤ n ∧ n < 18446744073709551616 := by
  simp [Lit.wf, IntKind.min, IntKind.max, IntKind.signed, IntKind.bits] at h
  omega
theorem wf_u32 {n : Int} (h : (Lit.int .u32 n).wf = true) : 0 ≤ n ∧ n < 4294967296 := by
  simp [Lit.wf, IntKind.min, IntKind.max, IntKind.signed, IntKind.bits] at h
  omega
theorem wf_i64 {n : Int} (h : (Lit.int .i64 n).wf = true) : -9223372036854775808 ≤ n ∧ n ≤ 9223372036854775807 := by
  simp [Lit.wf, IntKind.min, IntKind.max, IntKind.signed, IntKind.bits] at h
  omega
theorem four (s : ByteArray) (k : Nat) (h : k + 4 ≤ s.size) : ((bl s).drop k).take 4 = [((s[k]'(by omega)).toNat : Int), ((s[k+1]'(by omega)).toNat : Int), ((s[k+2]'(by omega)).toNat : Int), ((s[k+3]'(by omega)).toNat : Int)] := by
  rw [bl_drop s k (by omega), bl_drop s (k + 1) (by omega), bl_drop s (k + 1 + 1) (by omega), bl_drop s (k + 1 + 1 + 1) (by omega)]
  rfl
theorem wd_of (s : ByteArray) (k : Nat) (h : k + 4 ≤ s.size) (x : Nat) (hx : x < 4294967296) (he : ((bl s).drop k).take 4 = be 4 x) : wd (s[k]'(by omega)).toNat (s[k+1]'(by omega)).toNat (s[k+2]'(by omega)).toNat (s[k+3]'(by omega)).toNat = x := by
  rw [four s k h, be4] at he
  injection he with h1 he
  injection he with h2 he
  injection he with h3 he
  injection he with h4 he
  rw [Int.ofNat.inj h1, Int.ofNat.inj h2, Int.ofNat.inj h3, Int.ofNat.inj h4]
  exact wd_be x hx
theorem bl_extract (s : ByteArray) (k : Nat) : bl (s.extract k (k + 4)) = ((bl s).drop k).take 4 := by
  unfold bl
  rw [ByteArray.data_extract, Array.toList_extract, List.extract_eq_take_drop, List.map_take, List.map_drop]
  simp
theorem be_of (s : ByteArray) (k : Nat) (h : k + 4 ≤ s.size) : strOfNums (be 4 (wd (s[k]'(by omega)).toNat (s[k+1]'(by omega)).toNat (s[k+2]'(by omega)).toNat (s[k+3]'(by omega)).toNat)) = s.extract k (k + 4) := by
  rw [be_wd (UInt8.toNat_lt _) (UInt8.toNat_lt _) (UInt8.toNat_lt _) (UInt8.toNat_lt _), ← four s k h, ← bl_extract, strOfNums_bl]
theorem be_byte (k x : Nat) : ∀ b ∈ be k x, Byte b := by
  induction k generalizing x with
  | zero => intro b hb; simp [be] at hb
  | succ k ih =>
    intro b hb
    rw [be, List.mem_append] at hb
    rcases hb with hb | hb
    · exact ih _ b hb
    · simp at hb
      subst hb
      constructor <;> omega
theorem bl_append (a b : ByteArray) : bl (a ++ b) = bl a ++ bl b := by
  simp [bl, ByteArray.data_append]
end Go.Proofs.Ytdkbfphpooedaaa.Word
