/- The document's Put, for every number and up to eight bytes. -/
import Derived.Test.YtdkbfphpooedaaaOne
namespace Go.Proofs.Ytdkbfphpooedaaa.Word
set_option linter.unusedVariables false
open Go.RowKit

set_option maxHeartbeats 1000000 in
theorem rput_c (n X : Nat) (hn : n ≤ 8) (hX : X < 18446744073709551616) (w : World) : Calls Try.prog 14 #[.int .u64 X, .int .i64 n] w fun e w' => e = .returned (.string (strOfNums (be n X))) ∧ Kept (fun i => w.heap.size ≤ i) w w' := by
  have HB := Lib.hid (Bs.lit w [] (by simp))
  have K0 := Lib.hid ((Kept.refl (fun i => w.heap.size ≤ i) w).alloc (.cells #[] 5))
  obtain ⟨i0, hi0, hz0, hz1, hz2⟩ := info_parts info5
  have HX := Lib.hid hX
  clear hX
  go_enter Try.func14, Try.ntmps14
  go_wp2_with fail
  go_loopw [0, 5, 6] (fun x v i wr => ∃ (m k : Nat) (l : List Int), x = .int .u64 m ∧ i = .int .i64 k ∧ k ≤ n ∧ m < 18446744073709551616 ∧ l.length = k ∧ be (n - k) m ++ l = be n X ∧ Bs wr w.heap.size v l ∧ w.heap.size ≤ wr.heap.size ∧ Kept (fun i => w.heap.size ≤ i) w wr) (fun _ _ i _ => n - (intOf i).toNat)
  case atStart => exact ⟨X, 0, [], rfl, rfl, by omega, HX.out, rfl, by simp, HB.out, by simp, K0.out⟩
  case round =>
    obtain ⟨m, k, l, rfl, rfl, hk, hm, hll, hl, B, hz, K⟩ := hrel
    have HM := Lib.hid hm
    have HL := Lib.hid hl
    have HLL := Lib.hid hll
    have HBB := Lib.hid B
    have K1 := Lib.hid K
    clear hl hll B K HB K0
    by_cases h0 : k < n
    · have h1 : (k : Int) < (n : Int) := by omega
      have h2 : (k : Int) + 1 ≤ 9223372036854775807 := by omega
      obtain ⟨g, cap, rfl, hb, hg, hlc, hc, hcell⟩ := HBB.out.at_
      have BL := Bs.lit wr [(m : Int) % 256] (by simp)
      have HC := Lib.hid hcell
      clear hcell
      go_wp2_with (at_builtin; refine wpList_append_own _ rfl (.tmp 16) (.tmp 17) 45 rfl w.heap.size 5 i0 (.int .u8 0) 1 1 Try.underlying45 hi0 hz0 hz1 hz2 rfl (by decide) _ 1 [.int .u8 ((m : Int) % 256)] rfl (BL.lower hz).own ⟨g, 0, none⟩ l.length cap (l.map (Value.int .u8)) rfl (by simp) ?c1 ?c2 ?c3 ?c4 ?c5 ?_)
      case c1 =>
        intro j u hj
        have h1 := HC.out j u hj
        rw [add_plain, Nat.zero_add]
        rw [World.cell?_alloc_lt _ _ _ hg]
        exact h1
      case c2 => intro u hu; simp at hu; obtain ⟨b, _, rfl⟩ := hu; rfl
      case c3 => have := HLL.out; unfold maxLen; omega
      case c4 => have := HLL.out; omega
      case c5 => have := HLL.out; simp; omega
      intro v' w1 ho1 hg1 hn1
      have K2 : Kept (fun i => w.heap.size ≤ i) wr w1 := own_kept (BL.lower hz).own ((Kept.refl _ wr).alloc _) hg1
      have K3 := Lib.hid (K1.out.trans K2)
      have B1 : Hid (Bs w1 w.heap.size v' (((m : Int) % 256) :: l)) := ⟨by
        rw [Nat.add_comm] at ho1
        exact ho1, fun h => hn1 h⟩
      have hz1' := Nat.le_trans hz K2.size
      have HP : Hid (be (n - (k + 1)) (m / 256) ++ (((m : Int) % 256) :: l) = be n X) := by
        show be (n - (k + 1)) (m / 256) ++ (((m : Int) % 256) :: l) = be n X
        rw [← HL.out, show n - k = (n - (k + 1)) + 1 from by omega, be]
        simp
      clear ho1 hg1 hn1 K2 BL
      go_wp2_with fail
      go_roundw
      case rel => exact ⟨m / 256, k + 1, ((m : Int) % 256) :: l, by go_num, by go_num, by omega, by have := HM.out; omega, by have := HLL.out; simp; omega, HP.out, B1.out, hz1', K3.out⟩
      case measure => simp [intOf]; omega
    · obtain rfl : k = n := by omega
      have h1 : ¬(k : Int) < (k : Int) := by omega
      obtain ⟨g, cap, rfl, hcv⟩ := HBB.out.text
      go_wp2_with fail
      go_ret
      have := HL.out
      rw [Nat.sub_self, be, List.nil_append] at this
      rw [← this]
      exact ⟨rfl, K1.out⟩
end Go.Proofs.Ytdkbfphpooedaaa.Word
