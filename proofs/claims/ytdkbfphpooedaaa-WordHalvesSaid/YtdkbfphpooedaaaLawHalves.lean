/- For every number: its eight bytes are the four of its upper half and the four of its lower half, and both are read again. The walk. No condition beyond the kinds and the reach. -/
import Derived.Test.YtdkbfphpooedaaaLawc
namespace Go.Proofs.Ytdkbfphpooedaaa.Word.LawHalves
set_option linter.unusedVariables false
open Go.RowKit

set_option maxHeartbeats 1000000 in
theorem walk (x : Int) (w : World) (hx : (Lit.int .u64 x).wf = true) : Calls Try.prog 9 #[.int .u64 x] w fun e w' => e = .returned (.bool true) ∧ Below w.heap.size w w' := by
  obtain ⟨hx0, hx1⟩ := wf_u64 hx
  clear hx
  obtain ⟨x, rfl⟩ : ∃ m : Nat, x = m := ⟨x.toNat, by omega⟩
  have hX : x < 18446744073709551616 := by omega
  obtain ⟨H, hH⟩ : ∃ H, H = x / 4294967296 := ⟨_, rfl⟩
  obtain ⟨L, hL⟩ : ∃ L, L = x % 4294967296 := ⟨_, rfl⟩
  have hH2 : H < 4294967296 := by omega
  have hL2 : L < 4294967296 := by omega
  have e1 : (x : Int) / 4294967296 = (H : Int) := by omega
  have e2 : (x : Int) % 4294967296 = (L : Int) := by omega
  have eo : bits .or .u64 ((H : Int) * 4294967296) (L : Int) = (x : Int) := by
    rw [show (H : Int) * 4294967296 = ((H * 4294967296 : Nat) : Int) from by omega, u64_or_nat _ _ (by omega) (by omega), nat_join 32 _ _ (by omega) (by omega)]
    omega
  have P0 := put64_c x hX
  rw [be8, ← hH, ← hL, strOfNums_append] at P0
  have P0 := Lib.hid P0
  have P1 := Lib.hid (put32_c H hH2)
  have P2 := Lib.hid (put32_c L hL2)
  have hp1 : (strOfNums (be 4 H)).size = 4 := by rw [strOfNums_size, be_len]
  have hp2 : (strOfNums (be 4 L)).size = 4 := by rw [strOfNums_size, be_len]
  have hs : (strOfNums (be 4 H) ++ strOfNums (be 4 L)).size = 8 := by rw [ByteArray.size_append, hp1, hp2]
  have G1 : Hid (∀ w, Calls Try.prog 12 #[.string (strOfNums (be 4 H) ++ strOfNums (be 4 L)), .int .i64 0] w fun e w' => e = .returned (.tuple #[.int .u32 H, .bool true]) ∧ Kept (fun _ => False) w w') := fun w => by
    refine (get32_ok (strOfNums (be 4 H) ++ strOfNums (be 4 L)) 0 w (by omega) (by omega)).mono ?_
    rintro e w' ⟨rfl, K⟩
    rw [wd_of _ 0 (by omega) H hH2 ?_]
    · exact ⟨rfl, K⟩
    · rw [bl_append, bl_strOfNums _ (be_byte 4 H), List.drop_zero, List.take_left' (be_len 4 H)]
  have G2 : Hid (∀ w, Calls Try.prog 12 #[.string (strOfNums (be 4 H) ++ strOfNums (be 4 L)), .int .i64 4] w fun e w' => e = .returned (.tuple #[.int .u32 L, .bool true]) ∧ Kept (fun _ => False) w w') := fun w => by
    refine (get32_ok (strOfNums (be 4 H) ++ strOfNums (be 4 L)) 4 w (by omega) (by omega)).mono ?_
    rintro e w' ⟨rfl, K⟩
    rw [wd_of _ 4 (by omega) L hL2 ?_]
    · exact ⟨rfl, K⟩
    · rw [bl_append, bl_strOfNums _ (be_byte 4 H), bl_strOfNums _ (be_byte 4 L), List.drop_left' (be_len 4 H), List.take_of_length_le (by rw [be_len]; omega)]
  clear hH hL hs
  generalize strOfNums (be 4 H) = p1 at P0 P1 G1 G2 hp1
  generalize strOfNums (be 4 L) = p2 at P0 P2 G1 G2 hp2
  go_enter Try.func9, Try.ntmps9
  go_wp2_with fail
  refine (P0.out w).mono ?_
  rintro e w1 ⟨rfl, K⟩
  have K1 := Lib.hid K
  have h1 := K.size
  clear K
  go_wp2_with fail
  refine (G1.out w1).mono ?_
  rintro e w2 ⟨rfl, K⟩
  have K2 := Lib.hid (kup K1.out K (fun i h => h.elim))
  clear K
  go_wp2_with fail
  refine (G2.out w2).mono ?_
  rintro e w3 ⟨rfl, K⟩
  have K3 := Lib.hid (kup K2.out K (fun i h => h.elim))
  have h3 := K3.out.size
  clear K
  go_wp2_with fail
  refine (awake_c w3).mono ?_
  rintro e w4 ⟨rfl, B⟩
  have K4 := Lib.hid (K3.out.trans (Kept.of_below B (fun i => w.heap.size ≤ i)))
  have h4 := K4.out.size
  clear B
  go_wp2_with fail
  refine (P1.out w4).mono ?_
  rintro e w5 ⟨rfl, K⟩
  have K5 := Lib.hid (K4.out.trans (K.mono (fun i hi => Nat.le_trans h4 hi)))
  have h5 := K5.out.size
  clear K
  go_wp2_with fail
  refine (P2.out w5).mono ?_
  rintro e w6 ⟨rfl, K⟩
  have K6 := Lib.hid (K5.out.trans (K.mono (fun i hi => Nat.le_trans h5 hi)))
  clear K
  go_wp2_with fail
  go_ret
  exact ⟨by first | rfl | (simp; done), Kept.below (Below.refl _ w) K6.out (fun i h => h)⟩
end Go.Proofs.Ytdkbfphpooedaaa.Word.LawHalves
