/- For every word and every number: Turn gives the document's word, and turned back it is the word again. The walk. No condition beyond the kinds and the reach. -/
import Derived.Test.YtdkbfphpooedaaaLawc
namespace Go.Proofs.Ytdkbfphpooedaaa.Word.LawTurns
set_option linter.unusedVariables false
open Go.RowKit

set_option maxHeartbeats 1000000 in
theorem walk (x n : Int) (w : World) (hx : (Lit.int .u32 x).wf = true) (hn : (Lit.int .i64 n).wf = true) : Calls Try.prog 4 #[.int .u32 x, .int .i64 n] w fun e w' => e = .returned (.bool true) ∧ Below w.heap.size w w' := by
  obtain ⟨hx0, hx1⟩ := wf_u32 hx
  obtain ⟨hn0, hn1⟩ := wf_i64 hn
  clear hx hn
  obtain ⟨x, rfl⟩ : ∃ m : Nat, x = m := ⟨x.toNat, by omega⟩
  have hX : x < 4294967296 := by omega
  obtain ⟨t, ht⟩ : ∃ t, n.tmod 32 = t := ⟨_, rfl⟩
  have hb : -31 ≤ t ∧ t ≤ 31 ∧ (t % 32).toNat = (n % 32).toNat ∧ (n % 32).toNat < 32 := by
    subst ht
    rcases Int.lt_or_le n 0 with h | h
    · have e : n.tmod 32 = -((-n) % 32) := by
        rw [← Int.tmod_eq_emod_of_nonneg (a := -n) (by omega), Int.neg_tmod, Int.neg_neg]
      omega
    · have e : n.tmod 32 = n % 32 := Int.tmod_eq_emod_of_nonneg h
      omega
  obtain ⟨b1, b2, b3, b4⟩ := hb
  have T1 := Lib.hid (fun w => turn_c x n hX w)
  have T2 := Lib.hid (fun w => rturn_c x n hX w)
  have T3 := fun w => turn_c x t hX w
  have b5 : ((32 - t) % 32).toNat = (32 - (n % 32).toNat) % 32 := by omega
  have hR := rot_lt x (n % 32).toNat hX b4
  have T4 := fun w => turn_c (rot x (n % 32).toNat) (32 - t) hR w
  rw [b3] at T3
  rw [b5, rot_rot x _ _ hX b4 (Nat.mod_lt _ (by decide)), show ((n % 32).toNat + (32 - (n % 32).toNat) % 32) % 32 = 0 from by omega, rot_zero x hX] at T4
  have T3 := Lib.hid T3
  have T4 := Lib.hid T4
  clear b3 b5 hR b4
  generalize (n % 32).toNat = r at T1 T2 T3 T4
  generalize rot x r = y at T1 T2 T3 T4
  go_enter Try.func4, Try.ntmps4
  go_wp2_with fail
  refine (T1.out w).mono ?_
  rintro e w1 ⟨rfl, rfl⟩
  go_wp2_with fail
  refine (awake_c w1).mono ?_
  rintro e w2 ⟨rfl, B⟩
  go_wp2_with fail
  refine (T2.out w2).mono ?_
  rintro e w3 ⟨rfl, rfl⟩
  go_wp2_with fail
  refine (T4.out w3).mono ?_
  rintro e w4 ⟨rfl, rfl⟩
  go_wp2_with fail
  refine (T3.out w4).mono ?_
  rintro e w5 ⟨rfl, rfl⟩
  go_wp2_with fail
  go_ret
  exact ⟨by first | rfl | (simp; done), B⟩
end Go.Proofs.Ytdkbfphpooedaaa.Word.LawTurns
