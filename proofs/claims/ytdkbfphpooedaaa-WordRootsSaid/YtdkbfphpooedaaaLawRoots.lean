/- For every number and every degree: Root is the document's root; its power is at most the number, the next one's is greater. The walk. No condition beyond the kinds and the reach. -/
import Derived.Test.YtdkbfphpooedaaaLawc
namespace Go.Proofs.Ytdkbfphpooedaaa.Word.LawRoots
set_option linter.unusedVariables false
open Go.RowKit

theorem walk_out (n : Nat) (k : Int) (w : World) (hn : n < 18446744073709551616) (h : k < 1 ∨ (¬k < 1 ∧ 64 < k)) : Calls Try.prog 7 #[.int .u64 n, .int .i64 k] w fun e w' => e = .returned (.bool true) ∧ Below w.heap.size w w' := by
  have R := Lib.hid (root_c n k hn)
  have S := Lib.hid (rroot_c n k hn)
  rcases h with h | ⟨h, h2⟩
  all_goals
    go_enter Try.func7, Try.ntmps7
    go_wp2_with fail
    refine (R.out w).mono ?_
    rintro e w1 ⟨⟨r, rfl, hr⟩, rfl⟩
    go_wp2_with fail
    refine (awake_c w1).mono ?_
    rintro e w2 ⟨rfl, B⟩
    go_wp2_with fail
    refine (S.out w2).mono ?_
    rintro e w3 ⟨⟨s, rfl, hs⟩, rfl⟩
    obtain rfl := hr.uniq hs
    have q1 : ((r : Int) != (r : Int)) = false := by simp
    go_wp2_with fail
    refine (awake_c w3).mono ?_
    rintro e w4 ⟨rfl, B2⟩
    go_wp2_with fail
    refine (S.out w4).mono ?_
    rintro e w5 ⟨⟨s, rfl, hs2⟩, rfl⟩
    obtain rfl := hr.uniq hs2
    go_wp2_with fail
    go_ret
    exact ⟨by first | rfl | (simp; done), step B B2⟩
set_option maxHeartbeats 1000000 in
theorem walk_within (n K : Nat) (w : World) (hn : n < 18446744073709551616) (h1 : 1 ≤ K) (h2 : K ≤ 64) : Calls Try.prog 7 #[.int .u64 n, .int .i64 K] w fun e w' => e = .returned (.bool true) ∧ Below w.heap.size w w' := by
  have R := Lib.hid (root_c n K hn)
  have S := Lib.hid (rroot_c n K hn)
  have P := Lib.hid (fun r hr => power_c r K n hr hn h2)
  have h3 : ¬(K : Int) < 1 := by omega
  have h4 : ¬(64 : Int) < (K : Int) := by omega
  have h5 : (min (K : Int) 64).toNat = K := by omega
  have H5 := Lib.hid h5
  clear h5
  go_enter Try.func7, Try.ntmps7
  go_wp2_with fail
  refine (R.out w).mono ?_
  rintro e w1 ⟨⟨r, rfl, hr⟩, rfl⟩
  go_wp2_with fail
  refine (awake_c w1).mono ?_
  rintro e w2 ⟨rfl, B⟩
  go_wp2_with fail
  refine (S.out w2).mono ?_
  rintro e w3 ⟨⟨s, rfl, hs⟩, rfl⟩
  obtain rfl := hr.uniq hs
  have q1 : ((r : Int) != (r : Int)) = false := by simp
  have hle := hr.le
  have hrt := hr.2 (by omega)
  rw [H5.out] at hrt
  have P1 := P.out r (by omega) w3
  rw [decide_eq_true hrt.1] at P1
  have P1 := Lib.hid P1
  have HRT := Lib.hid hrt
  clear hr hs hrt
  go_wp2_with fail
  refine P1.out.mono ?_
  rintro e w4 ⟨⟨v, rfl⟩, rfl⟩
  by_cases hm : r = 18446744073709551615
  · have q2 : ((r : Int) == 18446744073709551615) = true := by simp; omega
    clear hm
    go_wp2_with fail
    go_ret
    exact ⟨by first | rfl | (simp; done), B⟩
  · have q2 : ((r : Int) == 18446744073709551615) = false := by simp; omega
    have q3 : (r : Int) ≤ 18446744073709551614 := by omega
    have P2 := P.out (r + 1) (by omega) w4
    rw [decide_eq_false (Nat.not_le_of_lt HRT.out.2)] at P2
    have P2 := Lib.hid P2
    clear hm
    go_wp2_with fail
    refine P2.out.mono ?_
    rintro e w5 ⟨⟨v2, rfl⟩, rfl⟩
    go_wp2_with fail
    go_ret
    exact ⟨by first | rfl | (simp; done), B⟩
theorem walk (n k : Int) (w : World) (hn : (Lit.int .u64 n).wf = true) (hk : (Lit.int .i64 k).wf = true) : Calls Try.prog 7 #[.int .u64 n, .int .i64 k] w fun e w' => e = .returned (.bool true) ∧ Below w.heap.size w w' := by
  obtain ⟨hn0, hn1⟩ := wf_u64 hn
  obtain ⟨n, rfl⟩ : ∃ p : Nat, n = p := ⟨n.toNat, by omega⟩
  by_cases h : k < 1 ∨ (¬k < 1 ∧ 64 < k)
  · exact walk_out n k w (by omega) h
  · obtain ⟨K, rfl⟩ : ∃ p : Nat, k = p := ⟨k.toNat, by omega⟩
    exact walk_within n K w (by omega) (by omega) (by omega)
end Go.Proofs.Ytdkbfphpooedaaa.Word.LawRoots
