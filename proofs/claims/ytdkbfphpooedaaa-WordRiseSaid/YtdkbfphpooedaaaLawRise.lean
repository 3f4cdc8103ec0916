/- For all numbers and every degree: Root rises with the number, never with the degree, and of degree one it is the number. The walk. No condition beyond the kinds and the reach. -/
import Derived.Test.YtdkbfphpooedaaaLawc
namespace Go.Proofs.Ytdkbfphpooedaaa.Word.LawRise
set_option linter.unusedVariables false
open Go.RowKit

theorem walk_out (n m k : Int) (w : World) (h : k < 1 ∨ (¬k < 1 ∧ 64 < k)) : Calls Try.prog 10 #[.int .u64 n, .int .u64 m, .int .i64 k] w fun e w' => e = .returned (.bool true) ∧ Below w.heap.size w w' := by
  rcases h with h | ⟨h, h2⟩
  all_goals
    go_enter Try.func10, Try.ntmps10
    go_wp2_with fail
    refine (awake_c w).mono ?_
    rintro e w1 ⟨rfl, B1⟩
    go_wp2_with fail
    refine (awake_c w1).mono ?_
    rintro e w2 ⟨rfl, B2⟩
    go_wp2_with fail
    go_ret
    exact ⟨rfl, step B1 B2⟩
set_option maxHeartbeats 1000000 in
theorem walk_within (n m : Nat) (k : Int) (w : World) (hn : n < 18446744073709551616) (hm : m < 18446744073709551616) (h1 : 1 ≤ k) (h2 : k ≤ 64) : Calls Try.prog 10 #[.int .u64 n, .int .u64 m, .int .i64 k] w fun e w' => e = .returned (.bool true) ∧ Below w.heap.size w w' := by
  have h1' : ¬k < 1 := by omega
  have h2' : ¬64 < k := by omega
  have RN := Lib.hid (root_c n k hn)
  have RM := Lib.hid (root_c m k hm)
  have RK := Lib.hid (root_c n (k + 1) hn)
  have R1 := Lib.hid (root_c n 1 hn)
  have A1 : Hid (∀ r s, RtAt n k r → RtAt m k s → n ≤ m → (r : Int) ≤ s) := fun r s a b h => by
    have := (a.2 h1).mono (b.2 h1) h
    omega
  have A2 : Hid (∀ r s, RtAt n k r → RtAt m k s → m ≤ n → (s : Int) ≤ r) := fun r s a b h => by
    have := (b.2 h1).mono (a.2 h1) h
    omega
  have A3 : Hid (∀ r s, RtAt n k r → RtAt n (k + 1) s → (s : Int) ≤ r) := fun r s a b => by
    have := (a.2 h1).deg (b.2 (by omega)) (by omega)
    omega
  have A4 : Hid (∀ r, RtAt n 1 r → r = n) := fun r a => by
    have := a.2 (by omega)
    exact this.one
  have hc : (n : Int) < m ∨ n = m ∨ ((m : Int) < n) := by omega
  rcases hc with hc | rfl | hc
  · go_enter Try.func10, Try.ntmps10
    go_wp2_with fail
    refine (awake_c w).mono ?_
    rintro e w1 ⟨rfl, B⟩
    go_wp2_with fail
    refine (RN.out w1).mono ?_
    rintro e w2 ⟨⟨r, rfl, hr⟩, rfl⟩
    go_wp2_with fail
    refine (RM.out w2).mono ?_
    rintro e w3 ⟨⟨s, rfl, hs⟩, rfl⟩
    have a1 := A1.out r s hr hs (by omega)
    clear hs
    go_wp2_with fail
    refine (RN.out w3).mono ?_
    rintro e w4 ⟨⟨r', rfl, hr'⟩, rfl⟩
    obtain rfl := hr.uniq hr'
    clear hr'
    go_wp2_with fail
    refine (RK.out w4).mono ?_
    rintro e w5 ⟨⟨t, rfl, ht⟩, rfl⟩
    have a2 := A3.out r t hr ht
    clear ht
    go_wp2_with fail
    refine (R1.out w5).mono ?_
    rintro e w6 ⟨⟨u, rfl, hu⟩, rfl⟩
    obtain rfl := A4.out u hu
    clear hu
    go_wp2_with fail
    go_ret
    exact ⟨by first | rfl | (simp; done), B⟩
  · go_enter Try.func10, Try.ntmps10
    go_wp2_with fail
    refine (awake_c w).mono ?_
    rintro e w1 ⟨rfl, B⟩
    go_wp2_with fail
    refine (RN.out w1).mono ?_
    rintro e w2 ⟨⟨r, rfl, hr⟩, rfl⟩
    go_wp2_with fail
    refine (RM.out w2).mono ?_
    rintro e w3 ⟨⟨s, rfl, hs⟩, rfl⟩
    have a1 := A1.out r s hr hs (by omega)
    clear hs
    go_wp2_with fail
    refine (RN.out w3).mono ?_
    rintro e w4 ⟨⟨r', rfl, hr'⟩, rfl⟩
    obtain rfl := hr.uniq hr'
    clear hr'
    go_wp2_with fail
    refine (RK.out w4).mono ?_
    rintro e w5 ⟨⟨t, rfl, ht⟩, rfl⟩
    have a2 := A3.out r t hr ht
    clear ht
    go_wp2_with fail
    refine (R1.out w5).mono ?_
    rintro e w6 ⟨⟨u, rfl, hu⟩, rfl⟩
    obtain rfl := A4.out u hu
    clear hu
    go_wp2_with fail
    go_ret
    exact ⟨by first | rfl | (simp; done), B⟩
  · have hc' : ¬(n : Int) ≤ m := by omega
    have hc2 : ¬(n : Int) < m := by omega
    go_enter Try.func10, Try.ntmps10
    go_wp2_with fail
    refine (awake_c w).mono ?_
    rintro e w1 ⟨rfl, B⟩
    go_wp2_with fail
    refine (RM.out w1).mono ?_
    rintro e w2 ⟨⟨s, rfl, hs⟩, rfl⟩
    go_wp2_with fail
    refine (RN.out w2).mono ?_
    rintro e w3 ⟨⟨r, rfl, hr⟩, rfl⟩
    have a1 := A2.out r s hr hs (by omega)
    clear hs
    go_wp2_with fail
    refine (RN.out w3).mono ?_
    rintro e w4 ⟨⟨r', rfl, hr'⟩, rfl⟩
    obtain rfl := hr.uniq hr'
    clear hr'
    go_wp2_with fail
    refine (RK.out w4).mono ?_
    rintro e w5 ⟨⟨t, rfl, ht⟩, rfl⟩
    have a2 := A3.out r t hr ht
    clear ht
    go_wp2_with fail
    refine (R1.out w5).mono ?_
    rintro e w6 ⟨⟨u, rfl, hu⟩, rfl⟩
    obtain rfl := A4.out u hu
    clear hu
    go_wp2_with fail
    go_ret
    exact ⟨by first | rfl | (simp; done), B⟩
theorem walk (n m k : Int) (w : World) (hn : (Lit.int .u64 n).wf = true) (hm : (Lit.int .u64 m).wf = true) (hk : (Lit.int .i64 k).wf = true) : Calls Try.prog 10 #[.int .u64 n, .int .u64 m, .int .i64 k] w fun e w' => e = .returned (.bool true) ∧ Below w.heap.size w w' := by
  obtain ⟨hn0, hn1⟩ := wf_u64 hn
  obtain ⟨hm0, hm1⟩ := wf_u64 hm
  by_cases h : k < 1 ∨ (¬k < 1 ∧ 64 < k)
  · exact walk_out n m k w h
  · obtain ⟨n, rfl⟩ : ∃ p : Nat, n = p := ⟨n.toNat, by omega⟩
    obtain ⟨m, rfl⟩ : ∃ p : Nat, m = p := ⟨m.toNat, by omega⟩
    exact walk_within n m k w (by omega) (by omega) (by omega) (by omega)
end Go.Proofs.Ytdkbfphpooedaaa.Word.LawRise
