/- For every number: Primes lists just so many of the first prime numbers, a thousand at most. The walk. No condition beyond the kinds and the reach. -/
import Derived.Test.YtdkbfphpooedaaaLawc
namespace Go.Proofs.Ytdkbfphpooedaaa.Word.LawPrimes
set_option linter.unusedVariables false
open Go.RowKit

set_option maxRecDepth 10000 in
set_option maxHeartbeats 2000000 in
theorem walk (n : Int) (w : World) (hn : (Lit.int .i64 n).wf = true) : Calls Try.prog 8 #[.int .i64 n] w fun e w' => e = .returned (.bool true) ∧ Below w.heap.size w w' := by
  clear hn
  go_enter Try.func8, Try.ntmps8
  go_wp2_with fail
  refine (primes_c n w).mono ?_
  rintro e w1 ⟨v, X, rfl, hX, hlen, N, K⟩
  have HX := Lib.hid hX
  have K1 := Lib.hid K
  have hz1 := K.size
  have N1 := Lib.hid N
  obtain ⟨A, cap, rfl⟩ := N.form
  obtain ⟨L, hL⟩ : ∃ L, L = (ps X).length := ⟨_, rfl⟩
  rw [← hL] at hlen ⊢
  have hL3 : L ≤ 1000 := by omega
  have hcase : (n < 0 ∧ ((L : Int) != 0) = false) ∨ (n = 0 ∧ ((L : Int) != 0) = false) ∨ (0 < n ∧ n ≤ 1000 ∧ ((L : Int) != n) = false) ∨ (1000 < n ∧ 0 < n ∧ ((L : Int) != 1000) = false) := by
    rcases Int.lt_trichotomy n 0 with h | h | h
    · exact .inl ⟨h, by simp; omega⟩
    · exact .inr (.inl ⟨h, by simp; omega⟩)
    · by_cases h2 : n ≤ 1000
      · exact .inr (.inr (.inl ⟨h, h2, by simp; omega⟩))
      · exact .inr (.inr (.inr ⟨by omega, h, by simp; omega⟩))
  have HL := Lib.hid hL
  clear hX K N hlen hL
  rcases hcase with ⟨c1, c2⟩ | ⟨rfl, c2⟩ | ⟨c1, c2, c3⟩ | ⟨c1, c2, c3⟩
  all_goals
    go_wp2_with fail
    refine (awake_c w1).mono ?_
    rintro e w2 ⟨rfl, B⟩
    have K2 := Lib.hid (K1.out.trans (Kept.of_below B (fun i => w.heap.size ≤ i)))
    have N2 := N1.out.old (Kept.of_below B (fun _ => False)) (fun i h => h.elim)
    have HA : Hid (∀ j, j < L → ∃ g, A = some ⟨g, 0, none⟩ ∧ w2.cell? ⟨g, j, none⟩ = some (.int .u64 (((ps X).getD j 0 : Nat) : Int))) := fun j hj => by
      have hL := HL.out
      rw [← hL] at N2
      obtain ⟨A', cap', e, HA⟩ := N2.arcs (fun p hp => by have := (ps_mem.1 hp).1; have := HX.out; omega)
      injection e with e1 e2 e3
      subst e1
      obtain ⟨g, o, rfl, _, hc⟩ := HA.plain (by omega)
      have ho : o = 0 := by
        rcases N2.own.2 with ⟨h0, _⟩ | ⟨g', cap2, cur, h0, _⟩
        · injection h0 with h1
          exact absurd h1 (by simp)
        · injection h0 with h1
          injection h1 with h1
          injection h1 with h1 h2
      subst ho
      exact ⟨g, rfl, by have := hc j (by omega); rw [Nat.zero_add] at this; exact this⟩
    clear B N2
    go_wp2_with fail
    go_loopw [4, 5] (fun a x w3 => ∃ y t : Nat, x = .int .u64 y ∧ a = .int .i64 t ∧ y ≤ 9000 ∧ t = (ps y).length ∧ t ≤ L ∧ w3 = w2) (fun _ x _ => 9000 - (intOf x).toNat)
    case atStart => exact ⟨0, 0, rfl, rfl, by omega, rfl, by omega, rfl⟩
    case round =>
      obtain ⟨y, t, rfl, rfl, hy, ht, htL, rfl⟩ := hrel
      by_cases h0 : t < L
      · have h1 : (t : Int) < (L : Int) := by omega
        have hy2 : y < 9000 := by
          apply Decidable.byContradiction
          intro h
          have h3 := ps_len_mono (show 7920 ≤ y by omega)
          rw [ps_all] at h3
          omega
        have hy3 : (y : Int) < 9000 := by omega
        have PC := Lib.hid (prime_c y (by omega))
        have HT := Lib.hid ht
        by_cases hp : isP y = true
        · obtain ⟨g, rfl, c0⟩ := HA.out t h0
          rw [ht, ps_at hp (by rw [← ht, ← HL.out]; exact h0), ← ht] at c0
          have hnx : t + 1 = (ps (y + 1)).length := by rw [ps_succ, if_pos hp, List.length_append, ← ht]; rfl
          have HNX := Lib.hid hnx
          rw [hp] at PC
          have q1 : ((y : Int) != (y : Int)) = false := by simp
          clear ht hnx hp
          go_wp2_with fail
          refine (PC.out _).mono ?_
          rintro e w4 ⟨rfl, rfl⟩
          go_wp2_with fail
          go_roundw
          case rel => exact ⟨y + 1, t + 1, by go_num, by go_num, by omega, HNX.out, by omega, by first | rfl | trivial⟩
          case measure => simp [intOf] <;> omega
        · rw [Bool.not_eq_true] at hp
          have hnx : t = (ps (y + 1)).length := by rw [ps_succ, if_neg (by rw [hp]; decide), ← ht]
          have HNX := Lib.hid hnx
          rw [hp] at PC
          clear ht hnx hp
          go_wp2_with fail
          refine (PC.out _).mono ?_
          rintro e w4 ⟨rfl, rfl⟩
          go_wp2_with fail
          go_roundw
          case rel => exact ⟨y + 1, t, by go_num, by go_num, by omega, HNX.out, by omega, by first | rfl | trivial⟩
          case measure => simp [intOf] <;> omega
      · obtain rfl : t = L := by omega
        have h1 : ¬(t : Int) < (t : Int) := by omega
        clear ht
        go_wp2_with fail
        go_ret
        exact ⟨by first | rfl | (simp; done), Kept.below (Below.refl _ w) K2.out (fun i h => h)⟩
end Go.Proofs.Ytdkbfphpooedaaa.Word.LawPrimes
