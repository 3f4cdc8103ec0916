/-
  For every whole number n: the bytes that the program puts for the length n, and its error, are those of the reference. No condition beyond the kind of n.
-/
import Derived.Test.YtcomechollegfaaPLengthPutsx2
import Derived.Test.YtcomechollegfaaNum
namespace Go.Proofs.Ytcomechollegfaa.Pure
open Go.RowKit Go.Proofs.Ytcomechollegfaa.PLengthPuts Go.Proofs.YtcomechollegfaaW.PrintWords Go.Proofs.YtcomechollegfaaW.PrintLast Go.Proofs.Ytcomechollegfaa.Num

theorem put_loop (f : Nat) : ∀ (k : Nat) (x : Int) (acc : List Int), 0 ≤ x → x < 256 ^ f → f < k → acc.length + f ≤ 8 →
    length_Put.l0 k x acc = some (strOfNums [128 + ((acc.length + cnt f x : Nat) : Int)] ++ strOfNums (digN (cnt f x) x ++ acc), 0) := by
  have last : ∀ (k : Nat) (x : Int) (acc : List Int), x = 0 → 0 < k → acc.length ≤ 8 → length_Put.l0 k x acc = some (strOfNums [128 + (acc.length : Int)] ++ strOfNums acc, 0) := by
    intro k x acc hx hk hl
    obtain ⟨k, rfl⟩ : ∃ m, k = m + 1 := ⟨k - 1, by omega⟩
    simp only [length_Put.l0]
    rw [if_neg (by omega)]
    simp only [Option.bind_some]
    rw [or128 _ (by omega), if_pos (by simp only [strOfNums_size, List.length_singleton]; omega)]
  induction f with
  | zero =>
    intro k x acc h0 h1 hk hl
    have e : x = 0 := by simp at h1; omega
    rw [last k x acc e (by omega) (by omega)]
    simp [cnt, digN]
  | succ f ih =>
    intro k x acc h0 h1 hk hl
    by_cases hx : x > 0
    · obtain ⟨k, rfl⟩ : ∃ m, k = m + 1 := ⟨k - 1, by omega⟩
      simp only [length_Put.l0]
      rw [if_pos hx]
      simp only [Option.bind_some]
      rw [Int.pow_succ] at h1
      rw [if_pos (by simp; omega), ih k (x / 256) _ (by omega) (by omega) (by omega) (by simp; omega)]
      simp only [cnt]
      rw [if_pos hx]
      simp only [digN, List.length_append, List.length_singleton, List.append_assoc]
      have e : 1 + acc.length + cnt f (x / 256) = acc.length + (cnt f (x / 256) + 1) := by omega
      rw [e]
    · have e : x = 0 := by omega
      rw [last k x acc e (by omega) (by omega)]
      subst e
      simp [cnt, digN]

theorem put_tells (n : Int) (k : Nat) (hk : 12 ≤ k) : length_Put.f k n = some (putS n) := by
  obtain ⟨k, rfl⟩ : ∃ m, k = m + 1 := ⟨k - 1, by omega⟩
  unfold length_Put.f putS
  by_cases h0 : n < 0
  · rw [if_pos h0, if_pos (Or.inl h0)]
    simp only [length_Put.j0]
    rw [if_pos trivial]
  · rw [if_neg h0]
    simp only [length_Put.j0]
    by_cases h1 : n > 2305843009213693951
    · rw [if_pos (by simpa using h1), if_pos (Or.inr h1)]
    · rw [if_neg (by simpa using h1), if_neg (show ¬(n < 0 ∨ n > 2305843009213693951) by omega)]
      by_cases h2 : n < 128
      · rw [if_pos h2, if_pos h2]
      · rw [if_neg h2, if_neg h2, put_loop 8 k n [] (by omega) (by omega) (by omega) (by simp)]
        simp

theorem awake_tells (k : Nat) (hk : 16 ≤ k) : gantletlaw06_awake.f k = some true := at_rounds gantletlaw06_awake.mono hk (by kernel_rfl)

theorem ref_loop (f : Nat) : ∀ (k : Nat) (x : Int) (acc : List Int), 0 ≤ x → x < 256 ^ f → x ≤ 2305843009213693951 → f < k → acc.length + f ≤ 8 →
    gantletref06_Put.l0 k x acc = some (strOfNums [128 + ((acc.length + cnt f x : Nat) : Int)] ++ strOfNums (digN (cnt f x) x ++ acc), 0) := by
  have last : ∀ (k : Nat) (x : Int) (acc : List Int), x = 0 → 0 < k → acc.length ≤ 8 → gantletref06_Put.l0 k x acc = some (strOfNums [128 + (acc.length : Int)] ++ strOfNums acc, 0) := by
    intro k x acc hx hk hl
    obtain ⟨k, rfl⟩ : ∃ m, k = m + 1 := ⟨k - 1, by omega⟩
    simp only [gantletref06_Put.l0]
    rw [if_neg (by omega)]
    simp only [Option.bind_some]
    rw [show wrap64 (128 + (acc.length : Int)) % 256 = 128 + (acc.length : Int) from by unfold wrap64; omega, if_pos (by simp only [strOfNums_size, List.length_singleton]; omega)]
  induction f with
  | zero =>
    intro k x acc h0 h1 hm hk hl
    have e : x = 0 := by simp at h1; omega
    rw [last k x acc e (by omega) (by omega)]
    simp [cnt, digN]
  | succ f ih =>
    intro k x acc h0 h1 hm hk hl
    by_cases hx : x > 0
    · obtain ⟨k, rfl⟩ : ∃ m, k = m + 1 := ⟨k - 1, by omega⟩
      simp only [gantletref06_Put.l0]
      rw [if_pos hx]
      simp only [Option.bind_some]
      rw [Int.pow_succ] at h1
      rw [Int.tdiv_eq_ediv_of_nonneg h0, Int.tmod_eq_emod_of_nonneg h0, show wrap64 (x / 256) = x / 256 from by unfold wrap64; omega, Int.emod_emod_of_dvd x (by omega)]
      rw [if_pos (by simp; omega), ih k (x / 256) _ (by omega) (by omega) (by omega) (by omega) (by simp; omega)]
      simp only [cnt]
      rw [if_pos hx]
      simp only [digN, List.length_append, List.length_singleton, List.append_assoc]
      have e : 1 + acc.length + cnt f (x / 256) = acc.length + (cnt f (x / 256) + 1) := by omega
      rw [e]
    · have e : x = 0 := by omega
      rw [last k x acc e (by omega) (by omega)]
      subst e
      simp [cnt, digN]

theorem ref_tells (n : Int) (k : Nat) (hk : 12 ≤ k) : gantletref06_Put.f k n = some (putS n) := by
  obtain ⟨k, rfl⟩ : ∃ m, k = m + 1 := ⟨k - 1, by omega⟩
  unfold gantletref06_Put.f putS
  by_cases h0 : n < 0
  · rw [if_pos h0, if_pos (Or.inl h0)]
    simp only [gantletref06_Put.j0]
    rw [if_pos trivial]
  · rw [if_neg h0]
    simp only [gantletref06_Put.j0]
    by_cases h1 : n > 2305843009213693951
    · rw [if_pos (by simpa using h1), if_pos (Or.inr h1)]
    · rw [if_neg (by simpa using h1), if_neg (show ¬(n < 0 ∨ n > 2305843009213693951) by omega)]
      by_cases h2 : n < 128
      · rw [if_pos h2, if_pos h2]
      · rw [if_neg h2, if_neg h2, ref_loop 8 k n [] (by omega) (by omega) (by omega) (by omega) (by simp)]
        simp

theorem LengthPuts : gantletlaw06_LengthPuts.Pure := by
  intro n _
  refine ⟨20, ?_⟩
  unfold gantletlaw06_LengthPuts.f
  rw [put_tells n 20 (by omega)]
  simp only [Option.bind_some]
  rw [ref_tells n 20 (by omega)]
  simp only [Option.bind_some]
  rw [awake_tells 20 (by omega)]
  simp

end Go.Proofs.Ytcomechollegfaa.Pure
