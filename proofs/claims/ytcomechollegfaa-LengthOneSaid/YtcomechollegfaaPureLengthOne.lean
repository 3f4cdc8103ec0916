/-
  For all bytes b: a length that is got at their beginning is put as the bytes that were read. No condition beyond the reach of b.
-/
import Derived.Test.YtcomechollegfaaPLengthOnex2
import Derived.Test.YtcomechollegfaaNum
namespace Go.Proofs.Ytcomechollegfaa.Pure
open Go.RowKit Go.Proofs.Ytcomechollegfaa.PLengthOne Go.Proofs.YtcomechollegfaaW.PrintWords Go.Proofs.YtcomechollegfaaW.PrintLast Go.Proofs.Ytcomechollegfaa.Num

theorem put_loop (f : Nat) : ∀ (k : Nat) (x : Int) (acc : List Int), 0 ≤ x → x < 256 ^ f → f < k → acc.length + f ≤ 8 →
    length_Put.l0 k x acc = some (strOfNums [128 + ((acc.length + cnt f x : Nat) : Int)] ++ strOfNums (digN (cnt f x) x ++ acc), 0) := by
  have last : ∀ (k : Nat) (x : Int) (acc : List Int), x = 0 → 0 < k → acc.length ≤ 8 → length_Put.l0 k x acc = some (strOfNums [128 + (acc.length : Int)] ++ strOfNums acc, 0) := by
    intro k x acc hx hk hl
    obtain ⟨k, rfl⟩ : ∃ m, k = m + 1 := ⟨k - 1, by omega⟩
    simp only [length_Put.l0]
    rw [if_neg (by omega)]
    simp only [Option.bind_some]
    rw [or128 _ (by omega), if_pos (by simp only [strOfNums_size, List.length_singleton]; omega)]
  induction f with
  | zero =>
    intro k x acc h0 h1 hk hl
    have e : x = 0 := by simp at h1; omega
    rw [last k x acc e (by omega) (by omega)]
    simp [cnt, digN]
  | succ f ih =>
    intro k x acc h0 h1 hk hl
    by_cases hx : x > 0
    · obtain ⟨k, rfl⟩ : ∃ m, k = m + 1 := ⟨k - 1, by omega⟩
      simp only [length_Put.l0]
      rw [if_pos hx]
      simp only [Option.bind_some]
      rw [Int.pow_succ] at h1
      rw [if_pos (by simp; omega), ih k (x / 256) _ (by omega) (by omega) (by omega) (by simp; omega)]
      simp only [cnt]
      rw [if_pos hx]
      simp only [digN, List.length_append, List.length_singleton, List.append_assoc]
      have e : 1 + acc.length + cnt f (x / 256) = acc.length + (cnt f (x / 256) + 1) := by omega
      rw [e]
    · have e : x = 0 := by omega
      rw [last k x acc e (by omega) (by omega)]
      subst e
      simp [cnt, digN]

theorem put_tells (n : Int) (k : Nat) (hk : 12 ≤ k) : length_Put.f k n = some (putS n) := by
  obtain ⟨k, rfl⟩ : ∃ m, k = m + 1 := ⟨k - 1, by omega⟩
  unfold length_Put.f putS
  by_cases h0 : n < 0
  · rw [if_pos h0, if_pos (Or.inl h0)]
    simp only [length_Put.j0]
    rw [if_pos trivial]
  · rw [if_neg h0]
    simp only [length_Put.j0]
    by_cases h1 : n > 2305843009213693951
    · rw [if_pos (by simpa using h1), if_pos (Or.inr h1)]
    · rw [if_neg (by simpa using h1), if_neg (show ¬(n < 0 ∨ n > 2305843009213693951) by omega)]
      by_cases h2 : n < 128
      · rw [if_pos h2, if_pos h2]
      · rw [if_neg h2, if_neg h2, put_loop 8 k n [] (by omega) (by omega) (by omega) (by simp)]
        simp

theorem get_loop (b : ByteArray) (a : Int) (c : Nat) (ha : 0 ≤ a) (hs : a < b.size) (hn : b.size ≤ 140737488351232) (hc : c ≤ 8) (d : Nat) :
    ∀ (k i : Nat), i + d = c → d < k → 1 ≤ i → a + i < b.size →
    length_Get.l0 k b a c (valAt b (a + 1) i) c i = some (if a + c ≥ (b.size : Int) then (0, (b.size : Int), 2)
      else if valAt b (a + 1) c > 2305843009213693951 then (0, a + c, 4) else (valAt b (a + 1) c, a + 1 + c, 0)) := by
  induction d with
  | zero =>
    intro k i hi hk h1 hb
    obtain ⟨k, rfl⟩ : ∃ m, k = m + 1 := ⟨k - 1, by omega⟩
    obtain rfl : i = c := by omega
    have r := valAt_range b (a + 1) i
    simp only [length_Get.l0]
    rw [if_neg (show ¬(i : Int) < i by omega), if_neg (show ¬a + (i : Int) ≥ (b.size : Int) by omega)]
    by_cases hv : valAt b (a + 1) i > 2305843009213693951
    · rw [if_pos hv, if_pos hv, show wrap64 (a + i) = a + i from by unfold wrap64; omega]
    · rw [if_neg hv, if_neg hv, show wrap64 (valAt b (a + 1) i) = valAt b (a + 1) i from by unfold wrap64; omega,
        show wrap64 (a + 1) = a + 1 from by unfold wrap64; omega, show wrap64 (a + 1 + i) = a + 1 + i from by unfold wrap64; omega]
  | succ d ih =>
    intro k i hi hk h1 hb
    obtain ⟨k, rfl⟩ : ∃ m, k = m + 1 := ⟨k - 1, by omega⟩
    have r := valAt_range b (a + 1) i
    have hpow : (256 : Int) ^ i ≤ 256 ^ 7 := by
      have h7 : i ≤ 7 := by omega
      have h : i = 1 ∨ i = 2 ∨ i = 3 ∨ i = 4 ∨ i = 5 ∨ i = 6 ∨ i = 7 := by omega
      rcases h with rfl | rfl | rfl | rfl | rfl | rfl | rfl <;> decide
    have hw : wrap64 (wrap64 (a + 1) + i) = a + 1 + i := by unfold wrap64; omega
    have rb := bt_range b (a + 1 + i)
    simp only [length_Get.l0]
    rw [hw, if_pos (show (i : Int) < c by omega)]
    by_cases he : a + 1 + i ≥ (b.size : Int)
    · rw [if_pos he, if_pos (show a + (c : Int) ≥ (b.size : Int) by omega)]
    · rw [if_neg he, if_pos (show 0 ≤ a + 1 + (i : Int) by omega), if_pos (show a + 1 + (i : Int) < (b.size : Int) by omega), if_neg (show ¬(i : Int) = 0 by omega),
        or_byte _ _ (by omega) (by omega) (by omega) (by omega), show wrap64 ((i : Int) + 1) = ((i + 1 : Nat) : Int) from by unfold wrap64; omega]
      exact ih k (i + 1) (by omega) (by omega) (by omega) (by omega)

theorem get_tells (b : ByteArray) (a : Int) (hn : b.size ≤ 140737488351232) (k : Nat) (hk : 16 ≤ k) : length_Get.f k b a = some (getS b a) := by
  obtain ⟨k, rfl⟩ : ∃ m, k = m + 2 := ⟨k - 2, by omega⟩
  have r := bt_range b a
  have wr : ∀ x : Int, -9223372036854775808 ≤ x → x < 9223372036854775808 → wrap64 x = x := fun x h1 h2 => by unfold wrap64; omega
  unfold length_Get.f getS
  by_cases h0 : a < 0
  · rw [if_pos h0, if_pos (Or.inl h0)]
    simp only [length_Get.j0]
    rw [if_pos trivial]
  rw [if_neg h0]
  simp only [length_Get.j0]
  by_cases h1 : a > (b.size : Int)
  · rw [if_pos (by simpa using h1), if_pos (Or.inr h1)]
  rw [if_neg (by simpa using h1), if_neg (show ¬(a < 0 ∨ a > (b.size : Int)) by omega)]
  by_cases h2 : a = (b.size : Int)
  · rw [if_pos h2, if_pos h2]
  rw [if_neg h2, if_neg h2, if_pos (show 0 ≤ a by omega), if_pos (show a < (b.size : Int) by omega)]
  rw [wr (bt b a) (by omega) (by omega), wr (a + 1) (by omega) (by omega)]
  by_cases h3 : bt b a < 128
  · rw [if_pos h3, if_pos h3]
  rw [if_neg h3, if_neg h3, wr (bt b a - 128) (by omega) (by omega)]
  simp only [length_Get.j1]
  by_cases h4 : bt b a - 128 = 0
  · rw [if_pos h4, if_pos trivial, if_pos (show bt b a = 128 ∨ bt b a > 136 by omega)]
  rw [if_neg h4]
  by_cases h5 : bt b a - 128 > 8
  · rw [if_pos (by simpa using h5), if_pos (show bt b a = 128 ∨ bt b a > 136 by omega)]
  rw [if_neg (by simpa using h5), if_neg (show ¬(bt b a = 128 ∨ bt b a > 136) by omega)]
  obtain ⟨c, hc⟩ : ∃ c : Nat, bt b a - 128 = c := ⟨(bt b a - 128).toNat, by omega⟩
  obtain ⟨k, rfl⟩ : ∃ m, k = m + 1 := ⟨k - 1, by omega⟩
  have e1 : bt b a = 129 ↔ (c : Int) = 1 := by omega
  rw [hc, Int.toNat_natCast]
  have rb := bt_range b (a + 1)
  simp only [length_Get.l0]
  rw [if_pos (show (0 : Int) < c by omega), wr (a + 1) (by omega) (by omega), wr (a + 1 + 0) (by omega) (by omega)]
  simp only [Int.add_zero]
  by_cases h6 : a + 1 ≥ (b.size : Int)
  · rw [if_pos h6, if_pos h6]
  rw [if_neg h6, if_neg h6, if_pos (show 0 ≤ a + 1 by omega), if_pos (show a + 1 < (b.size : Int) by omega), if_pos trivial]
  have go : length_Get.l0 k b a c (Go.bits .or .u64 (IntKind.u64.wrap (0 * 256)) (IntKind.u64.wrap (bt b (a + 1)))) c (wrap64 (0 + 1)) = some (if a + c ≥ (b.size : Int) then (0, (b.size : Int), 2)
      else if valAt b (a + 1) c > 2305843009213693951 then (0, a + c, 4) else (valAt b (a + 1) c, a + 1 + c, 0)) := by
    rw [or_byte _ _ (by omega) (by omega) (by omega) (by omega), wr (0 + 1) (by omega) (by omega)]
    have := get_loop b a c (by omega) (by omega) hn (by omega) (c - 1) k 1 (by omega) (by omega) (by omega) (by omega)
    simpa [valAt] using this
  by_cases h7 : bt b (a + 1) = 0
  · rw [if_pos h7, if_pos (Or.inl h7)]
  rw [if_neg h7]
  by_cases h8 : (c : Int) = 1
  · rw [if_pos h8]
    by_cases h9 : bt b (a + 1) < 128
    · rw [if_pos h9, if_pos (Or.inr ⟨e1.2 h8, h9⟩)]
    · rw [if_neg h9, if_neg (show ¬(bt b (a + 1) = 0 ∨ bt b a = 129 ∧ bt b (a + 1) < 128) by omega), go]
  · rw [if_neg h8, if_neg (show ¬(bt b (a + 1) = 0 ∨ bt b a = 129 ∧ bt b (a + 1) < 128) by omega), go]

theorem awake_tells (k : Nat) (hk : 16 ≤ k) : gantletlaw06_awake.f k = some true := at_rounds gantletlaw06_awake.mono hk (by kernel_rfl)

theorem LengthOne : gantletlaw06_LengthOne.Pure := by
  intro b hb
  refine ⟨40, ?_⟩
  unfold gantletlaw06_LengthOne.f
  rw [awake_tells 40 (by omega)]
  simp only [Option.bind_some, if_true, gantletlaw06_LengthOne.j0]
  by_cases hs : (b.size : Int) > 200
  · rw [if_pos (by simpa using hs), awake_tells 39 (by omega)]
    rfl
  rw [if_neg (by simpa using hs), get_tells b 0 hb 39 (by omega)]
  simp only [Option.bind_some]
  by_cases he : (getS b 0).2.2 = 0
  · rw [if_pos he, put_tells _ 39 (by omega)]
    simp only [Option.bind_some]
    obtain ⟨_, hlt, h⟩ := getS_ok b 0 he
    rcases h with ⟨h, h1⟩ | ⟨c, h1, h8, h2, h3, h4, h5, h6, h⟩
    · rw [h]
      simp only [Int.zero_add]
      rw [put_got1 b (by omega) h1, if_pos (show (0 : Int) = 0 from rfl), if_pos (by omega), if_pos (by omega), if_pos (by omega)]
      simp
    · rw [h]
      simp only [Int.zero_add] at h2 h3 h4 h5 h6 ⊢
      rw [put_got b c h1 h8 h2 h3 h4 h5 h6, if_pos (show (0 : Int) = 0 from rfl), if_pos (by omega), if_pos (by omega), if_pos (by omega)]
      have e : ((1 : Int) + c).toNat = 1 + c := by omega
      rw [e]
      simp
  · rw [if_neg he, getS_err b 0 he]
    rfl

end Go.Proofs.Ytcomechollegfaa.Pure
