/- At any place of any bytes: the length, the place and the error that the program tells are those of the reference: the walks of the Go texts. No condition beyond the reach of the bytes. -/
import Derived.Test.YtcomechollegfaaPLengthGetsx1
import Derived.Test.YtcomechollegfaaNum
import Derived.Lib.Hide
namespace Go.Proofs.Ytcomechollegfaa.Gets
open Go.RowKit Go.Proofs.Ytcomechollegfaa.PLengthGets Go.Proofs.YtcomechollegfaaW.PrintWords Go.Proofs.YtcomechollegfaaW.PrintLast Go.Proofs.Ytcomechollegfaa.Num
set_option linter.unusedVariables false

theorem get_loop (b : ByteArray) (a : Int) (c : Nat) (ha : 0 ≤ a) (hs : a < b.size) (hn : b.size ≤ 140737488351232) (hc : c ≤ 8) (d : Nat) :
    ∀ (k i : Nat), i + d = c → d < k → 1 ≤ i → a + i < b.size →
    length_Get.l0 k b a c (valAt b (a + 1) i) c i = some (if a + c ≥ (b.size : Int) then (0, (b.size : Int), 2)
      else if valAt b (a + 1) c > 2305843009213693951 then (0, a + c, 4) else (valAt b (a + 1) c, a + 1 + c, 0)) := by
  induction d with
  | zero =>
    intro k i hi hk h1 hb
    obtain ⟨k, rfl⟩ : ∃ m, k = m + 1 := ⟨k - 1, by omega⟩
    obtain rfl : i = c := by omega
    have r := valAt_range b (a + 1) i
    simp only [length_Get.l0]
    rw [if_neg (show ¬(i : Int) < i by omega), if_neg (show ¬a + (i : Int) ≥ (b.size : Int) by omega)]
    by_cases hv : valAt b (a + 1) i > 2305843009213693951
    · rw [if_pos hv, if_pos hv, show wrap64 (a + i) = a + i from by unfold wrap64; omega]
    · rw [if_neg hv, if_neg hv, show wrap64 (valAt b (a + 1) i) = valAt b (a + 1) i from by unfold wrap64; omega,
        show wrap64 (a + 1) = a + 1 from by unfold wrap64; omega, show wrap64 (a + 1 + i) = a + 1 + i from by unfold wrap64; omega]
  | succ d ih =>
    intro k i hi hk h1 hb
    obtain ⟨k, rfl⟩ : ∃ m, k = m + 1 := ⟨k - 1, by omega⟩
    have r := valAt_range b (a + 1) i
    have hpow : (256 : Int) ^ i ≤ 256 ^ 7 := by
      have h7 : i ≤ 7 := by omega
      have h : i = 1 ∨ i = 2 ∨ i = 3 ∨ i = 4 ∨ i = 5 ∨ i = 6 ∨ i = 7 := by omega
      rcases h with rfl | rfl | rfl | rfl | rfl | rfl | rfl <;> decide
    have hw : wrap64 (wrap64 (a + 1) + i) = a + 1 + i := by unfold wrap64; omega
    have rb := bt_range b (a + 1 + i)
    simp only [length_Get.l0]
    rw [hw, if_pos (show (i : Int) < c by omega)]
    by_cases he : a + 1 + i ≥ (b.size : Int)
    · rw [if_pos he, if_pos (show a + (c : Int) ≥ (b.size : Int) by omega)]
    · rw [if_neg he, if_pos (show 0 ≤ a + 1 + (i : Int) by omega), if_pos (show a + 1 + (i : Int) < (b.size : Int) by omega), if_neg (show ¬(i : Int) = 0 by omega),
        or_byte _ _ (by omega) (by omega) (by omega) (by omega), show wrap64 ((i : Int) + 1) = ((i + 1 : Nat) : Int) from by unfold wrap64; omega]
      exact ih k (i + 1) (by omega) (by omega) (by omega) (by omega)

theorem get_tells (b : ByteArray) (a : Int) (hn : b.size ≤ 140737488351232) (k : Nat) (hk : 16 ≤ k) : length_Get.f k b a = some (getS b a) := by
  obtain ⟨k, rfl⟩ : ∃ m, k = m + 2 := ⟨k - 2, by omega⟩
  have r := bt_range b a
  have wr : ∀ x : Int, -9223372036854775808 ≤ x → x < 9223372036854775808 → wrap64 x = x := fun x h1 h2 => by unfold wrap64; omega
  unfold length_Get.f getS
  by_cases h0 : a < 0
  · rw [if_pos h0, if_pos (Or.inl h0)]
    simp only [length_Get.j0]
    rw [if_pos trivial]
  rw [if_neg h0]
  simp only [length_Get.j0]
  by_cases h1 : a > (b.size : Int)
  · rw [if_pos (by simpa using h1), if_pos (Or.inr h1)]
  rw [if_neg (by simpa using h1), if_neg (show ¬(a < 0 ∨ a > (b.size : Int)) by omega)]
  by_cases h2 : a = (b.size : Int)
  · rw [if_pos h2, if_pos h2]
  rw [if_neg h2, if_neg h2, if_pos (show 0 ≤ a by omega), if_pos (show a < (b.size : Int) by omega)]
  rw [wr (bt b a) (by omega) (by omega), wr (a + 1) (by omega) (by omega)]
  by_cases h3 : bt b a < 128
  · rw [if_pos h3, if_pos h3]
  rw [if_neg h3, if_neg h3, wr (bt b a - 128) (by omega) (by omega)]
  simp only [length_Get.j1]
  by_cases h4 : bt b a - 128 = 0
  · rw [if_pos h4, if_pos trivial, if_pos (show bt b a = 128 ∨ bt b a > 136 by omega)]
  rw [if_neg h4]
  by_cases h5 : bt b a - 128 > 8
  · rw [if_pos (by simpa using h5), if_pos (show bt b a = 128 ∨ bt b a > 136 by omega)]
  rw [if_neg (by simpa using h5), if_neg (show ¬(bt b a = 128 ∨ bt b a > 136) by omega)]
  obtain ⟨c, hc⟩ : ∃ c : Nat, bt b a - 128 = c := ⟨(bt b a - 128).toNat, by omega⟩
  obtain ⟨k, rfl⟩ : ∃ m, k = m + 1 := ⟨k - 1, by omega⟩
  have e1 : bt b a = 129 ↔ (c : Int) = 1 := by omega
  rw [hc, Int.toNat_natCast]
  have rb := bt_range b (a + 1)
  simp only [length_Get.l0]
  rw [if_pos (show (0 : Int) < c by omega), wr (a + 1) (by omega) (by omega), wr (a + 1 + 0) (by omega) (by omega)]
  simp only [Int.add_zero]
  by_cases h6 : a + 1 ≥ (b.size : Int)
  · rw [if_pos h6, if_pos h6]
  rw [if_neg h6, if_neg h6, if_pos (show 0 ≤ a + 1 by omega), if_pos (show a + 1 < (b.size : Int) by omega), if_pos trivial]
  have go : length_Get.l0 k b a c (Go.bits .or .u64 (IntKind.u64.wrap (0 * 256)) (IntKind.u64.wrap (bt b (a + 1)))) c (wrap64 (0 + 1)) = some (if a + c ≥ (b.size : Int) then (0, (b.size : Int), 2)
      else if valAt b (a + 1) c > 2305843009213693951 then (0, a + c, 4) else (valAt b (a + 1) c, a + 1 + c, 0)) := by
    rw [or_byte _ _ (by omega) (by omega) (by omega) (by omega), wr (0 + 1) (by omega) (by omega)]
    have := get_loop b a c (by omega) (by omega) hn (by omega) (c - 1) k 1 (by omega) (by omega) (by omega) (by omega)
    simpa [valAt] using this
  by_cases h7 : bt b (a + 1) = 0
  · rw [if_pos h7, if_pos (Or.inl h7)]
  rw [if_neg h7]
  by_cases h8 : (c : Int) = 1
  · rw [if_pos h8]
    by_cases h9 : bt b (a + 1) < 128
    · rw [if_pos h9, if_pos (Or.inr ⟨e1.2 h8, h9⟩)]
    · rw [if_neg h9, if_neg (show ¬(bt b (a + 1) = 0 ∨ bt b a = 129 ∧ bt b (a + 1) < 128) by omega), go]
  · rw [if_neg h8, if_neg (show ¬(bt b (a + 1) = 0 ∨ bt b a = 129 ∧ bt b (a + 1) < 128) by omega), go]

theorem awake_tells (k : Nat) (hk : 16 ≤ k) : gantletlaw06_awake.f k = some true := at_rounds gantletlaw06_awake.mono hk (by kernel_rfl)

def lvN (v : Int) : Int := if v > 2305843009213693951 then 0 else v
def lvP (v a c : Int) : Int := if v > 2305843009213693951 then a + c else a + 1 + c
def lvE (v : Int) : Int := if v > 2305843009213693951 then 4 else 0
theorem ret3 {x y z x' y' z' : Int} (h1 : x = x') (h2 : y = y') (h3 : z = z') : Ending.returned (.tuple #[.int .i64 x, .int .i64 y, .int .i64 z]) = .returned (.tuple #[.int .i64 x', .int .i64 y', .int .i64 z']) := by rw [h1, h2, h3]
theorem below0 (w : World) : Below w.heap.size w w := Below.refl _ _
set_option maxHeartbeats 400000 in
theorem r_neg (b : ByteArray) (a : Int) (w : World) (hn : b.size ≤ 140737488351232) (h : a < 0) :
    Calls Try.prog 13 #[.string b, .int .i64 a] w fun e w' => e = .returned (.tuple #[.int .i64 (0), .int .i64 (0), .int .i64 (1)]) ∧ Below w.heap.size w w' := by
  go_enter Try.func13, Try.ntmps13
  go_wp2
  go_ret3
  exact ⟨rfl, below0 w⟩

set_option maxHeartbeats 400000 in
theorem r_past (b : ByteArray) (a : Int) (w : World) (hn : b.size ≤ 140737488351232) (h : ¬a < 0) (h2 : (b.size : Int) < a) :
    Calls Try.prog 13 #[.string b, .int .i64 a] w fun e w' => e = .returned (.tuple #[.int .i64 (0), .int .i64 (0), .int .i64 (1)]) ∧ Below w.heap.size w w' := by
  go_enter Try.func13, Try.ntmps13
  go_wp2
  go_ret3
  exact ⟨rfl, below0 w⟩

set_option maxHeartbeats 400000 in
theorem r_cut (b : ByteArray) (a : Int) (w : World) (hn : b.size ≤ 140737488351232) (h : ¬a < 0) (h2 : ¬(b.size : Int) < a) (h3 : (a == (b.size : Int)) = true) :
    Calls Try.prog 13 #[.string b, .int .i64 a] w fun e w' => e = .returned (.tuple #[.int .i64 (0), .int .i64 (a), .int .i64 (2)]) ∧ Below w.heap.size w w' := by
  go_enter Try.func13, Try.ntmps13
  go_wp2
  go_ret3
  exact ⟨rfl, below0 w⟩

set_option maxHeartbeats 400000 in
theorem r_short (b : ByteArray) (a : Int) (w : World) (hn : b.size ≤ 140737488351232) (h0 : 0 ≤ a) (h1 : a < (b.size : Int)) (h : bt b a < 128) :
    Calls Try.prog 13 #[.string b, .int .i64 a] w fun e w' => e = .returned (.tuple #[.int .i64 (bt b a), .int .i64 (a + 1), .int .i64 (0)]) ∧ Below w.heap.size w w' := by
  have r := bt_range b a
  have ge := bt_at b a
  have k1 : ¬a < 0 := by omega
  have k2 : ¬(b.size : Int) < a := by omega
  have k3 : (a == (b.size : Int)) = false := by simp; omega
  go_enter Try.func13, Try.ntmps13
  go_wp2
  go_ret3
  exact ⟨rfl, below0 w⟩

set_option maxHeartbeats 400000 in
theorem r_128 (b : ByteArray) (a : Int) (w : World) (hn : b.size ≤ 140737488351232) (h0 : 0 ≤ a) (h1 : a < (b.size : Int)) (h : (bt b a == 128) = true) :
    Calls Try.prog 13 #[.string b, .int .i64 a] w fun e w' => e = .returned (.tuple #[.int .i64 (0), .int .i64 (a), .int .i64 (4)]) ∧ Below w.heap.size w w' := by
  have r := bt_range b a
  have ge := bt_at b a
  have k1 : ¬a < 0 := by omega
  have k2 : ¬(b.size : Int) < a := by omega
  have k3 : (a == (b.size : Int)) = false := by simp; omega
  have l1 : ¬bt b a < 128 := by simp at h; omega
  go_enter Try.func13, Try.ntmps13
  go_wp2
  go_ret3
  exact ⟨rfl, below0 w⟩

set_option maxHeartbeats 400000 in
theorem r_136 (b : ByteArray) (a : Int) (w : World) (hn : b.size ≤ 140737488351232) (h0 : 0 ≤ a) (h1 : a < (b.size : Int)) (h : 136 < bt b a) :
    Calls Try.prog 13 #[.string b, .int .i64 a] w fun e w' => e = .returned (.tuple #[.int .i64 (0), .int .i64 (a), .int .i64 (4)]) ∧ Below w.heap.size w w' := by
  have r := bt_range b a
  have ge := bt_at b a
  have k1 : ¬a < 0 := by omega
  have k2 : ¬(b.size : Int) < a := by omega
  have k3 : (a == (b.size : Int)) = false := by simp; omega
  have l1 : ¬bt b a < 128 := by omega
  have l2 : (bt b a == 128) = false := by simp; omega
  go_enter Try.func13, Try.ntmps13
  go_wp2
  go_ret3
  exact ⟨rfl, below0 w⟩

set_option maxHeartbeats 400000 in
theorem r_none (b : ByteArray) (a : Int) (w : World) (hn : b.size ≤ 140737488351232) (h0 : 0 ≤ a) (h1 : a < (b.size : Int)) (hf0 : 128 < bt b a) (hf1 : bt b a ≤ 136) (h : (b.size : Int) ≤ a + 1) :
    Calls Try.prog 13 #[.string b, .int .i64 a] w fun e w' => e = .returned (.tuple #[.int .i64 (0), .int .i64 ((b.size : Int)), .int .i64 (2)]) ∧ Below w.heap.size w w' := by
  have r := bt_range b a
  have ge := bt_at b a
  have k1 : ¬a < 0 := by omega
  have k2 : ¬(b.size : Int) < a := by omega
  have k3 : (a == (b.size : Int)) = false := by simp; omega
  have l1 : ¬bt b a < 128 := by omega
  have l2 : (bt b a == 128) = false := by simp; omega
  have l3 : ¬136 < bt b a := by omega
  have l4 : 0 ≤ a + 1 := by omega
  have l5 : a + 1 ≤ (b.size : Int) := by omega
  have es : (b.extract (a + 1).toNat b.size).size = b.size - (a + 1).toNat := by rw [ByteArray.size_extract]; omega
  obtain ⟨R, hR⟩ : ∃ R, b.extract (a + 1).toNat b.size = R := ⟨_, rfl⟩
  rw [hR] at es
  have m1 : ¬0 < (R.size : Int) := by omega
  have m2 : (R.size : Int) < bt b a - 128 := by omega
  clear es
  go_enter Try.func13, Try.ntmps13
  go_wp2
  go_ret3
  exact ⟨rfl, below0 w⟩

set_option maxHeartbeats 400000 in
theorem r_zero (b : ByteArray) (a : Int) (w : World) (hn : b.size ≤ 140737488351232) (h0 : 0 ≤ a) (h1 : a < (b.size : Int)) (hf0 : 128 < bt b a) (hf1 : bt b a ≤ 136) (hs : a + 1 < (b.size : Int)) (h : (bt b (a + 1) == 0) = true) :
    Calls Try.prog 13 #[.string b, .int .i64 a] w fun e w' => e = .returned (.tuple #[.int .i64 (0), .int .i64 (a + 1), .int .i64 (4)]) ∧ Below w.heap.size w w' := by
  have r := bt_range b a
  have ge := bt_at b a
  have k1 : ¬a < 0 := by omega
  have k2 : ¬(b.size : Int) < a := by omega
  have k3 : (a == (b.size : Int)) = false := by simp; omega
  have l1 : ¬bt b a < 128 := by omega
  have l2 : (bt b a == 128) = false := by simp; omega
  have l3 : ¬136 < bt b a := by omega
  have l4 : 0 ≤ a + 1 := by omega
  have l5 : a + 1 ≤ (b.size : Int) := by omega
  have er : bt (b.extract (a + 1).toNat b.size) 0 = bt b (a + 1) := by
    rw [bt_extract _ _ _ _ (Nat.le_refl _) (by omega) (by omega)]
    congr 1
    omega
  have es : (b.extract (a + 1).toNat b.size).size = b.size - (a + 1).toNat := by rw [ByteArray.size_extract]; omega
  obtain ⟨R, hR⟩ : ∃ R, b.extract (a + 1).toNat b.size = R := ⟨_, rfl⟩
  rw [hR] at es
  rw [hR] at er
  have g0 : ∀ h : 0 < R.size, ((R[0]'h).toNat : Int) = bt b (a + 1) := fun h => (bt_at R 0 h).trans er
  have m1 : 0 < (R.size : Int) := by omega
  have m0 : 0 < R.size := by omega
  have r1 := bt_range b (a + 1)
  clear es er
  go_enter Try.func13, Try.ntmps13
  go_wp2
  go_ret3
  exact ⟨rfl, below0 w⟩

set_option maxHeartbeats 400000 in
theorem r_one (b : ByteArray) (a : Int) (w : World) (hn : b.size ≤ 140737488351232) (h0 : 0 ≤ a) (h1 : a < (b.size : Int)) (hf0 : 128 < bt b a) (hf1 : bt b a ≤ 136) (hs : a + 1 < (b.size : Int)) (h : (bt b (a + 1) == 0) = false) (hc : bt b a - 128 = 1) (hb : bt b (a + 1) < 128) :
    Calls Try.prog 13 #[.string b, .int .i64 a] w fun e w' => e = .returned (.tuple #[.int .i64 (0), .int .i64 (a + 1), .int .i64 (4)]) ∧ Below w.heap.size w w' := by
  have r := bt_range b a
  have ge := bt_at b a
  have k1 : ¬a < 0 := by omega
  have k2 : ¬(b.size : Int) < a := by omega
  have k3 : (a == (b.size : Int)) = false := by simp; omega
  have l1 : ¬bt b a < 128 := by omega
  have l2 : (bt b a == 128) = false := by simp; omega
  have l3 : ¬136 < bt b a := by omega
  have l4 : 0 ≤ a + 1 := by omega
  have l5 : a + 1 ≤ (b.size : Int) := by omega
  have er : bt (b.extract (a + 1).toNat b.size) 0 = bt b (a + 1) := by
    rw [bt_extract _ _ _ _ (Nat.le_refl _) (by omega) (by omega)]
    congr 1
    omega
  have es : (b.extract (a + 1).toNat b.size).size = b.size - (a + 1).toNat := by rw [ByteArray.size_extract]; omega
  obtain ⟨R, hR⟩ : ∃ R, b.extract (a + 1).toNat b.size = R := ⟨_, rfl⟩
  rw [hR] at es
  rw [hR] at er
  have g0 : ∀ h : 0 < R.size, ((R[0]'h).toNat : Int) = bt b (a + 1) := fun h => (bt_at R 0 h).trans er
  have m1 : 0 < (R.size : Int) := by omega
  have m0 : 0 < R.size := by omega
  have r1 := bt_range b (a + 1)
  have q1 : (bt b a - 128 == 1) = true := by simp; omega
  clear es er hc
  go_enter Try.func13, Try.ntmps13
  go_wp2
  go_ret3
  exact ⟨rfl, below0 w⟩

set_option maxHeartbeats 400000 in
theorem r_fewer (b : ByteArray) (a : Int) (w : World) (hn : b.size ≤ 140737488351232) (h0 : 0 ≤ a) (h1 : a < (b.size : Int)) (hf0 : 128 < bt b a) (hf1 : bt b a ≤ 136) (hs : a + 1 < (b.size : Int)) (h : (bt b (a + 1) == 0) = false) (hc : (bt b a - 128 == 1) = false) (hl : (b.size : Int) - (a + 1) < bt b a - 128) :
    Calls Try.prog 13 #[.string b, .int .i64 a] w fun e w' => e = .returned (.tuple #[.int .i64 (0), .int .i64 ((b.size : Int)), .int .i64 (2)]) ∧ Below w.heap.size w w' := by
  have r := bt_range b a
  have ge := bt_at b a
  have k1 : ¬a < 0 := by omega
  have k2 : ¬(b.size : Int) < a := by omega
  have k3 : (a == (b.size : Int)) = false := by simp; omega
  have l1 : ¬bt b a < 128 := by omega
  have l2 : (bt b a == 128) = false := by simp; omega
  have l3 : ¬136 < bt b a := by omega
  have l4 : 0 ≤ a + 1 := by omega
  have l5 : a + 1 ≤ (b.size : Int) := by omega
  have er : bt (b.extract (a + 1).toNat b.size) 0 = bt b (a + 1) := by
    rw [bt_extract _ _ _ _ (Nat.le_refl _) (by omega) (by omega)]
    congr 1
    omega
  have es : (b.extract (a + 1).toNat b.size).size = b.size - (a + 1).toNat := by rw [ByteArray.size_extract]; omega
  obtain ⟨R, hR⟩ : ∃ R, b.extract (a + 1).toNat b.size = R := ⟨_, rfl⟩
  rw [hR] at es
  rw [hR] at er
  have g0 : ∀ h : 0 < R.size, ((R[0]'h).toNat : Int) = bt b (a + 1) := fun h => (bt_at R 0 h).trans er
  have m1 : 0 < (R.size : Int) := by omega
  have m0 : 0 < R.size := by omega
  have r1 := bt_range b (a + 1)
  have q2 : (R.size : Int) < bt b a - 128 := by omega
  clear es er
  go_enter Try.func13, Try.ntmps13
  go_wp2
  go_ret3
  exact ⟨rfl, below0 w⟩

set_option maxHeartbeats 400000 in
theorem r_fewer1 (b : ByteArray) (a : Int) (w : World) (hn : b.size ≤ 140737488351232) (h0 : 0 ≤ a) (h1 : a < (b.size : Int)) (hf0 : 128 < bt b a) (hf1 : bt b a ≤ 136) (hs : a + 1 < (b.size : Int)) (h : (bt b (a + 1) == 0) = false) (hc : (bt b a - 128 == 1) = true) (hb : ¬bt b (a + 1) < 128) (hl : (b.size : Int) - (a + 1) < bt b a - 128) :
    Calls Try.prog 13 #[.string b, .int .i64 a] w fun e w' => e = .returned (.tuple #[.int .i64 (0), .int .i64 ((b.size : Int)), .int .i64 (2)]) ∧ Below w.heap.size w w' := by
  have r := bt_range b a
  have ge := bt_at b a
  have k1 : ¬a < 0 := by omega
  have k2 : ¬(b.size : Int) < a := by omega
  have k3 : (a == (b.size : Int)) = false := by simp; omega
  have l1 : ¬bt b a < 128 := by omega
  have l2 : (bt b a == 128) = false := by simp; omega
  have l3 : ¬136 < bt b a := by omega
  have l4 : 0 ≤ a + 1 := by omega
  have l5 : a + 1 ≤ (b.size : Int) := by omega
  have er : bt (b.extract (a + 1).toNat b.size) 0 = bt b (a + 1) := by
    rw [bt_extract _ _ _ _ (Nat.le_refl _) (by omega) (by omega)]
    congr 1
    omega
  have es : (b.extract (a + 1).toNat b.size).size = b.size - (a + 1).toNat := by rw [ByteArray.size_extract]; omega
  obtain ⟨R, hR⟩ : ∃ R, b.extract (a + 1).toNat b.size = R := ⟨_, rfl⟩
  rw [hR] at es
  rw [hR] at er
  have g0 : ∀ h : 0 < R.size, ((R[0]'h).toNat : Int) = bt b (a + 1) := fun h => (bt_at R 0 h).trans er
  have m1 : 0 < (R.size : Int) := by omega
  have m0 : 0 < R.size := by omega
  have r1 := bt_range b (a + 1)
  have q2 : (R.size : Int) < bt b a - 128 := by omega
  clear es er
  go_enter Try.func13, Try.ntmps13
  go_wp2
  go_ret3
  exact ⟨rfl, below0 w⟩

set_option maxHeartbeats 1000000 in
theorem r_loop (b : ByteArray) (a : Int) (w : World) (hn : b.size ≤ 140737488351232) (h0 : 0 ≤ a) (h1 : a < (b.size : Int)) (c : Nat) (hc : bt b a - 128 = c) (c1 : 1 ≤ c) (c8 : c ≤ 8) (hs : a + c < (b.size : Int)) (h : (bt b (a + 1) == 0) = false) (hc1 : (bt b a - 128 == 1) = false) :
    Calls Try.prog 13 #[.string b, .int .i64 a] w fun e w' => e = .returned (.tuple #[.int .i64 (lvN (valAt b (a + 1) c)), .int .i64 (lvP (valAt b (a + 1) c) a c), .int .i64 (lvE (valAt b (a + 1) c))]) ∧ Below w.heap.size w w' := by
  have HC := Lib.hid hc
  have hf0 : 128 < bt b a := by omega
  have hf1 : bt b a ≤ 136 := by omega
  clear hc
  have r := bt_range b a
  have ge := bt_at b a
  have k1 : ¬a < 0 := by omega
  have k2 : ¬(b.size : Int) < a := by omega
  have k3 : (a == (b.size : Int)) = false := by simp; omega
  have l1 : ¬bt b a < 128 := by omega
  have l2 : (bt b a == 128) = false := by simp; omega
  have l3 : ¬136 < bt b a := by omega
  have l4 : 0 ≤ a + 1 := by omega
  have l5 : a + 1 ≤ (b.size : Int) := by omega
  have er : ∀ i : Int, 0 ≤ i → i < (b.size : Int) - (a + 1) → bt (b.extract (a + 1).toNat b.size) i = bt b (a + 1 + i) := by
    intro i hi hi2
    rw [bt_extract _ _ _ _ (Nat.le_refl _) (by omega) (by omega)]
    congr 1
    omega
  have es : (b.extract (a + 1).toNat b.size).size = b.size - (a + 1).toNat := by rw [ByteArray.size_extract]; omega
  obtain ⟨R, hR⟩ : ∃ R, b.extract (a + 1).toNat b.size = R := ⟨_, rfl⟩
  rw [hR] at es
  rw [hR] at er
  have g0 : ∀ h : 0 < R.size, ((R[0]'h).toNat : Int) = bt b (a + 1) := fun h => (bt_at R 0 h).trans ((er 0 (by omega) (by omega)).trans (by rw [Int.add_zero]))
  have m1 : 0 < (R.size : Int) := by omega
  have m0 : 0 < R.size := by omega
  have r1 := bt_range b (a + 1)
  have q2 : ¬(R.size : Int) < bt b a - 128 := by have := HC.out; omega
  have ES := Lib.hid es
  have ER := Lib.hid er
  clear es er
  go_enter Try.func13, Try.ntmps13
  go_wp2
  go_loop [10, 11] (fun n i => ∃ k : Nat, k ≤ c ∧ i = .int .i64 k ∧ n = .int .i64 (valAt b (a + 1) k)) (fun _ i => c - (intOf i).toNat)
  case atStart => exact ⟨0, Nat.zero_le _, rfl, rfl⟩
  case round =>
    obtain ⟨k, hk, rfl, rfl⟩ := hrel
    have rv := valAt_range b (a + 1) k
    have rv0 := rv.1
    have rk := bt_range b (a + 1 + k)
    clear rv
    by_cases hlt : k < c
    · have t1 : (k : Int) < bt b a - 128 := by have := HC.out; omega
      have gk : ∀ h : k < R.size, ((R[k]'h).toNat : Int) = bt b (a + 1 + k) := fun h => by
        have := bt_at R k
        simp only [Int.toNat_natCast] at this
        exact (this h).trans (ER.out k (by omega) (by have := ES.out; omega))
      have hkR : (k : Int) < (R.size : Int) := by have := ES.out; omega
      have hkR2 : k < R.size := by omega
      by_cases hv : 9007199254740991 < valAt b (a + 1) k
      · have HG : Hid (valAt b (a + 1) c > 2305843009213693951) := by
          show _ > _
          have m1 := valAt_mono b (a + 1) k (c - k)
          rw [show k + (c - k) = c from by omega] at m1
          have m2 := pow_le_pow 1 (c - k) (by omega)
          have m3 : 256 ^ 1 * valAt b (a + 1) k ≤ 256 ^ (c - k) * valAt b (a + 1) k := Int.mul_le_mul_of_nonneg_right m2 rv0
          omega
        go_wp2
        go_ret3
        exact ⟨ret3 (by unfold lvN; rw [if_pos HG.out]) (by unfold lvP; rw [if_pos HG.out, HC.out]) (by unfold lvE; rw [if_pos HG.out]), below0 w⟩
      · by_cases hv2 : valAt b (a + 1) k = 9007199254740991
        · have u1 : (valAt b (a + 1) k == 9007199254740991) = true := by simpa using hv2
          have HV2 := Lib.hid hv2
          clear hv2
          have u2 : ¬255 < bt b (a + 1 + k) := by omega
          go_wp2
          go_round
          case rel => exact ⟨k + 1, by omega, by go_num, rfl⟩
          case measure => simp [intOf]; omega
        · have u1 : (valAt b (a + 1) k == 9007199254740991) = false := by simpa using hv2
          go_wp2
          go_round
          case rel => exact ⟨k + 1, by omega, by go_num, rfl⟩
          case measure => simp [intOf]; omega
    · obtain rfl : k = c := by omega
      have t1 : ¬(k : Int) < bt b a - 128 := by have := HC.out; omega
      by_cases hv : 2305843009213693951 < valAt b (a + 1) k
      · go_wp2
        go_ret3
        exact ⟨ret3 (by unfold lvN; rw [if_pos hv]) (by unfold lvP; rw [if_pos hv, HC.out]) (by unfold lvE; rw [if_pos hv]), below0 w⟩
      · go_wp2
        go_ret3
        exact ⟨ret3 (by unfold lvN; rw [if_neg (by omega)]) (by unfold lvP; rw [if_neg (by omega), HC.out]) (by unfold lvE; rw [if_neg (by omega)]), below0 w⟩

set_option maxHeartbeats 1000000 in
theorem r_loop1 (b : ByteArray) (a : Int) (w : World) (hn : b.size ≤ 140737488351232) (h0 : 0 ≤ a) (h1 : a < (b.size : Int)) (c : Nat) (hc : bt b a - 128 = c) (c1 : 1 ≤ c) (c8 : c ≤ 8) (hs : a + c < (b.size : Int)) (h : (bt b (a + 1) == 0) = false) (hc1 : (bt b a - 128 == 1) = true) (hb : ¬bt b (a + 1) < 128) :
    Calls Try.prog 13 #[.string b, .int .i64 a] w fun e w' => e = .returned (.tuple #[.int .i64 (lvN (valAt b (a + 1) c)), .int .i64 (lvP (valAt b (a + 1) c) a c), .int .i64 (lvE (valAt b (a + 1) c))]) ∧ Below w.heap.size w w' := by
  have HC := Lib.hid hc
  have hf0 : 128 < bt b a := by omega
  have hf1 : bt b a ≤ 136 := by omega
  clear hc
  have r := bt_range b a
  have ge := bt_at b a
  have k1 : ¬a < 0 := by omega
  have k2 : ¬(b.size : Int) < a := by omega
  have k3 : (a == (b.size : Int)) = false := by simp; omega
  have l1 : ¬bt b a < 128 := by omega
  have l2 : (bt b a == 128) = false := by simp; omega
  have l3 : ¬136 < bt b a := by omega
  have l4 : 0 ≤ a + 1 := by omega
  have l5 : a + 1 ≤ (b.size : Int) := by omega
  have er : ∀ i : Int, 0 ≤ i → i < (b.size : Int) - (a + 1) → bt (b.extract (a + 1).toNat b.size) i = bt b (a + 1 + i) := by
    intro i hi hi2
    rw [bt_extract _ _ _ _ (Nat.le_refl _) (by omega) (by omega)]
    congr 1
    omega
  have es : (b.extract (a + 1).toNat b.size).size = b.size - (a + 1).toNat := by rw [ByteArray.size_extract]; omega
  obtain ⟨R, hR⟩ : ∃ R, b.extract (a + 1).toNat b.size = R := ⟨_, rfl⟩
  rw [hR] at es
  rw [hR] at er
  have g0 : ∀ h : 0 < R.size, ((R[0]'h).toNat : Int) = bt b (a + 1) := fun h => (bt_at R 0 h).trans ((er 0 (by omega) (by omega)).trans (by rw [Int.add_zero]))
  have m1 : 0 < (R.size : Int) := by omega
  have m0 : 0 < R.size := by omega
  have r1 := bt_range b (a + 1)
  have q2 : ¬(R.size : Int) < bt b a - 128 := by have := HC.out; omega
  have ES := Lib.hid es
  have ER := Lib.hid er
  clear es er
  go_enter Try.func13, Try.ntmps13
  go_wp2
  go_loop [10, 11] (fun n i => ∃ k : Nat, k ≤ c ∧ i = .int .i64 k ∧ n = .int .i64 (valAt b (a + 1) k)) (fun _ i => c - (intOf i).toNat)
  case atStart => exact ⟨0, Nat.zero_le _, rfl, rfl⟩
  case round =>
    obtain ⟨k, hk, rfl, rfl⟩ := hrel
    have rv := valAt_range b (a + 1) k
    have rv0 := rv.1
    have rk := bt_range b (a + 1 + k)
    clear rv
    by_cases hlt : k < c
    · have t1 : (k : Int) < bt b a - 128 := by have := HC.out; omega
      have gk : ∀ h : k < R.size, ((R[k]'h).toNat : Int) = bt b (a + 1 + k) := fun h => by
        have := bt_at R k
        simp only [Int.toNat_natCast] at this
        exact (this h).trans (ER.out k (by omega) (by have := ES.out; omega))
      have hkR : (k : Int) < (R.size : Int) := by have := ES.out; omega
      have hkR2 : k < R.size := by omega
      by_cases hv : 9007199254740991 < valAt b (a + 1) k
      · have HG : Hid (valAt b (a + 1) c > 2305843009213693951) := by
          show _ > _
          have m1 := valAt_mono b (a + 1) k (c - k)
          rw [show k + (c - k) = c from by omega] at m1
          have m2 := pow_le_pow 1 (c - k) (by omega)
          have m3 : 256 ^ 1 * valAt b (a + 1) k ≤ 256 ^ (c - k) * valAt b (a + 1) k := Int.mul_le_mul_of_nonneg_right m2 rv0
          omega
        go_wp2
        go_ret3
        exact ⟨ret3 (by unfold lvN; rw [if_pos HG.out]) (by unfold lvP; rw [if_pos HG.out, HC.out]) (by unfold lvE; rw [if_pos HG.out]), below0 w⟩
      · by_cases hv2 : valAt b (a + 1) k = 9007199254740991
        · have u1 : (valAt b (a + 1) k == 9007199254740991) = true := by simpa using hv2
          have HV2 := Lib.hid hv2
          clear hv2
          have u2 : ¬255 < bt b (a + 1 + k) := by omega
          go_wp2
          go_round
          case rel => exact ⟨k + 1, by omega, by go_num, rfl⟩
          case measure => simp [intOf]; omega
        · have u1 : (valAt b (a + 1) k == 9007199254740991) = false := by simpa using hv2
          go_wp2
          go_round
          case rel => exact ⟨k + 1, by omega, by go_num, rfl⟩
          case measure => simp [intOf]; omega
    · obtain rfl : k = c := by omega
      have t1 : ¬(k : Int) < bt b a - 128 := by have := HC.out; omega
      by_cases hv : 2305843009213693951 < valAt b (a + 1) k
      · go_wp2
        go_ret3
        exact ⟨ret3 (by unfold lvN; rw [if_pos hv]) (by unfold lvP; rw [if_pos hv, HC.out]) (by unfold lvE; rw [if_pos hv]), below0 w⟩
      · go_wp2
        go_ret3
        exact ⟨ret3 (by unfold lvN; rw [if_neg (by omega)]) (by unfold lvP; rw [if_neg (by omega), HC.out]) (by unfold lvE; rw [if_neg (by omega)]), below0 w⟩


theorem getS_lines (b : ByteArray) (a : Int) (c : Nat) (h0 : 0 ≤ a) (h1 : a < (b.size : Int)) (hc : bt b a - 128 = c) (c1 : 1 ≤ c) (c8 : c ≤ 8) (hs : a + c < (b.size : Int)) (h : ¬bt b (a + 1) = 0) (hb : ¬(bt b a = 129 ∧ bt b (a + 1) < 128)) :
    getS b a = (lvN (valAt b (a + 1) c), lvP (valAt b (a + 1) c) a c, lvE (valAt b (a + 1) c)) := by
  unfold getS
  rw [if_neg (by omega), if_neg (by omega), if_neg (by omega), if_neg (by omega), if_neg (by omega), if_neg (by omega), if_neg (by omega), hc, Int.toNat_natCast]
  unfold lvN lvP lvE
  split <;> rfl

theorem ref_c (b : ByteArray) (a : Int) (hn : b.size ≤ 140737488351232) (w : World) : Calls Try.prog 13 #[.string b, .int .i64 a] w fun e w' => e = .returned (.tuple #[.int .i64 (getS b a).1, .int .i64 (getS b a).2.1, .int .i64 (getS b a).2.2]) ∧ Below w.heap.size w w' := by
  have r := bt_range b a
  by_cases h0 : a < 0
  · have e : getS b a = (0, 0, 1) := by unfold getS; rw [if_pos (Or.inl h0)]
    rw [e]; exact r_neg b a w hn h0
  by_cases h1 : (b.size : Int) < a
  · have e : getS b a = (0, 0, 1) := by unfold getS; rw [if_pos (Or.inr h1)]
    rw [e]; exact r_past b a w hn h0 h1
  by_cases h2 : a = (b.size : Int)
  · have e : getS b a = (0, a, 2) := by unfold getS; rw [if_neg (by omega), if_pos h2]
    rw [e]; exact r_cut b a w hn h0 h1 (by simpa using h2)
  have z0 : 0 ≤ a := by omega
  have z1 : a < (b.size : Int) := by omega
  by_cases h3 : bt b a < 128
  · have e : getS b a = (bt b a, a + 1, 0) := by unfold getS; rw [if_neg (by omega), if_neg h2, if_pos h3]
    rw [e]; exact r_short b a w hn z0 z1 h3
  by_cases h4 : bt b a = 128
  · have e : getS b a = (0, a, 4) := by unfold getS; rw [if_neg (by omega), if_neg h2, if_neg h3, if_pos (Or.inl h4)]
    rw [e]; exact r_128 b a w hn z0 z1 (by simpa using h4)
  by_cases h5 : 136 < bt b a
  · have e : getS b a = (0, a, 4) := by unfold getS; rw [if_neg (by omega), if_neg h2, if_neg h3, if_pos (Or.inr h5)]
    rw [e]; exact r_136 b a w hn z0 z1 h5
  have f0 : 128 < bt b a := by omega
  have f1 : bt b a ≤ 136 := by omega
  by_cases h6 : (b.size : Int) ≤ a + 1
  · have e : getS b a = (0, (b.size : Int), 2) := by unfold getS; rw [if_neg (by omega), if_neg h2, if_neg h3, if_neg (by omega), if_pos h6]
    rw [e]; exact r_none b a w hn z0 z1 f0 f1 h6
  have z2 : a + 1 < (b.size : Int) := by omega
  by_cases h7 : bt b (a + 1) = 0
  · have e : getS b a = (0, a + 1, 4) := by unfold getS; rw [if_neg (by omega), if_neg h2, if_neg h3, if_neg (by omega), if_neg h6, if_pos (Or.inl h7)]
    rw [e]; exact r_zero b a w hn z0 z1 f0 f1 z2 (by simpa using h7)
  have h7' : (bt b (a + 1) == 0) = false := by simpa using h7
  obtain ⟨c, hc⟩ : ∃ c : Nat, bt b a - 128 = c := ⟨(bt b a - 128).toNat, by omega⟩
  by_cases h8 : bt b a - 128 = 1
  · by_cases h9 : bt b (a + 1) < 128
    · have e : getS b a = (0, a + 1, 4) := by unfold getS; rw [if_neg (by omega), if_neg h2, if_neg h3, if_neg (by omega), if_neg h6, if_pos (Or.inr ⟨by omega, h9⟩)]
      rw [e]; exact r_one b a w hn z0 z1 f0 f1 z2 h7' h8 h9
    · by_cases h10 : a + (bt b a - 128) ≥ (b.size : Int)
      · have e : getS b a = (0, (b.size : Int), 2) := by unfold getS; rw [if_neg (by omega), if_neg h2, if_neg h3, if_neg (by omega), if_neg h6, if_neg (by omega), if_pos h10]
        rw [e]; exact r_fewer1 b a w hn z0 z1 f0 f1 z2 h7' (by simpa using h8) h9 (by omega)
      · rw [getS_lines b a c z0 z1 hc (by omega) (by omega) (by omega) h7 (by omega)]
        exact r_loop1 b a w hn z0 z1 c hc (by omega) (by omega) (by omega) h7' (by simpa using h8) h9
  · by_cases h10 : a + (bt b a - 128) ≥ (b.size : Int)
    · have e : getS b a = (0, (b.size : Int), 2) := by unfold getS; rw [if_neg (by omega), if_neg h2, if_neg h3, if_neg (by omega), if_neg h6, if_neg (by omega), if_pos h10]
      rw [e]; exact r_fewer b a w hn z0 z1 f0 f1 z2 h7' (by simpa using h8) (by omega)
    · rw [getS_lines b a c z0 z1 hc (by omega) (by omega) (by omega) h7 (by omega)]
      exact r_loop b a w hn z0 z1 c hc (by omega) (by omega) (by omega) h7' (by simpa using h8)

theorem get_c (b : ByteArray) (a : Int) (h : b.size ≤ 140737488351232) (w : World) : Calls Try.prog 12 #[.string b, .int .i64 a] w fun e w' => e = .returned (.tuple #[.int .i64 (getS b a).1, .int .i64 (getS b a).2.1, .int .i64 (getS b a).2.2]) ∧ Below w.heap.size w w' :=
  (length_Get.calls 20 b a _ _ _ w (get_tells b a h 20 (by omega))).mono fun _ _ ⟨he, ⟨n, hw⟩⟩ => ⟨he, by rw [hw]; exact ⟨rfl, rfl, rfl, Nat.le_refl _, fun _ _ => rfl⟩⟩
theorem awake_c (w : World) : Calls Try.prog 11 #[] w fun e w' => e = .returned (.bool true) ∧ Below w.heap.size w w' :=
  gantletlaw06_awake.calls 20 true w (awake_tells 20 (by omega))
theorem step {a b c : World} (h1 : Below a.heap.size a b) (h2 : Below b.heap.size b c) : Below a.heap.size a c := h1.trans (h2.mono h1.size)

set_option maxHeartbeats 400000 in
theorem walk_great (b : ByteArray) (a : Int) (w : World) (h : (200 : Int) < (b.size : Int)) :
    Calls Try.prog 4 #[.string b, .int .i64 a] w fun e w' => e = .returned (.bool true) ∧ Below w.heap.size w w' := by
  go_enter Try.func4, Try.ntmps4
  go_wp2_with fail
  refine (awake_c _).mono ?_
  rintro e w1 ⟨rfl, hb1⟩
  go_wp2_with fail
  refine (awake_c _).mono ?_
  rintro e w2 ⟨rfl, hb2⟩
  go_wp2_with fail
  go_ret
  exact ⟨rfl, step hb1 hb2⟩

set_option maxHeartbeats 400000 in
theorem walk_small (b : ByteArray) (a x y z : Int) (w : World) (h : ¬(200 : Int) < (b.size : Int))
    (P : ∀ w, Calls Try.prog 12 #[.string b, .int .i64 a] w fun e w' => e = .returned (.tuple #[.int .i64 x, .int .i64 y, .int .i64 z]) ∧ Below w.heap.size w w')
    (Q : ∀ w, Calls Try.prog 13 #[.string b, .int .i64 a] w fun e w' => e = .returned (.tuple #[.int .i64 x, .int .i64 y, .int .i64 z]) ∧ Below w.heap.size w w') :
    Calls Try.prog 4 #[.string b, .int .i64 a] w fun e w' => e = .returned (.bool true) ∧ Below w.heap.size w w' := by
  go_enter Try.func4, Try.ntmps4
  go_wp2_with fail
  refine (awake_c _).mono ?_
  rintro e w1 ⟨rfl, hb1⟩
  go_wp2_with fail
  refine (P _).mono ?_
  rintro e w2 ⟨rfl, hb2⟩
  go_wp2_with fail
  refine (Q _).mono ?_
  rintro e w3 ⟨rfl, hb3⟩
  go_wp2_with fail
  go_ret
  exact ⟨rfl, step (step hb1 hb2) hb3⟩

theorem walk (b : ByteArray) (a : Int) (w : World) (hn : b.size ≤ 140737488351232) : Calls Try.prog 4 #[.string b, .int .i64 a] w fun e w' => e = .returned (.bool true) ∧ Below w.heap.size w w' := by
  by_cases h : (200 : Int) < (b.size : Int)
  · exact walk_great b a w h
  · exact walk_small b a _ _ _ w h (get_c b a hn) (ref_c b a hn)
end Go.Proofs.Ytcomechollegfaa.Gets
