/- For every n, all bytes around, every cut: a length that is put is got as it was, and a beginning of its bytes is cut off: the plain law and the walk of the Go text. No condition beyond the reach. -/
import Derived.Test.YtcomechollegfaaPLengthBackx1
import Derived.Test.YtcomechollegfaaNum
namespace Go.Proofs.Ytcomechollegfaa.Back
open Go.RowKit Go.Proofs.Ytcomechollegfaa.PLengthBack Go.Proofs.YtcomechollegfaaW.PrintWords Go.Proofs.YtcomechollegfaaW.PrintLast Go.Proofs.Ytcomechollegfaa.Num

theorem put_loop (f : Nat) : ∀ (k : Nat) (x : Int) (acc : List Int), 0 ≤ x → x < 256 ^ f → f < k → acc.length + f ≤ 8 →
    length_Put.l0 k x acc = some (strOfNums [128 + ((acc.length + cnt f x : Nat) : Int)] ++ strOfNums (digN (cnt f x) x ++ acc), 0) := by
  have last : ∀ (k : Nat) (x : Int) (acc : List Int), x = 0 → 0 < k → acc.length ≤ 8 → length_Put.l0 k x acc = some (strOfNums [128 + (acc.length : Int)] ++ strOfNums acc, 0) := by
    intro k x acc hx hk hl
    obtain ⟨k, rfl⟩ : ∃ m, k = m + 1 := ⟨k - 1, by omega⟩
    simp only [length_Put.l0]
    rw [if_neg (by omega)]
    simp only [Option.bind_some]
    rw [or128 _ (by omega), if_pos (by simp only [strOfNums_size, List.length_singleton]; omega)]
  induction f with
  | zero =>
    intro k x acc h0 h1 hk hl
    have e : x = 0 := by simp at h1; omega
    rw [last k x acc e (by omega) (by omega)]
    simp [cnt, digN]
  | succ f ih =>
    intro k x acc h0 h1 hk hl
    by_cases hx : x > 0
    · obtain ⟨k, rfl⟩ : ∃ m, k = m + 1 := ⟨k - 1, by omega⟩
      simp only [length_Put.l0]
      rw [if_pos hx]
      simp only [Option.bind_some]
      rw [Int.pow_succ] at h1
      rw [if_pos (by simp; omega), ih k (x / 256) _ (by omega) (by omega) (by omega) (by simp; omega)]
      simp only [cnt]
      rw [if_pos hx]
      simp only [digN, List.length_append, List.length_singleton, List.append_assoc]
      have e : 1 + acc.length + cnt f (x / 256) = acc.length + (cnt f (x / 256) + 1) := by omega
      rw [e]
    · have e : x = 0 := by omega
      rw [last k x acc e (by omega) (by omega)]
      subst e
      simp [cnt, digN]

theorem put_tells (n : Int) (k : Nat) (hk : 12 ≤ k) : length_Put.f k n = some (putS n) := by
  obtain ⟨k, rfl⟩ : ∃ m, k = m + 1 := ⟨k - 1, by omega⟩
  unfold length_Put.f putS
  by_cases h0 : n < 0
  · rw [if_pos h0, if_pos (Or.inl h0)]
    simp only [length_Put.j0]
    rw [if_pos trivial]
  · rw [if_neg h0]
    simp only [length_Put.j0]
    by_cases h1 : n > 2305843009213693951
    · rw [if_pos (by simpa using h1), if_pos (Or.inr h1)]
    · rw [if_neg (by simpa using h1), if_neg (show ¬(n < 0 ∨ n > 2305843009213693951) by omega)]
      by_cases h2 : n < 128
      · rw [if_pos h2, if_pos h2]
      · rw [if_neg h2, if_neg h2, put_loop 8 k n [] (by omega) (by omega) (by omega) (by simp)]
        simp

theorem get_loop (b : ByteArray) (a : Int) (c : Nat) (ha : 0 ≤ a) (hs : a < b.size) (hn : b.size ≤ 140737488351232) (hc : c ≤ 8) (d : Nat) :
    ∀ (k i : Nat), i + d = c → d < k → 1 ≤ i → a + i < b.size →
    length_Get.l0 k b a c (valAt b (a + 1) i) c i = some (if a + c ≥ (b.size : Int) then (0, (b.size : Int), 2)
      else if valAt b (a + 1) c > 2305843009213693951 then (0, a + c, 4) else (valAt b (a + 1) c, a + 1 + c, 0)) := by
  induction d with
  | zero =>
    intro k i hi hk h1 hb
    obtain ⟨k, rfl⟩ : ∃ m, k = m + 1 := ⟨k - 1, by omega⟩
    obtain rfl : i = c := by omega
    have r := valAt_range b (a + 1) i
    simp only [length_Get.l0]
    rw [if_neg (show ¬(i : Int) < i by omega), if_neg (show ¬a + (i : Int) ≥ (b.size : Int) by omega)]
    by_cases hv : valAt b (a + 1) i > 2305843009213693951
    · rw [if_pos hv, if_pos hv, show wrap64 (a + i) = a + i from by unfold wrap64; omega]
    · rw [if_neg hv, if_neg hv, show wrap64 (valAt b (a + 1) i) = valAt b (a + 1) i from by unfold wrap64; omega,
        show wrap64 (a + 1) = a + 1 from by unfold wrap64; omega, show wrap64 (a + 1 + i) = a + 1 + i from by unfold wrap64; omega]
  | succ d ih =>
    intro k i hi hk h1 hb
    obtain ⟨k, rfl⟩ : ∃ m, k = m + 1 := ⟨k - 1, by omega⟩
    have r := valAt_range b (a + 1) i
    have hpow : (256 : Int) ^ i ≤ 256 ^ 7 := by
      have h7 : i ≤ 7 := by omega
      have h : i = 1 ∨ i = 2 ∨ i = 3 ∨ i = 4 ∨ i = 5 ∨ i = 6 ∨ i = 7 := by omega
      rcases h with rfl | rfl | rfl | rfl | rfl | rfl | rfl <;> decide
    have hw : wrap64 (wrap64 (a + 1) + i) = a + 1 + i := by unfold wrap64; omega
    have rb := bt_range b (a + 1 + i)
    simp only [length_Get.l0]
    rw [hw, if_pos (show (i : Int) < c by omega)]
    by_cases he : a + 1 + i ≥ (b.size : Int)
    · rw [if_pos he, if_pos (show a + (c : Int) ≥ (b.size : Int) by omega)]
    · rw [if_neg he, if_pos (show 0 ≤ a + 1 + (i : Int) by omega), if_pos (show a + 1 + (i : Int) < (b.size : Int) by omega), if_neg (show ¬(i : Int) = 0 by omega),
        or_byte _ _ (by omega) (by omega) (by omega) (by omega), show wrap64 ((i : Int) + 1) = ((i + 1 : Nat) : Int) from by unfold wrap64; omega]
      exact ih k (i + 1) (by omega) (by omega) (by omega) (by omega)

theorem get_tells (b : ByteArray) (a : Int) (hn : b.size ≤ 140737488351232) (k : Nat) (hk : 16 ≤ k) : length_Get.f k b a = some (getS b a) := by
  obtain ⟨k, rfl⟩ : ∃ m, k = m + 2 := ⟨k - 2, by omega⟩
  have r := bt_range b a
  have wr : ∀ x : Int, -9223372036854775808 ≤ x → x < 9223372036854775808 → wrap64 x = x := fun x h1 h2 => by unfold wrap64; omega
  unfold length_Get.f getS
  by_cases h0 : a < 0
  · rw [if_pos h0, if_pos (Or.inl h0)]
    simp only [length_Get.j0]
    rw [if_pos trivial]
  rw [if_neg h0]
  simp only [length_Get.j0]
  by_cases h1 : a > (b.size : Int)
  · rw [if_pos (by simpa using h1), if_pos (Or.inr h1)]
  rw [if_neg (by simpa using h1), if_neg (show ¬(a < 0 ∨ a > (b.size : Int)) by omega)]
  by_cases h2 : a = (b.size : Int)
  · rw [if_pos h2, if_pos h2]
  rw [if_neg h2, if_neg h2, if_pos (show 0 ≤ a by omega), if_pos (show a < (b.size : Int) by omega)]
  rw [wr (bt b a) (by omega) (by omega), wr (a + 1) (by omega) (by omega)]
  by_cases h3 : bt b a < 128
  · rw [if_pos h3, if_pos h3]
  rw [if_neg h3, if_neg h3, wr (bt b a - 128) (by omega) (by omega)]
  simp only [length_Get.j1]
  by_cases h4 : bt b a - 128 = 0
  · rw [if_pos h4, if_pos trivial, if_pos (show bt b a = 128 ∨ bt b a > 136 by omega)]
  rw [if_neg h4]
  by_cases h5 : bt b a - 128 > 8
  · rw [if_pos (by simpa using h5), if_pos (show bt b a = 128 ∨ bt b a > 136 by omega)]
  rw [if_neg (by simpa using h5), if_neg (show ¬(bt b a = 128 ∨ bt b a > 136) by omega)]
  obtain ⟨c, hc⟩ : ∃ c : Nat, bt b a - 128 = c := ⟨(bt b a - 128).toNat, by omega⟩
  obtain ⟨k, rfl⟩ : ∃ m, k = m + 1 := ⟨k - 1, by omega⟩
  have e1 : bt b a = 129 ↔ (c : Int) = 1 := by omega
  rw [hc, Int.toNat_natCast]
  have rb := bt_range b (a + 1)
  simp only [length_Get.l0]
  rw [if_pos (show (0 : Int) < c by omega), wr (a + 1) (by omega) (by omega), wr (a + 1 + 0) (by omega) (by omega)]
  simp only [Int.add_zero]
  by_cases h6 : a + 1 ≥ (b.size : Int)
  · rw [if_pos h6, if_pos h6]
  rw [if_neg h6, if_neg h6, if_pos (show 0 ≤ a + 1 by omega), if_pos (show a + 1 < (b.size : Int) by omega), if_pos trivial]
  have go : length_Get.l0 k b a c (Go.bits .or .u64 (IntKind.u64.wrap (0 * 256)) (IntKind.u64.wrap (bt b (a + 1)))) c (wrap64 (0 + 1)) = some (if a + c ≥ (b.size : Int) then (0, (b.size : Int), 2)
      else if valAt b (a + 1) c > 2305843009213693951 then (0, a + c, 4) else (valAt b (a + 1) c, a + 1 + c, 0)) := by
    rw [or_byte _ _ (by omega) (by omega) (by omega) (by omega), wr (0 + 1) (by omega) (by omega)]
    have := get_loop b a c (by omega) (by omega) hn (by omega) (c - 1) k 1 (by omega) (by omega) (by omega) (by omega)
    simpa [valAt] using this
  by_cases h7 : bt b (a + 1) = 0
  · rw [if_pos h7, if_pos (Or.inl h7)]
  rw [if_neg h7]
  by_cases h8 : (c : Int) = 1
  · rw [if_pos h8]
    by_cases h9 : bt b (a + 1) < 128
    · rw [if_pos h9, if_pos (Or.inr ⟨e1.2 h8, h9⟩)]
    · rw [if_neg h9, if_neg (show ¬(bt b (a + 1) = 0 ∨ bt b a = 129 ∧ bt b (a + 1) < 128) by omega), go]
  · rw [if_neg h8, if_neg (show ¬(bt b (a + 1) = 0 ∨ bt b a = 129 ∧ bt b (a + 1) < 128) by omega), go]

theorem awake_tells (k : Nat) (hk : 16 ≤ k) : gantletlaw06_awake.f k = some true := at_rounds gantletlaw06_awake.mono hk (by kernel_rfl)

/-! ### the plain law -/
theorem get_long (b : ByteArray) (a n : Int) (c : Nat) (ha : 0 ≤ a) (hn : n ≤ 2305843009213693951) (h128 : 128 ≤ n) (c1 : 1 ≤ c) (c8 : c ≤ 8) (hlt : n < 256 ^ c) (hle : 256 ^ (c - 1) ≤ n)
    (hs : a + 1 + c ≤ b.size) (h0 : bt b a = 128 + c) (h1 : ∀ j : Nat, j < c → bt b (a + (1 + (j : Int))) = n / 256 ^ (c - 1 - j) % 256) : getS b a = (n, a + 1 + c, 0) := by
  have f0 := h1 0 (by omega)
  simp only [Int.natCast_zero, Int.add_zero, Nat.sub_zero] at f0
  have hq : n / 256 ^ (c - 1) < 256 := by
    apply Int.ediv_lt_of_lt_mul (pow_pos' _)
    rw [Int.mul_comm, ← Int.pow_succ, show (c - 1).succ = c from by omega]
    exact hlt
  have hq0 : 0 < n / 256 ^ (c - 1) := by
    have := Int.le_ediv_of_mul_le (a := 1) (pow_pos' (c - 1)) (by omega : 1 * (256 : Int) ^ (c - 1) ≤ n)
    omega
  have e1 : c = 1 → n / 256 ^ (c - 1) = n := by rintro rfl; simp
  have hv : valAt b (a + 1) c = n := by
    have := valAt_of b (a + 1) n c (by omega) hlt (fun i hi => by
      have := h1 i hi
      rw [show a + 1 + (i : Int) = a + (1 + (i : Int)) from by omega]
      exact this) c (Nat.le_refl _)
    simpa using this
  unfold getS
  rw [if_neg (by omega), if_neg (by omega), h0, if_neg (by omega), if_neg (by omega), if_neg (by omega), if_neg (by omega), if_neg (by omega), show (128 + (c : Int) - 128).toNat = c from by omega, hv, if_neg (by omega)]
  simp
  omega

theorem back1 (m : ByteArray) (n : Int) (h0 : 0 ≤ n) (h1 : n ≤ 2305843009213693951) : getS (m ++ (putS n).1 ++ m) m.size = (n, (m.size : Int) + (putS n).1.size, 0) := by
  have at' : ∀ i : Int, 0 ≤ i → i < (putS n).1.size → bt (m ++ (putS n).1 ++ m) ((m.size : Int) + i) = bt (putS n).1 i := by
    intro i hi hi2
    rw [bt_append_left _ _ _ (by omega) (by rw [ByteArray.size_append]; omega), bt_append_right _ _ _ hi]
  have sz : (m ++ (putS n).1 ++ m).size = m.size + (putS n).1.size + m.size := by rw [ByteArray.size_append, ByteArray.size_append]
  by_cases h : n < 128
  · obtain ⟨_, s, hb⟩ := putS_short n h0 h
    have e := at' 0 (by omega) (by omega)
    rw [Int.add_zero, hb] at e
    unfold getS
    rw [if_neg (by omega), if_neg (by omega), e, if_pos h, s]
    rfl
  · obtain ⟨c, _, c1, c8, hlt, hle, _, s, b0, bj⟩ := putS_long n (by omega) h1
    have e := at' 0 (by omega) (by omega)
    rw [Int.add_zero, b0] at e
    rw [get_long (m ++ (putS n).1 ++ m) m.size n c (by omega) h1 (by omega) c1 c8 hlt hle (by omega) e (fun j hj => by rw [at' _ (by omega) (by omega)]; exact bj j hj), s]
    simp
    omega

theorem back2 (n : Int) (cut : Nat) (h0 : 0 ≤ n) (h1 : n ≤ 2305843009213693951) (hc : cut < (putS n).1.size) : (getS ((putS n).1.extract 0 cut) 0).2 = ((cut : Int), 2) := by
  have sz : ((putS n).1.extract 0 cut).size = cut := by rw [ByteArray.size_extract]; omega
  have at' : ∀ i : Int, 0 ≤ i → i < cut → bt ((putS n).1.extract 0 cut) i = bt (putS n).1 i := by
    intro i hi hi2
    rw [bt_extract _ _ _ _ (by omega) hi (by omega)]
    congr 1
    omega
  unfold getS
  rw [if_neg (by omega), sz]
  by_cases hz : cut = 0
  · rw [if_pos (by omega)]
    simp
    omega
  rw [if_neg (by omega)]
  by_cases h : n < 128
  · obtain ⟨_, s, hb⟩ := putS_short n h0 h
    omega
  · obtain ⟨c, _, c1, c8, hlt, hle, _, s, b0, bj⟩ := putS_long n (by omega) h1
    rw [at' 0 (by omega) (by omega), b0, if_neg (by omega), if_neg (by omega)]
    by_cases h1 : cut = 1
    · rw [if_pos (by omega)]
    have f0 := bj 0 (by omega)
    simp only [Int.natCast_zero, Int.add_zero, Nat.sub_zero] at f0
    have hq : n / 256 ^ (c - 1) < 256 := by
      apply Int.ediv_lt_of_lt_mul (pow_pos' _)
      rw [Int.mul_comm, ← Int.pow_succ, show (c - 1).succ = c from by omega]
      exact hlt
    have hq0 : 0 < n / 256 ^ (c - 1) := by
      have := Int.le_ediv_of_mul_le (a := 1) (pow_pos' (c - 1)) (by omega : 1 * (256 : Int) ^ (c - 1) ≤ n)
      omega
    rw [if_neg (by omega), show (0 : Int) + 1 = 1 from rfl, at' 1 (by omega) (by omega), if_neg (by omega), if_pos (by omega)]

/-! ### the walk -/
theorem put_c (n : Int) (w : World) : Calls Try.prog 9 #[.int .i64 n] w fun e w' => e = .returned (.tuple #[.string (putS n).1, .int .i64 (putS n).2]) ∧ Below w.heap.size w w' :=
  length_Put.calls 20 n _ _ w (put_tells n 20 (by omega))
theorem get_c (b : ByteArray) (a : Int) (h : b.size ≤ 140737488351232) (w : World) : Calls Try.prog 12 #[.string b, .int .i64 a] w fun e w' => e = .returned (.tuple #[.int .i64 (getS b a).1, .int .i64 (getS b a).2.1, .int .i64 (getS b a).2.2]) ∧ Below w.heap.size w w' :=
  (length_Get.calls 20 b a _ _ _ w (get_tells b a h 20 (by omega))).mono fun _ _ ⟨he, ⟨n, hw⟩⟩ => ⟨he, by rw [hw]; exact ⟨rfl, rfl, rfl, Nat.le_refl _, fun _ _ => rfl⟩⟩
theorem awake_c (w : World) : Calls Try.prog 11 #[] w fun e w' => e = .returned (.bool true) ∧ Below w.heap.size w w' :=
  gantletlaw06_awake.calls 20 true w (awake_tells 20 (by omega))
theorem step {a b c : World} (h1 : Below a.heap.size a b) (h2 : Below b.heap.size b c) : Below a.heap.size a c := h1.trans (h2.mono h1.size)

set_option maxHeartbeats 400000 in
theorem walk_great (n cut : Int) (m : ByteArray) (w : World) (h : (100 : Int) < (m.size : Int)) :
    Calls Try.prog 5 #[.int .i64 n, .string m, .int .i64 cut] w fun e w' => e = .returned (.bool true) ∧ Below w.heap.size w w' := by
  go_enter Try.func5, Try.ntmps5
  go_wp2_with fail
  refine (awake_c _).mono ?_
  rintro e w1 ⟨rfl, hb1⟩
  go_wp2_with fail
  refine (awake_c _).mono ?_
  rintro e w2 ⟨rfl, hb2⟩
  go_wp2_with fail
  go_ret
  exact ⟨rfl, step hb1 hb2⟩

set_option maxHeartbeats 400000 in
theorem walk_none (n cut : Int) (m : ByteArray) (w : World) (h : ¬(100 : Int) < (m.size : Int)) (P : ∀ w, Calls Try.prog 9 #[.int .i64 n] w fun e w' => e = .returned (.tuple #[.string ⟨#[]⟩, .int .i64 1]) ∧ Below w.heap.size w w') :
    Calls Try.prog 5 #[.int .i64 n, .string m, .int .i64 cut] w fun e w' => e = .returned (.bool true) ∧ Below w.heap.size w w' := by
  go_enter Try.func5, Try.ntmps5
  go_wp2_with fail
  refine (awake_c _).mono ?_
  rintro e w1 ⟨rfl, hb1⟩
  go_wp2_with fail
  refine (P _).mono ?_
  rintro e w2 ⟨rfl, hb2⟩
  go_wp2_with fail
  go_ret
  exact ⟨by simp, step hb1 hb2⟩

set_option maxHeartbeats 400000 in
theorem walk_got (n cut : Int) (m s : ByteArray) (w : World) (h : ¬(100 : Int) < (m.size : Int)) (hs : s.size ≤ 9) (P : ∀ w, Calls Try.prog 9 #[.int .i64 n] w fun e w' => e = .returned (.tuple #[.string s, .int .i64 0]) ∧ Below w.heap.size w w')
    (G : ∀ w, Calls Try.prog 12 #[.string (m ++ s ++ m), .int .i64 m.size] w fun e w' => e = .returned (.tuple #[.int .i64 n, .int .i64 ((m.size : Int) + s.size), .int .i64 0]) ∧ Below w.heap.size w w')
    (hc : cut < 0 ∨ cut ≥ s.size) :
    Calls Try.prog 5 #[.int .i64 n, .string m, .int .i64 cut] w fun e w' => e = .returned (.bool true) ∧ Below w.heap.size w w' := by
  have b1 : m.size + s.size ≤ 9223372036854775807 := by omega
  have b2 : (m ++ s).size + m.size ≤ 9223372036854775807 := by rw [ByteArray.size_append]; omega
  rcases hc with hc | hc
  · go_enter Try.func5, Try.ntmps5
    go_wp2_with fail
    refine (awake_c _).mono ?_
    rintro e w1 ⟨rfl, hb1⟩
    go_wp2_with fail
    refine (P _).mono ?_
    rintro e w2 ⟨rfl, hb2⟩
    go_wp2_with fail
    refine (G _).mono ?_
    rintro e w3 ⟨rfl, hb3⟩
    go_wp2_with fail
    go_ret
    exact ⟨rfl, step (step hb1 hb2) hb3⟩
  · by_cases h0 : cut < 0
    · omega
    have hc2 : (s.size : Int) ≤ cut := hc
    go_enter Try.func5, Try.ntmps5
    go_wp2_with fail
    refine (awake_c _).mono ?_
    rintro e w1 ⟨rfl, hb1⟩
    go_wp2_with fail
    refine (P _).mono ?_
    rintro e w2 ⟨rfl, hb2⟩
    go_wp2_with fail
    refine (G _).mono ?_
    rintro e w3 ⟨rfl, hb3⟩
    go_wp2_with fail
    go_ret
    exact ⟨rfl, step (step hb1 hb2) hb3⟩

set_option maxHeartbeats 400000 in
theorem walk_cut (n : Int) (cut : Nat) (v : Int) (m s : ByteArray) (w : World) (h : ¬(100 : Int) < (m.size : Int)) (hs : s.size ≤ 9) (P : ∀ w, Calls Try.prog 9 #[.int .i64 n] w fun e w' => e = .returned (.tuple #[.string s, .int .i64 0]) ∧ Below w.heap.size w w')
    (G : ∀ w, Calls Try.prog 12 #[.string (m ++ s ++ m), .int .i64 m.size] w fun e w' => e = .returned (.tuple #[.int .i64 n, .int .i64 ((m.size : Int) + s.size), .int .i64 0]) ∧ Below w.heap.size w w')
    (K : ∀ w, Calls Try.prog 12 #[.string (s.extract 0 cut), .int .i64 0] w fun e w' => e = .returned (.tuple #[.int .i64 v, .int .i64 cut, .int .i64 2]) ∧ Below w.heap.size w w')
    (hc : (cut : Int) < s.size) :
    Calls Try.prog 5 #[.int .i64 n, .string m, .int .i64 cut] w fun e w' => e = .returned (.bool true) ∧ Below w.heap.size w w' := by
  have b1 : m.size + s.size ≤ 9223372036854775807 := by omega
  have b2 : (m ++ s).size + m.size ≤ 9223372036854775807 := by rw [ByteArray.size_append]; omega
  have c0 : (0 : Int) ≤ cut := by omega
  have c1 : ¬(s.size : Int) ≤ cut := by omega
  have c2 : (cut : Int) ≤ s.size := by omega
  go_enter Try.func5, Try.ntmps5
  go_wp2_with fail
  refine (awake_c _).mono ?_
  rintro e w1 ⟨rfl, hb1⟩
  go_wp2_with fail
  refine (P _).mono ?_
  rintro e w2 ⟨rfl, hb2⟩
  go_wp2_with fail
  refine (G _).mono ?_
  rintro e w3 ⟨rfl, hb3⟩
  go_wp2_with fail
  refine (K _).mono ?_
  rintro e w4 ⟨rfl, hb4⟩
  go_wp2_with fail
  go_ret
  exact ⟨rfl, step (step (step hb1 hb2) hb3) hb4⟩

theorem walk (n : Int) (m : ByteArray) (cut : Int) (w : World) : Calls Try.prog 5 #[.int .i64 n, .string m, .int .i64 cut] w fun e w' => e = .returned (.bool true) ∧ Below w.heap.size w w' := by
  by_cases h : (100 : Int) < (m.size : Int)
  · exact walk_great n cut m w h
  have P := put_c n
  by_cases h1 : (putS n).2 = 0
  · rw [h1] at P
    obtain ⟨n0, n1⟩ := putS_ok n h1
    have hs : (putS n).1.size ≤ 9 := by
      by_cases hn : n < 128
      · obtain ⟨_, s, _⟩ := putS_short n n0 hn
        omega
      · obtain ⟨c, _, _, c8, _, _, _, s, _⟩ := putS_long n (by omega) n1
        omega
    have G := get_c (m ++ (putS n).1 ++ m) m.size (by rw [ByteArray.size_append, ByteArray.size_append]; omega)
    rw [back1 m n n0 n1] at G
    by_cases hc : cut < 0 ∨ cut ≥ (putS n).1.size
    · exact walk_got n cut m _ w h hs P G hc
    · obtain ⟨c, rfl⟩ : ∃ c : Nat, cut = c := ⟨cut.toNat, by omega⟩
      have K := get_c ((putS n).1.extract 0 c) 0 (by rw [ByteArray.size_extract]; omega)
      rw [back2 n c n0 n1 (by omega)] at K
      exact walk_cut n c _ m _ w h hs P G K (by omega)
  · rw [(putS_err n h1).1] at P
    exact walk_none n cut m w h P
end Go.Proofs.Ytcomechollegfaa.Back
