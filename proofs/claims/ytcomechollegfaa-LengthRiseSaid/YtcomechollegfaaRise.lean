/- For all n and m: of two lengths the greater one never has fewer bytes, and of like many bytes those of a higher order: the walk of the Go text and the plain law behind it. No condition beyond the kinds. -/
import Derived.Test.YtcomechollegfaaPLengthRisex1
import Derived.Test.YtcomechollegfaaNum
import Derived.WalkLawsBesides
namespace Go.Proofs.Ytcomechollegfaa.Rise
open Go.RowKit Go.Proofs.Ytcomechollegfaa.PLengthRise Go.Proofs.YtcomechollegfaaW.PrintWords Go.Proofs.YtcomechollegfaaW.PrintLast Go.Proofs.Ytcomechollegfaa.Num

theorem put_loop (f : Nat) : ∀ (k : Nat) (x : Int) (acc : List Int), 0 ≤ x → x < 256 ^ f → f < k → acc.length + f ≤ 8 →
    length_Put.l0 k x acc = some (strOfNums [128 + ((acc.length + cnt f x : Nat) : Int)] ++ strOfNums (digN (cnt f x) x ++ acc), 0) := by
  have last : ∀ (k : Nat) (x : Int) (acc : List Int), x = 0 → 0 < k → acc.length ≤ 8 → length_Put.l0 k x acc = some (strOfNums [128 + (acc.length : Int)] ++ strOfNums acc, 0) := by
    intro k x acc hx hk hl
    obtain ⟨k, rfl⟩ : ∃ m, k = m + 1 := ⟨k - 1, by omega⟩
    simp only [length_Put.l0]
    rw [if_neg (by omega)]
    simp only [Option.bind_some]
    rw [or128 _ (by omega), if_pos (by simp only [strOfNums_size, List.length_singleton]; omega)]
  induction f with
  | zero =>
    intro k x acc h0 h1 hk hl
    have e : x = 0 := by simp at h1; omega
    rw [last k x acc e (by omega) (by omega)]
    simp [cnt, digN]
  | succ f ih =>
    intro k x acc h0 h1 hk hl
    by_cases hx : x > 0
    · obtain ⟨k, rfl⟩ : ∃ m, k = m + 1 := ⟨k - 1, by omega⟩
      simp only [length_Put.l0]
      rw [if_pos hx]
      simp only [Option.bind_some]
      rw [Int.pow_succ] at h1
      rw [if_pos (by simp; omega), ih k (x / 256) _ (by omega) (by omega) (by omega) (by simp; omega)]
      simp only [cnt]
      rw [if_pos hx]
      simp only [digN, List.length_append, List.length_singleton, List.append_assoc]
      have e : 1 + acc.length + cnt f (x / 256) = acc.length + (cnt f (x / 256) + 1) := by omega
      rw [e]
    · have e : x = 0 := by omega
      rw [last k x acc e (by omega) (by omega)]
      subst e
      simp [cnt, digN]

theorem put_tells (n : Int) (k : Nat) (hk : 12 ≤ k) : length_Put.f k n = some (putS n) := by
  obtain ⟨k, rfl⟩ : ∃ m, k = m + 1 := ⟨k - 1, by omega⟩
  unfold length_Put.f putS
  by_cases h0 : n < 0
  · rw [if_pos h0, if_pos (Or.inl h0)]
    simp only [length_Put.j0]
    rw [if_pos trivial]
  · rw [if_neg h0]
    simp only [length_Put.j0]
    by_cases h1 : n > 2305843009213693951
    · rw [if_pos (by simpa using h1), if_pos (Or.inr h1)]
    · rw [if_neg (by simpa using h1), if_neg (show ¬(n < 0 ∨ n > 2305843009213693951) by omega)]
      by_cases h2 : n < 128
      · rw [if_pos h2, if_pos h2]
      · rw [if_neg h2, if_neg h2, put_loop 8 k n [] (by omega) (by omega) (by omega) (by simp)]
        simp

theorem awake_tells (k : Nat) (hk : 16 ≤ k) : gantletlaw06_awake.f k = some true := at_rounds gantletlaw06_awake.mono hk (by kernel_rfl)

/-! ### the plain law -/
theorem less_snoc (x y : UInt8) : ∀ a b : List UInt8, a.length = b.length → Op.bytesLess (a ++ [x]) (b ++ [y]) = (Op.bytesLess a b || (a == b && decide (x < y)))
  | [], [], _ => by simp [Op.bytesLess]
  | c :: a, d :: b, h => by
    have ih := less_snoc x y a b (by simpa using h)
    simp only [List.cons_append, Op.bytesLess, ih]
    by_cases hc : c = d
    · subst hc
      simp
    · have : (c == d) = false := by simpa using hc
      simp [this]
  | [], d :: b, h => by simp at h
  | c :: a, [], h => by simp at h

def D (c : Nat) (n : Int) : List UInt8 := (digN c n).map fun v => UInt8.ofNat v.toNat
theorem D_length (c : Nat) (n : Int) : (D c n).length = c := by simp [D, digN_length]
theorem D_less (c : Nat) : ∀ n m : Int, 0 ≤ n → n < m → m < 256 ^ c → Op.bytesLess (D c n) (D c m) = true := by
  induction c with
  | zero => intro n m h0 h1 h2; simp at h2; omega
  | succ c ih =>
    intro n m h0 h1 h2
    have e : ∀ z, D (c + 1) z = D c (z / 256) ++ [UInt8.ofNat (z % 256).toNat] := fun z => by simp [D, digN]
    rw [e, e, less_snoc _ _ _ _ (by rw [D_length, D_length])]
    rw [Int.pow_succ] at h2
    by_cases hq : n / 256 < m / 256
    · rw [ih _ _ (by omega) hq (by omega)]; rfl
    · have hq2 : n / 256 = m / 256 := by omega
      rw [hq2]
      have : UInt8.ofNat (n % 256).toNat < UInt8.ofNat (m % 256).toNat := by
        rw [UInt8.lt_iff_toNat_lt, UInt8.toNat_ofNat', UInt8.toNat_ofNat']
        omega
      simp [this]

theorem putS_list (n : Int) (h1 : 128 ≤ n) (h2 : n ≤ 2305843009213693951) : (putS n).1.toList = UInt8.ofNat (128 + (cnt 8 n : Int)).toNat :: D (cnt 8 n) n := by
  have e : putS n = (strOfNums [128 + (cnt 8 n : Int)] ++ strOfNums (digN (cnt 8 n) n), 0) := by
    unfold putS
    rw [if_neg (show ¬(n < 0 ∨ n > 2305843009213693951) by omega), if_neg (show ¬n < 128 by omega)]
  rw [e, ByteArray.toList_eq]
  simp only [ByteArray.data_append, Array.toList_append, strOfNums_data]
  simp [D]

theorem putS_list1 (n : Int) (h1 : 0 ≤ n) (h2 : n < 128) : (putS n).1.toList = [UInt8.ofNat n.toNat] := by
  have e : putS n = (strOfNums [n % 256], 0) := by
    unfold putS
    rw [if_neg (show ¬(n < 0 ∨ n > 2305843009213693951) by omega), if_pos h2]
  rw [e, ByteArray.toList_eq, strOfNums_data]
  simp
  rw [Int.emod_eq_of_lt h1 (by omega)]

theorem rise (n m : Int) (h0 : 0 ≤ n) (h1 : n ≤ m) (h2 : m ≤ 2305843009213693951) : (putS n).1.size ≤ (putS m).1.size ∧
    ((putS n).1.size = (putS m).1.size → (Op.bytesLess (putS n).1.toList (putS m).1.toList || (putS n).1.toList == (putS m).1.toList) = true) := by
  have p8 : (256 : Int) ^ 8 = 18446744073709551616 := by decide
  by_cases e : n = m
  · subst e; simp
  by_cases hm : m < 128
  · obtain ⟨_, s1, _⟩ := putS_short n h0 (by omega)
    obtain ⟨_, s2, _⟩ := putS_short m (by omega) hm
    refine ⟨by omega, fun _ => ?_⟩
    rw [putS_list1 n h0 (by omega), putS_list1 m (by omega) hm]
    have : UInt8.ofNat n.toNat < UInt8.ofNat m.toNat := by
      rw [UInt8.lt_iff_toNat_lt, UInt8.toNat_ofNat', UInt8.toNat_ofNat']
      omega
    simp [Op.bytesLess, this]
  · obtain ⟨c, hc, c1, c8, hlt, hle, _, s2, _⟩ := putS_long m (by omega) h2
    by_cases hn : n < 128
    · obtain ⟨_, s1, _⟩ := putS_short n h0 hn
      exact ⟨by omega, fun h => by omega⟩
    · obtain ⟨d, hd, d1, d8, dlt, dle, _, s1, _⟩ := putS_long n (by omega) (by omega)
      have : d ≤ c := by rw [← hd]; exact cnt_le_of (by omega) (by omega) (by omega)
      refine ⟨by omega, fun h => ?_⟩
      have hcd : d = c := by omega
      rw [putS_list n (by omega) (by omega), putS_list m (by omega) (by omega), hc, hd, hcd]
      have := D_less c n m h0 (by omega) hlt
      simp [Op.bytesLess, this]

/-! ### the walk -/
theorem put_c (n : Int) (w : World) : Calls Try.prog 9 #[.int .i64 n] w fun e w' => e = .returned (.tuple #[.string (putS n).1, .int .i64 (putS n).2]) ∧ Below w.heap.size w w' :=
  length_Put.calls 20 n _ _ w (put_tells n 20 (by omega))
theorem awake_c (w : World) : Calls Try.prog 11 #[] w fun e w' => e = .returned (.bool true) ∧ Below w.heap.size w w' :=
  gantletlaw06_awake.calls 20 true w (awake_tells 20 (by omega))

theorem below3 {a b c d : World} (h1 : Below a.heap.size a b) (h2 : Below b.heap.size b c) (h3 : Below c.heap.size c d) : Below a.heap.size a d :=
  (h1.trans (h2.mono h1.size)).trans (h3.mono (Nat.le_trans h1.size h2.size))

set_option maxHeartbeats 400000 in
theorem walk_less (n m : Int) (s t : ByteArray) (w : World) (P : ∀ w, Calls Try.prog 9 #[.int .i64 n] w fun e w' => e = .returned (.tuple #[.string s, .int .i64 0]) ∧ Below w.heap.size w w')
    (Q : ∀ w, Calls Try.prog 9 #[.int .i64 m] w fun e w' => e = .returned (.tuple #[.string t, .int .i64 0]) ∧ Below w.heap.size w w') (hnm : ¬m < n) (hs : (s.size : Int) < (t.size : Int)) :
    Calls Try.prog 7 #[.int .i64 n, .int .i64 m] w fun e w' => e = .returned (.bool true) ∧ Below w.heap.size w w' := by
  have hle : (s.size : Int) ≤ (t.size : Int) := by omega
  go_enter Try.func7, Try.ntmps7
  go_wp2_with fail
  refine (P _).mono ?_
  rintro e w1 ⟨rfl, hb1⟩
  go_wp2_with fail
  refine (Q _).mono ?_
  rintro e w2 ⟨rfl, hb2⟩
  go_wp2_with fail
  refine (awake_c _).mono ?_
  rintro e w3 ⟨rfl, hb3⟩
  go_wp2_with fail
  go_ret
  exact ⟨rfl, below3 hb1 hb2 hb3⟩
set_option maxHeartbeats 400000 in
theorem walk_like (n m : Int) (s t : ByteArray) (w : World) (P : ∀ w, Calls Try.prog 9 #[.int .i64 n] w fun e w' => e = .returned (.tuple #[.string s, .int .i64 0]) ∧ Below w.heap.size w w')
    (Q : ∀ w, Calls Try.prog 9 #[.int .i64 m] w fun e w' => e = .returned (.tuple #[.string t, .int .i64 0]) ∧ Below w.heap.size w w') (hnm : ¬m < n) (hs : (s.size : Int) ≤ (t.size : Int)) (hs2 : ¬(s.size : Int) < (t.size : Int)) (hl : (Op.bytesLess s.toList t.toList || s.toList == t.toList) = true) :
    Calls Try.prog 7 #[.int .i64 n, .int .i64 m] w fun e w' => e = .returned (.bool true) ∧ Below w.heap.size w w' := by
  go_enter Try.func7, Try.ntmps7
  go_wp2_with fail
  refine (P _).mono ?_
  rintro e w1 ⟨rfl, hb1⟩
  go_wp2_with fail
  refine (Q _).mono ?_
  rintro e w2 ⟨rfl, hb2⟩
  go_wp2_with fail
  refine (awake_c _).mono ?_
  rintro e w3 ⟨rfl, hb3⟩
  go_wp2_with fail
  go_ret
  exact ⟨rfl, below3 hb1 hb2 hb3⟩
set_option maxHeartbeats 400000 in
theorem walk_more (n m : Int) (s t : ByteArray) (w : World) (P : ∀ w, Calls Try.prog 9 #[.int .i64 n] w fun e w' => e = .returned (.tuple #[.string s, .int .i64 0]) ∧ Below w.heap.size w w')
    (Q : ∀ w, Calls Try.prog 9 #[.int .i64 m] w fun e w' => e = .returned (.tuple #[.string t, .int .i64 0]) ∧ Below w.heap.size w w') (hnm : m < n) :
    Calls Try.prog 7 #[.int .i64 n, .int .i64 m] w fun e w' => e = .returned (.bool true) ∧ Below w.heap.size w w' := by
  go_enter Try.func7, Try.ntmps7
  go_wp2_with fail
  refine (P _).mono ?_
  rintro e w1 ⟨rfl, hb1⟩
  go_wp2_with fail
  refine (Q _).mono ?_
  rintro e w2 ⟨rfl, hb2⟩
  go_wp2_with fail
  refine (awake_c _).mono ?_
  rintro e w3 ⟨rfl, hb3⟩
  go_wp2_with fail
  refine (awake_c _).mono ?_
  rintro e w4 ⟨rfl, hb4⟩
  go_wp2_with fail
  go_ret
  exact ⟨rfl, (below3 hb1 hb2 hb3).trans (hb4.mono (Nat.le_trans hb1.size (Nat.le_trans hb2.size hb3.size)))⟩
set_option maxHeartbeats 400000 in
theorem walk_none (n m : Int) (v : Int) (s t : ByteArray) (w : World) (P : ∀ w, Calls Try.prog 9 #[.int .i64 n] w fun e w' => e = .returned (.tuple #[.string s, .int .i64 1]) ∧ Below w.heap.size w w')
    (Q : ∀ w, Calls Try.prog 9 #[.int .i64 m] w fun e w' => e = .returned (.tuple #[.string t, .int .i64 v]) ∧ Below w.heap.size w w') :
    Calls Try.prog 7 #[.int .i64 n, .int .i64 m] w fun e w' => e = .returned (.bool true) ∧ Below w.heap.size w w' := by
  go_enter Try.func7, Try.ntmps7
  go_wp2_with fail
  refine (P _).mono ?_
  rintro e w1 ⟨rfl, hb1⟩
  go_wp2_with fail
  refine (Q _).mono ?_
  rintro e w2 ⟨rfl, hb2⟩
  go_wp2_with fail
  refine (awake_c _).mono ?_
  rintro e w3 ⟨rfl, hb3⟩
  go_wp2_with fail
  refine (awake_c _).mono ?_
  rintro e w4 ⟨rfl, hb4⟩
  go_wp2_with fail
  go_ret
  exact ⟨rfl, (below3 hb1 hb2 hb3).trans (hb4.mono (Nat.le_trans hb1.size (Nat.le_trans hb2.size hb3.size)))⟩
set_option maxHeartbeats 400000 in
theorem walk_none2 (n m : Int) (s t : ByteArray) (w : World) (P : ∀ w, Calls Try.prog 9 #[.int .i64 n] w fun e w' => e = .returned (.tuple #[.string s, .int .i64 0]) ∧ Below w.heap.size w w')
    (Q : ∀ w, Calls Try.prog 9 #[.int .i64 m] w fun e w' => e = .returned (.tuple #[.string t, .int .i64 1]) ∧ Below w.heap.size w w') :
    Calls Try.prog 7 #[.int .i64 n, .int .i64 m] w fun e w' => e = .returned (.bool true) ∧ Below w.heap.size w w' := by
  go_enter Try.func7, Try.ntmps7
  go_wp2_with fail
  refine (P _).mono ?_
  rintro e w1 ⟨rfl, hb1⟩
  go_wp2_with fail
  refine (Q _).mono ?_
  rintro e w2 ⟨rfl, hb2⟩
  go_wp2_with fail
  refine (awake_c _).mono ?_
  rintro e w3 ⟨rfl, hb3⟩
  go_wp2_with fail
  refine (awake_c _).mono ?_
  rintro e w4 ⟨rfl, hb4⟩
  go_wp2_with fail
  go_ret
  exact ⟨rfl, (below3 hb1 hb2 hb3).trans (hb4.mono (Nat.le_trans hb1.size (Nat.le_trans hb2.size hb3.size)))⟩

theorem walk (n m : Int) (w : World) : Calls Try.prog 7 #[.int .i64 n, .int .i64 m] w fun e w' => e = .returned (.bool true) ∧ Below w.heap.size w w' := by
  have P := put_c n
  have Q := put_c m
  by_cases h1 : (putS n).2 = 0
  · rw [h1] at P
    by_cases h2 : (putS m).2 = 0
    · rw [h2] at Q
      obtain ⟨n0, n1⟩ := putS_ok n h1
      obtain ⟨m0, m1⟩ := putS_ok m h2
      by_cases h3 : m < n
      · exact walk_more n m _ _ w P Q h3
      · obtain ⟨r1, r2⟩ := rise n m n0 (by omega) m1
        by_cases h4 : ((putS n).1.size : Int) < ((putS m).1.size : Int)
        · exact walk_less n m _ _ w P Q h3 h4
        · exact walk_like n m _ _ w P Q h3 (by omega) h4 (r2 (by omega))
    · rw [(putS_err m h2).1] at Q
      exact walk_none2 n m _ _ w P Q
  · rw [(putS_err n h1).1] at P
    exact walk_none n m _ _ _ w P Q
end Go.Proofs.Ytcomechollegfaa.Rise
