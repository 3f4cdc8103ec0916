/- For every content and every place: the bit that is told is the one of the reference: the walks of the Go texts. No condition beyond the reach. -/
import Derived.Test.YtlncpjjeieajmaaPBitstrBitsx2
import Derived.Test.YtlncpjjeieajmaaNum
import Derived.Lib.Hide
import Derived.Deep.QuietTactic
import Derived.BigQuiet
namespace Go.Proofs.Ytlncpjjeieajmaa.Bits
open Go.RowKit Go.Deep Go.Proofs.Ytlncpjjeieajmaa.PBitstrBits Go.Proofs.YtlncpjjeieajmaaW.PrintWords Go.Proofs.YtlncpjjeieajmaaW.PrintLast Go.Proofs.YtlncpjjeieajmaaW.PrintMore Go.Proofs.Ytlncpjjeieajmaa.Num
set_option linter.unusedVariables false

theorem wr {x : Int} (h1 : -9223372036854775808 ≤ x) (h2 : x < 9223372036854775808) : wrap64 x = x := by unfold wrap64; omega

/-- a byte that comes behind the first one -/
theorem push_on (l u b : Int) (h0 : 0 ≤ u) (h7 : u ≤ 7) (hb0 : 0 ≤ b) (hb1 : b ≤ 255) (hl : 1 ≤ l) (hl2 : l ≤ 9223372036854775807) :
    bitstr_State_Push.f l true u b = some (if l = 1 ∧ b % 2 ^ u.toNat ≠ 0 then (0, false, 0, false) else (l - 1, true, u, true)) := by
  unfold bitstr_State_Push.f
  rw [if_pos (by trivial), wr (by omega) (by omega), mask b u hb0 hb1 h0 h7]
  by_cases h : l = 1
  · rw [if_pos (by omega), if_pos h0]
    by_cases h2 : b % 2 ^ u.toNat = 0
    · rw [if_pos h2, if_neg (by simp [h2])]
    · rw [if_neg h2, if_pos ⟨h, h2⟩]
  · rw [if_neg (by omega), if_neg (by omega)]

/-- the first byte -/
theorem push_first (l b : Int) (hl : 1 ≤ l) (hl2 : l ≤ 9223372036854775807) (u : Int) :
    bitstr_State_Push.f l false u b = some (if b > 7 ∨ (l = 1 ∧ b > 0) then (0, false, 0, false) else (l - 1, true, b, true)) := by
  unfold bitstr_State_Push.f
  rw [if_neg (by simp), wr (by omega) (by omega)]
  by_cases h7 : b > 7
  · rw [if_pos h7, if_pos (Or.inl h7)]
  rw [if_neg h7]
  by_cases hb : b > 0
  · rw [if_pos hb]
    by_cases h : l = 1
    · rw [if_pos (show l - 1 = 0 by omega), if_pos (Or.inr ⟨h, hb⟩)]
    · rw [if_neg (show ¬l - 1 = 0 by omega), if_neg (show ¬(b > 7 ∨ (l = 1 ∧ b > 0)) by omega)]
  · rw [if_neg hb, if_neg (show ¬(b > 7 ∨ (l = 1 ∧ b > 0)) by omega)]

theorem right_end (c : ByteArray) (k : Nat) (ok : Bool) (i l u : Int) (bg : Bool) (h : ok = false ∨ i = c.size) (hk : 0 < k) : bitstr_right.l0 k c ok i l bg u = some ok := by
  obtain ⟨k, rfl⟩ : ∃ m, k = m + 1 := ⟨k - 1, by omega⟩
  simp only [bitstr_right.l0]
  cases ok with
  | false => rw [if_neg (by simp)]
  | true =>
    have : i = c.size := by simpa using h
    rw [if_pos (by trivial), if_neg (by omega)]

theorem right_loop (c : ByteArray) (hn : c.size ≤ 140737488351232) (h7 : bt c 0 ≤ 7) (d : Nat) : ∀ (k i : Nat), 1 ≤ i → i + d = c.size → d + 1 < k →
    bitstr_right.l0 k c true i ((c.size : Int) - i) true (bt c 0) = some (decide (i = c.size ∨ bt c ((c.size : Int) - 1) % 2 ^ (bt c 0).toNat = 0)) := by
  have r := bt_range c 0
  induction d with
  | zero =>
    intro k i h1 hi hk
    rw [right_end c k true i _ _ _ (Or.inr (by omega)) (by omega)]
    simp
    omega
  | succ d ih =>
    intro k i h1 hi hk
    obtain ⟨k, rfl⟩ : ∃ m, k = m + 1 := ⟨k - 1, by omega⟩
    have rb := bt_range c i
    simp only [bitstr_right.l0]
    rw [if_pos (by trivial), if_pos (by omega), if_pos (by omega), push_on _ _ _ r.1 h7 rb.1 rb.2 (by omega) (by omega)]
    simp only [Option.bind_some]
    rw [wr (by omega) (by omega)]
    by_cases hl : (c.size : Int) - i = 1
    · have e : (c.size : Int) - 1 = i := by omega
      rw [e]
      by_cases hm : bt c i % 2 ^ (bt c 0).toNat = 0
      · rw [if_neg (by simp [hm])]
        simp only []
        rw [right_end _ _ _ _ _ _ _ (Or.inr (by omega)) (by omega)]
        simp [hm]
      · rw [if_pos ⟨hl, hm⟩]
        simp only []
        rw [right_end _ _ _ _ _ _ _ (Or.inl rfl) (by omega)]
        simp [hm]
        omega
    · rw [if_neg (by omega)]
      simp only []
      have := ih k (i + 1) (by omega) (by omega) (by omega)
      rw [show ((i + 1 : Nat) : Int) = (i : Int) + 1 from by omega] at this
      rw [show (c.size : Int) - i - 1 = c.size - (i + 1) from by omega, this]
      congr 2
      rw [eq_iff_iff]
      constructor
      · intro h; rcases h with h | h
        · omega
        · exact .inr h
      · intro h; rcases h with h | h
        · omega
        · exact .inr h

theorem right_tells (c : ByteArray) (hn : c.size ≤ 140737488351232) (k : Nat) (hk : c.size + 3 ≤ k) : bitstr_right.f k c = some (rightS c) := by
  have r := bt_range c 0
  unfold bitstr_right.f bitstr_Start.f
  by_cases h0 : (c.size : Int) < 1
  · rw [if_pos h0]
    simp only [Option.bind_some]
    rw [right_end _ _ _ _ _ _ _ (Or.inl rfl) (by omega)]
    unfold rightS
    simp
    omega
  rw [if_neg h0]
  simp only [Option.bind_some]
  obtain ⟨k, rfl⟩ : ∃ m, k = m + 1 := ⟨k - 1, by omega⟩
  simp only [bitstr_right.l0]
  rw [if_pos (by trivial), if_pos (by omega), if_pos (by omega), push_first _ _ (by omega) (by omega)]
  simp only [Option.bind_some]
  rw [wr (by omega) (by omega)]
  unfold rightS
  by_cases h1 : bt c 0 > 7 ∨ ((c.size : Int) = 1 ∧ bt c 0 > 0)
  · rw [if_pos h1]
    simp only []
    rw [right_end _ _ _ _ _ _ _ (Or.inl rfl) (by omega)]
    congr 1
    symm
    rw [decide_eq_false_iff_not]
    omega
  · rw [if_neg h1]
    simp only []
    have := right_loop c hn (by omega) (c.size - 1) k 1 (by omega) (by omega) (by omega)
    rw [show ((1 : Nat) : Int) = 1 from rfl] at this
    rw [show (0 : Int) + 1 = 1 from rfl, this]
    congr 2
    rw [eq_iff_iff]
    constructor
    · intro h
      refine ⟨by omega, by omega, by omega, fun hs => ?_⟩
      rcases h with h | h
      · omega
      · exact h
    · rintro ⟨h2, h3, h4, h5⟩
      by_cases hs : 1 < c.size
      · exact .inr (h5 hs)
      · exact .inl (by omega)

theorem put_tells (u : Int) (b : ByteArray) (hn : b.size ≤ 1000) (k : Nat) (hk : b.size + 4 ≤ k) : bitstr_Put.f k u b = some (putS u b) := by
  unfold bitstr_Put.f putS
  simp only [Option.bind_some]
  rw [if_pos (by rw [strOfNums_size]; simp; omega)]
  by_cases h0 : u < 0
  · rw [if_pos h0, if_pos (Or.inl h0)]
  rw [if_neg h0]
  by_cases h1 : u > 7
  · rw [if_pos h1, if_pos (Or.inr (Or.inl h1))]
  have hs := whole_size u b
  rw [if_neg h1, show strOfNums [u % 256] ++ b = whole u b from rfl, right_tells (whole u b) (by omega) k (by omega)]
  simp only [Option.bind_some]
  cases hr : rightS (whole u b) with
  | true => rw [if_pos (by trivial), if_neg (by simp; omega)]
  | false => rw [if_neg (by simp), if_pos (by simp)]

theorem get_tells (c : ByteArray) (hn : c.size ≤ 140737488351232) (k : Nat) (hk : c.size + 3 ≤ k) : bitstr_Get.f k c = some (getS c) := by
  have r := bt_range c 0
  unfold bitstr_Get.f getS
  rw [right_tells c hn k hk]
  simp only [Option.bind_some]
  cases hr : rightS c with
  | true =>
    have := right_size hr
    simp only [reduceIte]
    rw [if_pos (show (0 : Int) < c.size by omega), if_pos (show (1 : Int) ≤ c.size by omega), wr (by omega) (by omega)]
  | false => rw [if_neg (by simp), if_neg (by simp)]

theorem bit_tells (c : ByteArray) (i : Int) (hn : c.size ≤ 140737488351232) (k : Nat) (hk : c.size + 3 ≤ k) (hi : -9223372036854775808 ≤ i) (hi2 : i ≤ 9223372036854775807) : bitstr_Bit.f k c i = some (bitS c i) := by
  unfold bitstr_Bit.f bitS
  rw [get_tells c hn k hk]
  simp only [Option.bind_some]
  unfold getS
  cases hr : rightS c with
  | false => simp
  | true =>
    have hs := right_size hr
    have r := bt_range c 0
    simp only [reduceIte]
    have es : ((c.extract 1 c.size).size : Int) = (c.size : Int) - 1 := by rw [ByteArray.size_extract]; omega
    rw [es, wr (show -9223372036854775808 ≤ 8 * ((c.size : Int) - 1) by omega) (by omega), wr (show -9223372036854775808 ≤ 8 * ((c.size : Int) - 1) - bt c 0 by omega) (by omega)]
    by_cases h0 : i < 0
    · rw [if_pos h0]
      have : ¬0 ≤ i := by omega
      simp [this]
    rw [if_neg h0]
    by_cases h1 : i ≥ 8 * ((c.size : Int) - 1) - bt c 0
    · rw [if_pos h1]
      have : ¬i < 8 * ((c.size : Int) - 1) - bt c 0 := by omega
      simp [this]
    rw [if_neg h1, Int.tdiv_eq_ediv_of_nonneg (by omega), Int.tmod_eq_emod_of_nonneg (by omega), wr (by omega) (by omega), if_pos (by omega), if_pos (by omega), if_pos (by omega)]
    have rb := bt_range (c.extract 1 c.size) (i / 8)
    rw [bit_of _ _ rb.1 rb.2 (by omega) (by omega), bt_extract _ _ _ _ (by omega) (by omega) (by omega)]
    have e1 : 0 ≤ i := by omega
    have e2 : i < 8 * ((c.size : Int) - 1) - bt c 0 := by omega
    simp only [e1, e2, decide_true, Bool.true_and]
    rfl

theorem awake_tells (k : Nat) (hk : 16 ≤ k) : gantletlaw12_awake.f k = some true := at_rounds gantletlaw12_awake.mono hk (by kernel_rfl)

theorem low_loop (x : Int) (n : Nat) (hx0 : 0 ≤ x) (hx1 : x ≤ 255) (hn : n ≤ 8) (d : Nat) : ∀ (k i : Nat), i + d = n → d < k → gantletref12_low.l0 k x n (2 ^ i) i = some (x % 2 ^ n) := by
  have pw : ∀ j : Nat, j ≤ 8 → (0 : Int) < 2 ^ j ∧ (2 : Int) ^ j ≤ 256 := by
    intro j hj
    have h : j = 0 ∨ j = 1 ∨ j = 2 ∨ j = 3 ∨ j = 4 ∨ j = 5 ∨ j = 6 ∨ j = 7 ∨ j = 8 := by omega
    rcases h with rfl | rfl | rfl | rfl | rfl | rfl | rfl | rfl | rfl <;> decide
  induction d with
  | zero =>
    intro k i hi hk
    obtain ⟨k, rfl⟩ : ∃ m, k = m + 1 := ⟨k - 1, by omega⟩
    obtain rfl : i = n := by omega
    have := pw i hn
    simp only [gantletref12_low.l0]
    rw [if_neg (by omega), if_neg (by omega), wr (by omega) (by omega), Int.tmod_eq_emod_of_nonneg hx0]
  | succ d ih =>
    intro k i hi hk
    obtain ⟨k, rfl⟩ : ∃ m, k = m + 1 := ⟨k - 1, by omega⟩
    have := pw i (by omega)
    simp only [gantletref12_low.l0]
    rw [if_pos (by omega), wr (by omega) (by omega), wr (by omega) (by omega), ← Int.pow_succ]
    exact ih k (i + 1) (by omega) (by omega)

theorem low_tells (x n : Int) (hx0 : 0 ≤ x) (hx1 : x ≤ 255) (h0 : 0 ≤ n) (h8 : n ≤ 8) (k : Nat) (hk : 10 ≤ k) : gantletref12_low.f k x n = some (x % 2 ^ n.toNat) := by
  have := low_loop x n.toNat hx0 hx1 (by omega) n.toNat k 0 (by omega) (by omega)
  unfold gantletref12_low.f
  rw [← this]
  rw [show ((n.toNat : Nat) : Int) = n from by omega]
  rfl

theorem wrong_tells (n : Int) (c : ByteArray) (k : Nat) (hk : 12 ≤ k) (hn : n ≤ 9223372036854775807) : gantletref12_Wrong.f k n c = some (wrongS n c) := by
  obtain ⟨k, rfl⟩ : ∃ m, k = m + 1 := ⟨k - 1, by omega⟩
  have r := bt_range c 0
  have rn := bt_range c (n - 1)
  unfold gantletref12_Wrong.f wrongS
  by_cases h0 : n < 1
  · rw [if_pos h0, if_pos h0]
  rw [if_neg h0, if_neg h0]
  have last : bt c 0 ≤ 7 ∨ c.size = 0 → gantletref12_Wrong.j0 (k + 1) n c false = some (if n > 1 ∧ (c.size : Int) = n ∧ bt c (n - 1) % 2 ^ (bt c 0).toNat ≠ 0 then n else -1) := by
    intro h7
    simp only [gantletref12_Wrong.j0]
    rw [if_neg (by simp)]
    by_cases h1 : n > 1
    · rw [if_pos h1]
      by_cases h2 : (c.size : Int) = n
      · rw [if_pos h2, wr (by omega) (by omega), if_pos (by omega), if_pos (by omega), if_pos (by omega), wr (by omega) (by omega),
          low_tells _ _ rn.1 rn.2 (by omega) (by omega) k (by omega)]
        simp only [Option.bind_some]
        by_cases h3 : bt c (n - 1) % 2 ^ (bt c 0).toNat = 0
        · rw [if_pos h3, if_neg (by simp [h3])]
        · rw [if_neg h3, if_pos ⟨h1, h2, h3⟩]
      · rw [if_neg h2, if_neg (by simp [h2])]
    · rw [if_neg h1, if_neg (by omega)]
  by_cases hs : (c.size : Int) > 0
  · rw [if_pos hs, if_pos (by omega)]
    by_cases h7 : bt c 0 > 7
    · rw [if_pos h7, if_pos ⟨hs, Or.inl h7⟩]
      simp only [gantletref12_Wrong.j0]
      rw [if_pos (by trivial)]
    · rw [if_neg h7]
      by_cases h1 : n = 1
      · rw [if_pos h1]
        by_cases hb : bt c 0 = 0
        · rw [show (bt c 0 != 0) = false from by simp [hb], last (Or.inl (by omega)), if_neg (show ¬((c.size : Int) > 0 ∧ (bt c 0 > 7 ∨ n = 1 ∧ bt c 0 ≠ 0)) by omega)]
        · rw [show (bt c 0 != 0) = true from by simp [hb], if_pos ⟨hs, Or.inr ⟨h1, hb⟩⟩]
          simp only [gantletref12_Wrong.j0]
          rw [if_pos (by trivial)]
      · rw [if_neg h1, last (Or.inl (by omega)), if_neg (show ¬((c.size : Int) > 0 ∧ (bt c 0 > 7 ∨ n = 1 ∧ bt c 0 ≠ 0)) by omega)]
  · rw [if_neg hs, last (Or.inr (by omega)), if_neg (show ¬((c.size : Int) > 0 ∧ (bt c 0 > 7 ∨ n = 1 ∧ bt c 0 ≠ 0)) by omega)]

theorem rref_tells (c : ByteArray) (k : Nat) (hk : 12 ≤ k) (hn : c.size ≤ 140737488351232) : gantletref12_Right.f k c = some (rightS c) := by
  unfold gantletref12_Right.f
  rw [right_wrong]
  by_cases hs : (c.size : Int) > 0
  · rw [if_pos hs, wrong_tells _ c k hk (by omega)]
    have : 0 < c.size := by omega
    simp [this]
  · rw [if_neg hs]
    have : ¬0 < c.size := by omega
    simp [this]

theorem ret_bool {a b : Bool} (h : a = b) : Ending.returned (.bool a) = .returned (.bool b) := by rw [h]
theorem bit_two (x i : Int) (h0 : 0 ≤ x) (h1 : x ≤ 255) (h2 : 0 ≤ i % 8) (h3 : i % 8 ≤ 7) : x % 2 ^ (8 - i % 8).toNat ≠ x % 2 ^ (7 - i % 8).toNat ↔ x / 2 ^ (7 - i % 8).toNat % 2 = 1 := by
  have h : i % 8 = 0 ∨ i % 8 = 1 ∨ i % 8 = 2 ∨ i % 8 = 3 ∨ i % 8 = 4 ∨ i % 8 = 5 ∨ i % 8 = 6 ∨ i % 8 = 7 := by omega
  rcases h with h | h | h | h | h | h | h | h <;> (rw [h]; simp only [show ((8 : Int) - 0).toNat = 8 from rfl, show ((8 : Int) - 1).toNat = 7 from rfl, show ((8 : Int) - 2).toNat = 6 from rfl, show ((8 : Int) - 3).toNat = 5 from rfl, show ((8 : Int) - 4).toNat = 4 from rfl, show ((8 : Int) - 5).toNat = 3 from rfl, show ((8 : Int) - 6).toNat = 2 from rfl, show ((8 : Int) - 7).toNat = 1 from rfl, show ((7 : Int) - 0).toNat = 7 from rfl, show ((7 : Int) - 1).toNat = 6 from rfl, show ((7 : Int) - 2).toNat = 5 from rfl, show ((7 : Int) - 3).toNat = 4 from rfl, show ((7 : Int) - 4).toNat = 3 from rfl, show ((7 : Int) - 5).toNat = 2 from rfl, show ((7 : Int) - 6).toNat = 1 from rfl, show ((7 : Int) - 7).toNat = 0 from rfl]; omega)
theorem low_c (x n : Int) (hx0 : 0 ≤ x) (hx1 : x ≤ 255) (h0 : 0 ≤ n) (h8 : n ≤ 8) (w : World) : Calls Try.prog 19 #[.int .u8 x, .int .i64 n] w fun e w' => e = .returned (.int .i64 (x % 2 ^ n.toNat)) ∧ ∃ m, w' = w.drewN m :=
  (gantletref12_low.calls 20 x n _ w (low_tells x n hx0 hx1 h0 h8 20 (by omega))).mono fun _ _ ⟨he, ⟨m, hw⟩⟩ => ⟨he, m, hw⟩
theorem rref_c (c : ByteArray) (hn : c.size ≤ 140737488351232) (w : World) : Calls Try.prog 16 #[.string c] w fun e w' => e = .returned (.bool (rightS c)) ∧ Below w.heap.size w w' :=
  (gantletref12_Right.calls 20 c _ w (rref_tells c 20 (by omega) hn)).mono fun _ _ ⟨he, ⟨m, hw⟩⟩ => ⟨he, by rw [hw]; exact ⟨rfl, rfl, rfl, Nat.le_refl _, fun _ _ => rfl⟩⟩

set_option maxHeartbeats 400000 in
theorem rbit_in (c : ByteArray) (i : Int) (w : World) (hc : c.size ≤ 1000) (h0 : 0 ≤ i) (h1 : i < 8 * ((c.size : Int) - 1) - bt c 0)
    (P : ∀ w, Calls Try.prog 16 #[.string c] w fun e w' => e = .returned (.bool true) ∧ Below w.heap.size w w') :
    Calls Try.prog 18 #[.string c, .int .i64 i] w fun e w' => e = .returned (.bool (decide (bt c (1 + i / 8) / 2 ^ (7 - i % 8).toNat % 2 = 1))) ∧ Below w.heap.size w w' := by
  have r := bt_range c 0
  have g0 : ∀ h : 0 < c.size, ((c[0]'h).toNat : Int) = bt c 0 := fun h => bt_at c 0 h
  have k0 : ¬i < 0 := by omega
  have k1 : ¬8 * ((c.size : Int) - 1) - bt c 0 - 1 < i := by omega
  have k2 : 0 < c.size := by omega
  go_enter Try.func18, Try.ntmps18
  go_wp2_with fail
  refine (P _).mono ?_
  rintro e w1 ⟨rfl, hb1⟩
  go_wp2_with fail
  have q1 : 0 ≤ 1 + i / 8 := by omega
  have q2 : 1 + i / 8 < (c.size : Int) := by omega
  have q3 : (1 + i / 8).toNat < c.size := by omega
  have gx := bt_at c (1 + i / 8)
  have rx := bt_range c (1 + i / 8)
  have e3 : i.tmod 8 = i % 8 := Int.tmod_eq_emod_of_nonneg h0
  have e0 : i.tdiv 8 = i / 8 := Int.tdiv_eq_ediv_of_nonneg h0
  have e1 : IntKind.i64.wrap (i / 8) = i / 8 := by rw [IntKind.wrap_i64]; omega
  have e2 : IntKind.i64.wrap (1 + i / 8) = 1 + i / 8 := by rw [IntKind.wrap_i64]; omega
  have e4 : IntKind.i64.wrap (8 - i % 8) = 8 - i % 8 := by rw [IntKind.wrap_i64]; omega
  have e5 : IntKind.i64.wrap (7 - i % 8) = 7 - i % 8 := by rw [IntKind.wrap_i64]; omega
  have s8 : 0 ≤ 8 - i % 8 ∧ 8 - i % 8 ≤ 8 := by omega
  have s7 : 0 ≤ 7 - i % 8 ∧ 7 - i % 8 ≤ 8 := by omega
  go_quiet ((go_at_call 19; exact Calls.quiet_of (low_c _ _ rx.1 rx.2 (by omega) (by omega) _)))
  go_wp2
  go_ret
  refine ⟨ret_bool ?_, hb1.trans ⟨rfl, rfl, rfl, Nat.le_refl _, fun _ _ => rfl⟩⟩
  rw [Bool.eq_iff_iff]
  have b01 : bt c (1 + i / 8) % 2 ^ (8 - i % 8).toNat ≠ bt c (1 + i / 8) % 2 ^ (7 - i % 8).toNat ↔ bt c (1 + i / 8) / 2 ^ (7 - i % 8).toNat % 2 = 1 := bit_two _ _ rx.1 rx.2 (by omega) (by omega)
  simpa using b01

set_option maxHeartbeats 400000 in
theorem rbit_no (c : ByteArray) (i : Int) (w : World) (P : ∀ w, Calls Try.prog 16 #[.string c] w fun e w' => e = .returned (.bool false) ∧ Below w.heap.size w w') :
    Calls Try.prog 18 #[.string c, .int .i64 i] w fun e w' => e = .returned (.bool false) ∧ Below w.heap.size w w' := by
  go_enter Try.func18, Try.ntmps18
  go_wp2_with fail
  refine (P _).mono ?_
  rintro e w1 ⟨rfl, hb1⟩
  go_wp2_with fail
  go_ret
  exact ⟨rfl, hb1⟩

set_option maxHeartbeats 400000 in
theorem rbit_neg (c : ByteArray) (i : Int) (w : World) (h : i < 0) (P : ∀ w, Calls Try.prog 16 #[.string c] w fun e w' => e = .returned (.bool true) ∧ Below w.heap.size w w') :
    Calls Try.prog 18 #[.string c, .int .i64 i] w fun e w' => e = .returned (.bool false) ∧ Below w.heap.size w w' := by
  go_enter Try.func18, Try.ntmps18
  go_wp2_with fail
  refine (P _).mono ?_
  rintro e w1 ⟨rfl, hb1⟩
  go_wp2_with fail
  go_ret
  exact ⟨rfl, hb1⟩

set_option maxHeartbeats 400000 in
theorem rbit_past (c : ByteArray) (i : Int) (w : World) (hc : c.size ≤ 1000) (hs : 1 ≤ c.size) (h : ¬i < 0) (h1 : 8 * ((c.size : Int) - 1) - bt c 0 - 1 < i) (P : ∀ w, Calls Try.prog 16 #[.string c] w fun e w' => e = .returned (.bool true) ∧ Below w.heap.size w w') :
    Calls Try.prog 18 #[.string c, .int .i64 i] w fun e w' => e = .returned (.bool false) ∧ Below w.heap.size w w' := by
  have r := bt_range c 0
  have g0 : ∀ h : 0 < c.size, ((c[0]'h).toNat : Int) = bt c 0 := fun h => bt_at c 0 h
  have k2 : 0 < c.size := by omega
  go_enter Try.func18, Try.ntmps18
  go_wp2_with fail
  refine (P _).mono ?_
  rintro e w1 ⟨rfl, hb1⟩
  go_wp2_with fail
  go_ret
  exact ⟨rfl, hb1⟩

theorem rbit_c (c : ByteArray) (i : Int) (w : World) (hc : c.size ≤ 1000) : Calls Try.prog 18 #[.string c, .int .i64 i] w fun e w' => e = .returned (.bool (bitS c i)) ∧ Below w.heap.size w w' := by
  have P := rref_c c (by omega)
  unfold bitS
  cases hr : rightS c with
  | false =>
    rw [hr] at P
    exact rbit_no c i w P
  | true =>
    rw [hr] at P
    have hs := right_size hr
    by_cases h0 : i < 0
    · have e : ¬0 ≤ i := by omega
      simp only [e, decide_false, Bool.and_false, Bool.false_and]
      exact rbit_neg c i w h0 P
    · have e : 0 ≤ i := by omega
      by_cases h1 : i < 8 * ((c.size : Int) - 1) - bt c 0
      · simp only [e, h1, decide_true, Bool.true_and]
        exact rbit_in c i w hc e h1 P
      · simp only [h1, decide_false, Bool.and_false, Bool.false_and]
        exact rbit_past c i w hc hs.1 h0 (by omega) P

theorem bit_c (c : ByteArray) (i : Int) (w : World) (hc : c.size ≤ 1000) (hi : -9223372036854775808 ≤ i) (hi2 : i ≤ 9223372036854775807) : Calls Try.prog 17 #[.string c, .int .i64 i] w fun e w' => e = .returned (.bool (bitS c i)) ∧ Below w.heap.size w w' :=
  bitstr_Bit.calls 1100 c i _ w (bit_tells c i (by omega) 1100 (by omega) hi hi2)
theorem awake_c (w : World) : Calls Try.prog 9 #[] w fun e w' => e = .returned (.bool true) ∧ Below w.heap.size w w' :=
  gantletlaw12_awake.calls 20 true w (awake_tells 20 (by omega))
theorem step {a b c : World} (h1 : Below a.heap.size a b) (h2 : Below b.heap.size b c) : Below a.heap.size a c := h1.trans (h2.mono h1.size)

set_option maxHeartbeats 400000 in
theorem walk_great (c : ByteArray) (i : Int) (w : World) (h : (300 : Int) < (c.size : Int)) :
    Calls Try.prog 5 #[.string c, .int .i64 i] w fun e w' => e = .returned (.bool true) ∧ Below w.heap.size w w' := by
  go_enter Try.func5, Try.ntmps5
  go_wp2_with fail
  refine (awake_c _).mono ?_
  rintro e w1 ⟨rfl, hb1⟩
  go_wp2_with fail
  refine (awake_c _).mono ?_
  rintro e w2 ⟨rfl, hb2⟩
  go_wp2_with fail
  go_ret
  exact ⟨rfl, step hb1 hb2⟩

set_option maxHeartbeats 400000 in
theorem walk_small (c : ByteArray) (i : Int) (v : Bool) (w : World) (h : ¬(300 : Int) < (c.size : Int))
    (P : ∀ w, Calls Try.prog 17 #[.string c, .int .i64 i] w fun e w' => e = .returned (.bool v) ∧ Below w.heap.size w w')
    (Q : ∀ w, Calls Try.prog 18 #[.string c, .int .i64 i] w fun e w' => e = .returned (.bool v) ∧ Below w.heap.size w w') :
    Calls Try.prog 5 #[.string c, .int .i64 i] w fun e w' => e = .returned (.bool true) ∧ Below w.heap.size w w' := by
  go_enter Try.func5, Try.ntmps5
  go_wp2_with fail
  refine (awake_c _).mono ?_
  rintro e w1 ⟨rfl, hb1⟩
  go_wp2_with fail
  refine (P _).mono ?_
  rintro e w2 ⟨rfl, hb2⟩
  go_wp2_with fail
  refine (Q _).mono ?_
  rintro e w3 ⟨rfl, hb3⟩
  go_wp2_with fail
  go_ret
  exact ⟨by first | rfl | simp, step (step hb1 hb2) hb3⟩

theorem walk (c : ByteArray) (i : Int) (w : World) (hi : (Lit.int .i64 i).wf = true) : Calls Try.prog 5 #[.string c, .int .i64 i] w fun e w' => e = .returned (.bool true) ∧ Below w.heap.size w w' := by
  have hi' : -9223372036854775808 ≤ i ∧ i ≤ 9223372036854775807 := by simpa [Lit.wf, IntKind.min, IntKind.max, IntKind.signed, IntKind.bits] using hi
  by_cases h : (300 : Int) < (c.size : Int)
  · exact walk_great c i w h
  · exact walk_small c i _ w h (fun w => bit_c c i w (by omega) hi'.1 hi'.2) (fun w => rbit_c c i w (by omega))
end Go.Proofs.Ytlncpjjeieajmaa.Bits
