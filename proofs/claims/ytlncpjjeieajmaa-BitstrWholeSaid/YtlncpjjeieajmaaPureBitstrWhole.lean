/-
  For all bytes as bits of which none is unused: they are put, and each bit is told as it is. No condition beyond the reach.
-/
import Derived.Test.YtlncpjjeieajmaaPBitstrWholex3
import Derived.Test.YtlncpjjeieajmaaNum
namespace Go.Proofs.Ytlncpjjeieajmaa.Pure
open Go.RowKit Go.Proofs.Ytlncpjjeieajmaa.PBitstrWhole Go.Proofs.YtlncpjjeieajmaaW.PrintWords Go.Proofs.YtlncpjjeieajmaaW.PrintLast Go.Proofs.YtlncpjjeieajmaaW.PrintMore Go.Proofs.Ytlncpjjeieajmaa.Num

theorem wr {x : Int} (h1 : -9223372036854775808 ≤ x) (h2 : x < 9223372036854775808) : wrap64 x = x := by unfold wrap64; omega

/-- a byte that comes behind the first one -/
theorem push_on (l u b : Int) (h0 : 0 ≤ u) (h7 : u ≤ 7) (hb0 : 0 ≤ b) (hb1 : b ≤ 255) (hl : 1 ≤ l) (hl2 : l ≤ 9223372036854775807) :
    bitstr_State_Push.f l true u b = some (if l = 1 ∧ b % 2 ^ u.toNat ≠ 0 then (0, false, 0, false) else (l - 1, true, u, true)) := by
  unfold bitstr_State_Push.f
  rw [if_pos (by trivial), wr (by omega) (by omega), mask b u hb0 hb1 h0 h7]
  by_cases h : l = 1
  · rw [if_pos (by omega), if_pos h0]
    by_cases h2 : b % 2 ^ u.toNat = 0
    · rw [if_pos h2, if_neg (by simp [h2])]
    · rw [if_neg h2, if_pos ⟨h, h2⟩]
  · rw [if_neg (by omega), if_neg (by omega)]

/-- the first byte -/
theorem push_first (l b : Int) (hl : 1 ≤ l) (hl2 : l ≤ 9223372036854775807) (u : Int) :
    bitstr_State_Push.f l false u b = some (if b > 7 ∨ (l = 1 ∧ b > 0) then (0, false, 0, false) else (l - 1, true, b, true)) := by
  unfold bitstr_State_Push.f
  rw [if_neg (by simp), wr (by omega) (by omega)]
  by_cases h7 : b > 7
  · rw [if_pos h7, if_pos (Or.inl h7)]
  rw [if_neg h7]
  by_cases hb : b > 0
  · rw [if_pos hb]
    by_cases h : l = 1
    · rw [if_pos (show l - 1 = 0 by omega), if_pos (Or.inr ⟨h, hb⟩)]
    · rw [if_neg (show ¬l - 1 = 0 by omega), if_neg (show ¬(b > 7 ∨ (l = 1 ∧ b > 0)) by omega)]
  · rw [if_neg hb, if_neg (show ¬(b > 7 ∨ (l = 1 ∧ b > 0)) by omega)]

theorem right_end (c : ByteArray) (k : Nat) (ok : Bool) (i l u : Int) (bg : Bool) (h : ok = false ∨ i = c.size) (hk : 0 < k) : bitstr_right.l0 k c ok i l bg u = some ok := by
  obtain ⟨k, rfl⟩ : ∃ m, k = m + 1 := ⟨k - 1, by omega⟩
  simp only [bitstr_right.l0]
  cases ok with
  | false => rw [if_neg (by simp)]
  | true =>
    have : i = c.size := by simpa using h
    rw [if_pos (by trivial), if_neg (by omega)]

theorem right_loop (c : ByteArray) (hn : c.size ≤ 140737488351232) (h7 : bt c 0 ≤ 7) (d : Nat) : ∀ (k i : Nat), 1 ≤ i → i + d = c.size → d + 1 < k →
    bitstr_right.l0 k c true i ((c.size : Int) - i) true (bt c 0) = some (decide (i = c.size ∨ bt c ((c.size : Int) - 1) % 2 ^ (bt c 0).toNat = 0)) := by
  have r := bt_range c 0
  induction d with
  | zero =>
    intro k i h1 hi hk
    rw [right_end c k true i _ _ _ (Or.inr (by omega)) (by omega)]
    simp
    omega
  | succ d ih =>
    intro k i h1 hi hk
    obtain ⟨k, rfl⟩ : ∃ m, k = m + 1 := ⟨k - 1, by omega⟩
    have rb := bt_range c i
    simp only [bitstr_right.l0]
    rw [if_pos (by trivial), if_pos (by omega), if_pos (by omega), push_on _ _ _ r.1 h7 rb.1 rb.2 (by omega) (by omega)]
    simp only [Option.bind_some]
    rw [wr (by omega) (by omega)]
    by_cases hl : (c.size : Int) - i = 1
    · have e : (c.size : Int) - 1 = i := by omega
      rw [e]
      by_cases hm : bt c i % 2 ^ (bt c 0).toNat = 0
      · rw [if_neg (by simp [hm])]
        simp only []
        rw [right_end _ _ _ _ _ _ _ (Or.inr (by omega)) (by omega)]
        simp [hm]
      · rw [if_pos ⟨hl, hm⟩]
        simp only []
        rw [right_end _ _ _ _ _ _ _ (Or.inl rfl) (by omega)]
        simp [hm]
        omega
    · rw [if_neg (by omega)]
      simp only []
      have := ih k (i + 1) (by omega) (by omega) (by omega)
      rw [show ((i + 1 : Nat) : Int) = (i : Int) + 1 from by omega] at this
      rw [show (c.size : Int) - i - 1 = c.size - (i + 1) from by omega, this]
      congr 2
      rw [eq_iff_iff]
      constructor
      · intro h; rcases h with h | h
        · omega
        · exact .inr h
      · intro h; rcases h with h | h
        · omega
        · exact .inr h

theorem right_tells (c : ByteArray) (hn : c.size ≤ 140737488351232) (k : Nat) (hk : c.size + 3 ≤ k) : bitstr_right.f k c = some (rightS c) := by
  have r := bt_range c 0
  unfold bitstr_right.f bitstr_Start.f
  by_cases h0 : (c.size : Int) < 1
  · rw [if_pos h0]
    simp only [Option.bind_some]
    rw [right_end _ _ _ _ _ _ _ (Or.inl rfl) (by omega)]
    unfold rightS
    simp
    omega
  rw [if_neg h0]
  simp only [Option.bind_some]
  obtain ⟨k, rfl⟩ : ∃ m, k = m + 1 := ⟨k - 1, by omega⟩
  simp only [bitstr_right.l0]
  rw [if_pos (by trivial), if_pos (by omega), if_pos (by omega), push_first _ _ (by omega) (by omega)]
  simp only [Option.bind_some]
  rw [wr (by omega) (by omega)]
  unfold rightS
  by_cases h1 : bt c 0 > 7 ∨ ((c.size : Int) = 1 ∧ bt c 0 > 0)
  · rw [if_pos h1]
    simp only []
    rw [right_end _ _ _ _ _ _ _ (Or.inl rfl) (by omega)]
    congr 1
    symm
    rw [decide_eq_false_iff_not]
    omega
  · rw [if_neg h1]
    simp only []
    have := right_loop c hn (by omega) (c.size - 1) k 1 (by omega) (by omega) (by omega)
    rw [show ((1 : Nat) : Int) = 1 from rfl] at this
    rw [show (0 : Int) + 1 = 1 from rfl, this]
    congr 2
    rw [eq_iff_iff]
    constructor
    · intro h
      refine ⟨by omega, by omega, by omega, fun hs => ?_⟩
      rcases h with h | h
      · omega
      · exact h
    · rintro ⟨h2, h3, h4, h5⟩
      by_cases hs : 1 < c.size
      · exact .inr (h5 hs)
      · exact .inl (by omega)

theorem put_tells (u : Int) (b : ByteArray) (hn : b.size ≤ 1000) (k : Nat) (hk : b.size + 4 ≤ k) : bitstr_Put.f k u b = some (putS u b) := by
  unfold bitstr_Put.f putS
  simp only [Option.bind_some]
  rw [if_pos (by rw [strOfNums_size]; simp; omega)]
  by_cases h0 : u < 0
  · rw [if_pos h0, if_pos (Or.inl h0)]
  rw [if_neg h0]
  by_cases h1 : u > 7
  · rw [if_pos h1, if_pos (Or.inr (Or.inl h1))]
  have hs := whole_size u b
  rw [if_neg h1, show strOfNums [u % 256] ++ b = whole u b from rfl, right_tells (whole u b) (by omega) k (by omega)]
  simp only [Option.bind_some]
  cases hr : rightS (whole u b) with
  | true => rw [if_pos (by trivial), if_neg (by simp; omega)]
  | false => rw [if_neg (by simp), if_pos (by simp)]

theorem get_tells (c : ByteArray) (hn : c.size ≤ 140737488351232) (k : Nat) (hk : c.size + 3 ≤ k) : bitstr_Get.f k c = some (getS c) := by
  have r := bt_range c 0
  unfold bitstr_Get.f getS
  rw [right_tells c hn k hk]
  simp only [Option.bind_some]
  cases hr : rightS c with
  | true =>
    have := right_size hr
    simp only [reduceIte]
    rw [if_pos (show (0 : Int) < c.size by omega), if_pos (show (1 : Int) ≤ c.size by omega), wr (by omega) (by omega)]
  | false => rw [if_neg (by simp), if_neg (by simp)]

theorem bit_tells (c : ByteArray) (i : Int) (hn : c.size ≤ 140737488351232) (k : Nat) (hk : c.size + 3 ≤ k) (hi : -9223372036854775808 ≤ i) (hi2 : i ≤ 9223372036854775807) : bitstr_Bit.f k c i = some (bitS c i) := by
  unfold bitstr_Bit.f bitS
  rw [get_tells c hn k hk]
  simp only [Option.bind_some]
  unfold getS
  cases hr : rightS c with
  | false => simp
  | true =>
    have hs := right_size hr
    have r := bt_range c 0
    simp only [reduceIte]
    have es : ((c.extract 1 c.size).size : Int) = (c.size : Int) - 1 := by rw [ByteArray.size_extract]; omega
    rw [es, wr (show -9223372036854775808 ≤ 8 * ((c.size : Int) - 1) by omega) (by omega), wr (show -9223372036854775808 ≤ 8 * ((c.size : Int) - 1) - bt c 0 by omega) (by omega)]
    by_cases h0 : i < 0
    · rw [if_pos h0]
      have : ¬0 ≤ i := by omega
      simp [this]
    rw [if_neg h0]
    by_cases h1 : i ≥ 8 * ((c.size : Int) - 1) - bt c 0
    · rw [if_pos h1]
      have : ¬i < 8 * ((c.size : Int) - 1) - bt c 0 := by omega
      simp [this]
    rw [if_neg h1, Int.tdiv_eq_ediv_of_nonneg (by omega), Int.tmod_eq_emod_of_nonneg (by omega), wr (by omega) (by omega), if_pos (by omega), if_pos (by omega), if_pos (by omega)]
    have rb := bt_range (c.extract 1 c.size) (i / 8)
    rw [bit_of _ _ rb.1 rb.2 (by omega) (by omega), bt_extract _ _ _ _ (by omega) (by omega) (by omega)]
    have e1 : 0 ≤ i := by omega
    have e2 : i < 8 * ((c.size : Int) - 1) - bt c 0 := by omega
    simp only [e1, e2, decide_true, Bool.true_and]
    rfl

theorem awake_tells (k : Nat) (hk : 16 ≤ k) : gantletlaw12_awake.f k = some true := at_rounds gantletlaw12_awake.mono hk (by kernel_rfl)

theorem unit_loop (x : ByteArray) (i : Int) (s : ByteArray) (n : Nat) (hn : n ≤ 7) (d : Nat) : ∀ (k j : Nat), j + d = n → d < k →
    ∃ q, gantletlaw12_BitstrWhole.l0 k x i s (2 ^ (7 - j)) n j = gantletlaw12_BitstrWhole.l0 (q + 1) x i s (2 ^ (7 - n)) n n ∧ k = q + 1 + d := by
  induction d with
  | zero =>
    intro k j hj hk
    obtain rfl : j = n := by omega
    exact ⟨k - 1, by rw [show k - 1 + 1 = k from by omega], by omega⟩
  | succ d ih =>
    intro k j hj hk
    obtain ⟨k, rfl⟩ : ∃ m, k = m + 1 := ⟨k - 1, by omega⟩
    obtain ⟨q, hq, hq2⟩ := ih k (j + 1) (by omega) (by omega)
    refine ⟨q, ?_, by omega⟩
    rw [← hq]
    conv => lhs; simp only [gantletlaw12_BitstrWhole.l0]
    have e : wrap64 (Int.tdiv (2 ^ (7 - j)) 2) = 2 ^ (7 - (j + 1)) := by
      have h : j = 0 ∨ j = 1 ∨ j = 2 ∨ j = 3 ∨ j = 4 ∨ j = 5 ∨ j = 6 := by omega
      rcases h with rfl | rfl | rfl | rfl | rfl | rfl | rfl <;> simp [wrap64]
    rw [if_pos (by omega), e, wr (show -9223372036854775808 ≤ (j : Int) + 1 by omega) (by omega)]
    rfl

theorem zero_right (b : ByteArray) : rightS (whole 0 b) = true := by
  unfold rightS
  rw [decide_eq_true_eq, whole_size, whole_head]
  refine ⟨by omega, by decide, fun _ => by decide, fun _ => ?_⟩
  rw [show ((0 : Int) % 256).toNat = 0 from by decide]
  omega

theorem BitstrWhole : gantletlaw12_BitstrWhole.Pure := by
  intro b i hb hi
  have hi' : -9223372036854775808 ≤ i ∧ i ≤ 9223372036854775807 := by simpa [Lit.wf, IntKind.min, IntKind.max, IntKind.signed, IntKind.bits] using hi
  refine ⟨400, ?_⟩
  unfold gantletlaw12_BitstrWhole.f
  rw [awake_tells 400 (by omega)]
  simp only [Option.bind_some, if_true, gantletlaw12_BitstrWhole.j0]
  by_cases hs : (b.size : Int) > 300
  · rw [if_pos (by simpa using hs), awake_tells 399 (by omega)]
    rfl
  rw [if_neg (by simpa using hs), put_tells 0 b (by omega) 399 (by omega)]
  simp only [Option.bind_some]
  have hw := whole_size 0 b
  have hh := whole_head 0 b
  have hz := zero_right b
  unfold putS
  rw [if_neg (show ¬((0 : Int) < 0 ∨ (0 : Int) > 7 ∨ rightS (whole 0 b) = false) by simp [hz])]
  simp only [reduceIte]
  rw [if_pos (by omega)]
  have e0 : (whole 0 b).toList = ((⟨#[0]⟩ : ByteArray) ++ b).toList := rfl
  rw [show ((whole 0 b).toList != ((⟨#[0]⟩ : ByteArray) ++ b).toList) = false from by simp [e0]]
  simp only [gantletlaw12_BitstrWhole.j1]
  rw [if_neg (by simp), wr (show -9223372036854775808 ≤ 8 * (b.size : Int) by omega) (by omega)]
  have no : i < 0 ∨ i ≥ 8 * (b.size : Int) → gantletlaw12_BitstrWhole.j2 398 b i (whole 0 b) true = some true := by
    intro h
    simp only [gantletlaw12_BitstrWhole.j2]
    rw [if_pos (by trivial), bit_tells _ _ (by omega) 397 (by omega) hi'.1 hi'.2]
    simp only [Option.bind_some]
    have : bitS (whole 0 b) i = false := by
      unfold bitS
      rw [hw, hh]
      rcases h with h | h
      · have : ¬0 ≤ i := by omega
        simp [this]
      · have : ¬i < 8 * (((1 + b.size : Nat) : Int) - 1) - 0 % 256 := by omega
        simp only [this, decide_false, Bool.and_false, Bool.false_and]
    rw [this]
    rfl
  by_cases h0 : i < 0
  · rw [if_pos h0, no (Or.inl h0)]
  rw [if_neg h0]
  by_cases h1 : i ≥ 8 * (b.size : Int)
  · rw [show decide (i ≥ 8 * (b.size : Int)) = true from by simpa using h1, no (Or.inr h1)]
  rw [show decide (i ≥ 8 * (b.size : Int)) = false from by simpa using h1]
  simp only [gantletlaw12_BitstrWhole.j2]
  rw [if_neg (by simp), Int.tmod_eq_emod_of_nonneg (by omega)]
  obtain ⟨n, hn⟩ : ∃ n : Nat, i % 8 = n := ⟨(i % 8).toNat, by omega⟩
  obtain ⟨q, hq, hq2⟩ := unit_loop b i (whole 0 b) n (by omega) n 397 0 (by omega) (by omega)
  have pw : (1 : Int) ≤ 2 ^ (7 - n) ∧ (2 : Int) ^ (7 - n) ≤ 128 := by
    have h : n = 0 ∨ n = 1 ∨ n = 2 ∨ n = 3 ∨ n = 4 ∨ n = 5 ∨ n = 6 ∨ n = 7 := by omega
    rcases h with rfl | rfl | rfl | rfl | rfl | rfl | rfl | rfl <;> decide
  rw [hn, show (128 : Int) = 2 ^ (7 - 0) from by decide]
  refine Eq.trans hq ?_
  simp only [gantletlaw12_BitstrWhole.l0]
  have rb := bt_range b (i / 8)
  have hd : 0 ≤ bt b (i / 8) / 2 ^ (7 - n) ∧ bt b (i / 8) / 2 ^ (7 - n) ≤ 255 :=
    ⟨Int.ediv_nonneg rb.1 (by omega), Int.le_trans (Int.ediv_le_self _ rb.1) rb.2⟩
  rw [if_neg (by omega), bit_tells _ _ (by omega) q (by omega) hi'.1 hi'.2]
  simp only [Option.bind_some]
  rw [Int.tdiv_eq_ediv_of_nonneg (by omega), wr (show -9223372036854775808 ≤ i / 8 by omega) (by omega), if_pos (by omega), if_pos (by omega), if_neg (by omega), wr (show -9223372036854775808 ≤ bt b (i / 8) by omega) (by omega),
    Int.tdiv_eq_ediv_of_nonneg rb.1, wr (by omega) (by omega), Int.tmod_eq_emod_of_nonneg hd.1]
  unfold bitS
  rw [hz, hw, hh, whole_tail _ _ _ (by omega)]
  have e1 : 0 ≤ i := by omega
  have e2 : i < 8 * (((1 + b.size : Nat) : Int) - 1) - 0 % 256 := by omega
  have e3 : (7 - i % 8).toNat = 7 - n := by omega
  rw [e3]
  simp only [e1, e2, decide_true, Bool.true_and]
  congr 1
  rw [beq_iff_eq, Bool.eq_iff_iff]
  simp

end Go.Proofs.Ytlncpjjeieajmaa.Pure
