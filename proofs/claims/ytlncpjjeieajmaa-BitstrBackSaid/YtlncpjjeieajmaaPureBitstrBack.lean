/-
  For all bits: what is put is got as it was. No condition beyond the reach.
-/
import Derived.Test.YtlncpjjeieajmaaPBitstrBackx2
import Derived.Test.YtlncpjjeieajmaaNum
namespace Go.Proofs.Ytlncpjjeieajmaa.Pure
open Go.RowKit Go.Proofs.Ytlncpjjeieajmaa.PBitstrBack Go.Proofs.YtlncpjjeieajmaaW.PrintWords Go.Proofs.YtlncpjjeieajmaaW.PrintLast Go.Proofs.YtlncpjjeieajmaaW.PrintMore Go.Proofs.Ytlncpjjeieajmaa.Num

theorem wr {x : Int} (h1 : -9223372036854775808 ≤ x) (h2 : x < 9223372036854775808) : wrap64 x = x := by unfold wrap64; omega

/-- a byte that comes behind the first one -/
theorem push_on (l u b : Int) (h0 : 0 ≤ u) (h7 : u ≤ 7) (hb0 : 0 ≤ b) (hb1 : b ≤ 255) (hl : 1 ≤ l) (hl2 : l ≤ 9223372036854775807) :
    bitstr_State_Push.f l true u b = some (if l = 1 ∧ b % 2 ^ u.toNat ≠ 0 then (0, false, 0, false) else (l - 1, true, u, true)) := by
  unfold bitstr_State_Push.f
  rw [if_pos (by trivial), wr (by omega) (by omega), mask b u hb0 hb1 h0 h7]
  by_cases h : l = 1
  · rw [if_pos (by omega), if_pos h0]
    by_cases h2 : b % 2 ^ u.toNat = 0
    · rw [if_pos h2, if_neg (by simp [h2])]
    · rw [if_neg h2, if_pos ⟨h, h2⟩]
  · rw [if_neg (by omega), if_neg (by omega)]

/-- the first byte -/
theorem push_first (l b : Int) (hl : 1 ≤ l) (hl2 : l ≤ 9223372036854775807) (u : Int) :
    bitstr_State_Push.f l false u b = some (if b > 7 ∨ (l = 1 ∧ b > 0) then (0, false, 0, false) else (l - 1, true, b, true)) := by
  unfold bitstr_State_Push.f
  rw [if_neg (by simp), wr (by omega) (by omega)]
  by_cases h7 : b > 7
  · rw [if_pos h7, if_pos (Or.inl h7)]
  rw [if_neg h7]
  by_cases hb : b > 0
  · rw [if_pos hb]
    by_cases h : l = 1
    · rw [if_pos (show l - 1 = 0 by omega), if_pos (Or.inr ⟨h, hb⟩)]
    · rw [if_neg (show ¬l - 1 = 0 by omega), if_neg (show ¬(b > 7 ∨ (l = 1 ∧ b > 0)) by omega)]
  · rw [if_neg hb, if_neg (show ¬(b > 7 ∨ (l = 1 ∧ b > 0)) by omega)]

theorem right_end (c : ByteArray) (k : Nat) (ok : Bool) (i l u : Int) (bg : Bool) (h : ok = false ∨ i = c.size) (hk : 0 < k) : bitstr_right.l0 k c ok i l bg u = some ok := by
  obtain ⟨k, rfl⟩ : ∃ m, k = m + 1 := ⟨k - 1, by omega⟩
  simp only [bitstr_right.l0]
  cases ok with
  | false => rw [if_neg (by simp)]
  | true =>
    have : i = c.size := by simpa using h
    rw [if_pos (by trivial), if_neg (by omega)]

theorem right_loop (c : ByteArray) (hn : c.size ≤ 140737488351232) (h7 : bt c 0 ≤ 7) (d : Nat) : ∀ (k i : Nat), 1 ≤ i → i + d = c.size → d + 1 < k →
    bitstr_right.l0 k c true i ((c.size : Int) - i) true (bt c 0) = some (decide (i = c.size ∨ bt c ((c.size : Int) - 1) % 2 ^ (bt c 0).toNat = 0)) := by
  have r := bt_range c 0
  induction d with
  | zero =>
    intro k i h1 hi hk
    rw [right_end c k true i _ _ _ (Or.inr (by omega)) (by omega)]
    simp
    omega
  | succ d ih =>
    intro k i h1 hi hk
    obtain ⟨k, rfl⟩ : ∃ m, k = m + 1 := ⟨k - 1, by omega⟩
    have rb := bt_range c i
    simp only [bitstr_right.l0]
    rw [if_pos (by trivial), if_pos (by omega), if_pos (by omega), push_on _ _ _ r.1 h7 rb.1 rb.2 (by omega) (by omega)]
    simp only [Option.bind_some]
    rw [wr (by omega) (by omega)]
    by_cases hl : (c.size : Int) - i = 1
    · have e : (c.size : Int) - 1 = i := by omega
      rw [e]
      by_cases hm : bt c i % 2 ^ (bt c 0).toNat = 0
      · rw [if_neg (by simp [hm])]
        simp only []
        rw [right_end _ _ _ _ _ _ _ (Or.inr (by omega)) (by omega)]
        simp [hm]
      · rw [if_pos ⟨hl, hm⟩]
        simp only []
        rw [right_end _ _ _ _ _ _ _ (Or.inl rfl) (by omega)]
        simp [hm]
        omega
    · rw [if_neg (by omega)]
      simp only []
      have := ih k (i + 1) (by omega) (by omega) (by omega)
      rw [show ((i + 1 : Nat) : Int) = (i : Int) + 1 from by omega] at this
      rw [show (c.size : Int) - i - 1 = c.size - (i + 1) from by omega, this]
      congr 2
      rw [eq_iff_iff]
      constructor
      · intro h; rcases h with h | h
        · omega
        · exact .inr h
      · intro h; rcases h with h | h
        · omega
        · exact .inr h

theorem right_tells (c : ByteArray) (hn : c.size ≤ 140737488351232) (k : Nat) (hk : c.size + 3 ≤ k) : bitstr_right.f k c = some (rightS c) := by
  have r := bt_range c 0
  unfold bitstr_right.f bitstr_Start.f
  by_cases h0 : (c.size : Int) < 1
  · rw [if_pos h0]
    simp only [Option.bind_some]
    rw [right_end _ _ _ _ _ _ _ (Or.inl rfl) (by omega)]
    unfold rightS
    simp
    omega
  rw [if_neg h0]
  simp only [Option.bind_some]
  obtain ⟨k, rfl⟩ : ∃ m, k = m + 1 := ⟨k - 1, by omega⟩
  simp only [bitstr_right.l0]
  rw [if_pos (by trivial), if_pos (by omega), if_pos (by omega), push_first _ _ (by omega) (by omega)]
  simp only [Option.bind_some]
  rw [wr (by omega) (by omega)]
  unfold rightS
  by_cases h1 : bt c 0 > 7 ∨ ((c.size : Int) = 1 ∧ bt c 0 > 0)
  · rw [if_pos h1]
    simp only []
    rw [right_end _ _ _ _ _ _ _ (Or.inl rfl) (by omega)]
    congr 1
    symm
    rw [decide_eq_false_iff_not]
    omega
  · rw [if_neg h1]
    simp only []
    have := right_loop c hn (by omega) (c.size - 1) k 1 (by omega) (by omega) (by omega)
    rw [show ((1 : Nat) : Int) = 1 from rfl] at this
    rw [show (0 : Int) + 1 = 1 from rfl, this]
    congr 2
    rw [eq_iff_iff]
    constructor
    · intro h
      refine ⟨by omega, by omega, by omega, fun hs => ?_⟩
      rcases h with h | h
      · omega
      · exact h
    · rintro ⟨h2, h3, h4, h5⟩
      by_cases hs : 1 < c.size
      · exact .inr (h5 hs)
      · exact .inl (by omega)

theorem put_tells (u : Int) (b : ByteArray) (hn : b.size ≤ 1000) (k : Nat) (hk : b.size + 4 ≤ k) : bitstr_Put.f k u b = some (putS u b) := by
  unfold bitstr_Put.f putS
  simp only [Option.bind_some]
  rw [if_pos (by rw [strOfNums_size]; simp; omega)]
  by_cases h0 : u < 0
  · rw [if_pos h0, if_pos (Or.inl h0)]
  rw [if_neg h0]
  by_cases h1 : u > 7
  · rw [if_pos h1, if_pos (Or.inr (Or.inl h1))]
  have hs := whole_size u b
  rw [if_neg h1, show strOfNums [u % 256] ++ b = whole u b from rfl, right_tells (whole u b) (by omega) k (by omega)]
  simp only [Option.bind_some]
  cases hr : rightS (whole u b) with
  | true => rw [if_pos (by trivial), if_neg (by simp; omega)]
  | false => rw [if_neg (by simp), if_pos (by simp)]

theorem get_tells (c : ByteArray) (hn : c.size ≤ 140737488351232) (k : Nat) (hk : c.size + 3 ≤ k) : bitstr_Get.f k c = some (getS c) := by
  have r := bt_range c 0
  unfold bitstr_Get.f getS
  rw [right_tells c hn k hk]
  simp only [Option.bind_some]
  cases hr : rightS c with
  | true =>
    have := right_size hr
    simp only [reduceIte]
    rw [if_pos (show (0 : Int) < c.size by omega), if_pos (show (1 : Int) ≤ c.size by omega), wr (by omega) (by omega)]
  | false => rw [if_neg (by simp), if_neg (by simp)]

theorem bit_tells (c : ByteArray) (i : Int) (hn : c.size ≤ 140737488351232) (k : Nat) (hk : c.size + 3 ≤ k) (hi : -9223372036854775808 ≤ i) (hi2 : i ≤ 9223372036854775807) : bitstr_Bit.f k c i = some (bitS c i) := by
  unfold bitstr_Bit.f bitS
  rw [get_tells c hn k hk]
  simp only [Option.bind_some]
  unfold getS
  cases hr : rightS c with
  | false => simp
  | true =>
    have hs := right_size hr
    have r := bt_range c 0
    simp only [reduceIte]
    have es : ((c.extract 1 c.size).size : Int) = (c.size : Int) - 1 := by rw [ByteArray.size_extract]; omega
    rw [es, wr (show -9223372036854775808 ≤ 8 * ((c.size : Int) - 1) by omega) (by omega), wr (show -9223372036854775808 ≤ 8 * ((c.size : Int) - 1) - bt c 0 by omega) (by omega)]
    by_cases h0 : i < 0
    · rw [if_pos h0]
      have : ¬0 ≤ i := by omega
      simp [this]
    rw [if_neg h0]
    by_cases h1 : i ≥ 8 * ((c.size : Int) - 1) - bt c 0
    · rw [if_pos h1]
      have : ¬i < 8 * ((c.size : Int) - 1) - bt c 0 := by omega
      simp [this]
    rw [if_neg h1, Int.tdiv_eq_ediv_of_nonneg (by omega), Int.tmod_eq_emod_of_nonneg (by omega), wr (by omega) (by omega), if_pos (by omega), if_pos (by omega), if_pos (by omega)]
    have rb := bt_range (c.extract 1 c.size) (i / 8)
    rw [bit_of _ _ rb.1 rb.2 (by omega) (by omega), bt_extract _ _ _ _ (by omega) (by omega) (by omega)]
    have e1 : 0 ≤ i := by omega
    have e2 : i < 8 * ((c.size : Int) - 1) - bt c 0 := by omega
    simp only [e1, e2, decide_true, Bool.true_and]
    rfl

theorem awake_tells (k : Nat) (hk : 16 ≤ k) : gantletlaw12_awake.f k = some true := at_rounds gantletlaw12_awake.mono hk (by kernel_rfl)

theorem BitstrBack : gantletlaw12_BitstrBack.Pure := by
  intro u b _ hb
  refine ⟨400, ?_⟩
  unfold gantletlaw12_BitstrBack.f
  rw [awake_tells 400 (by omega)]
  simp only [Option.bind_some, if_true, gantletlaw12_BitstrBack.j0]
  by_cases hs : (b.size : Int) > 300
  · rw [if_pos (by simpa using hs), awake_tells 399 (by omega)]
    rfl
  rw [if_neg (by simpa using hs), put_tells u b (by omega) 399 (by omega)]
  simp only [Option.bind_some]
  have hw := whole_size u b
  unfold putS
  by_cases h : u < 0 ∨ u > 7 ∨ rightS (whole u b) = false
  · rw [if_pos h]
    simp only []
    rw [if_neg (by simp)]
    simp
  · rw [if_neg h]
    simp only []
    have hr : rightS (whole u b) = true := by
      cases e : rightS (whole u b) with
      | true => rfl
      | false => exact absurd (Or.inr (Or.inr e)) h
    rw [if_pos (by trivial), get_tells (whole u b) (by omega) 399 (by omega)]
    simp only [Option.bind_some]
    unfold getS
    rw [if_pos hr]
    simp only []
    rw [if_pos (by trivial), whole_head, if_pos (by omega), whole_extract, if_pos (by trivial), hw, wr (by omega) (by omega)]
    simp
    omega

end Go.Proofs.Ytlncpjjeieajmaa.Pure
