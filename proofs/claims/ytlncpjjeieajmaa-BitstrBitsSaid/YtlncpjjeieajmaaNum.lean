/- Plain facts on bytes and on contents of BIT STRING, used by the proofs of the statements of layer 12; no program in sight. -/
import Derived.Test.YtlncpjjeieajmaaWMore
namespace Go.Proofs.Ytlncpjjeieajmaa.Num
open Go.RowKit Go.Proofs.YtlncpjjeieajmaaW.PrintWords Go.Proofs.YtlncpjjeieajmaaW.PrintMore

theorem bt_strOfNums (l : List Int) (i : Nat) (hi : i < l.length) (h0 : 0 ≤ l[i]) (h1 : l[i] < 256) : bt (strOfNums l) i = l[i] := by
  have hs : (i : Int).toNat < (strOfNums l).size := by rw [strOfNums_size]; omega
  unfold bt
  rw [dif_pos hs]
  have e : (strOfNums l)[(i : Int).toNat]'hs = UInt8.ofNat (l[i]).toNat := by
    show (strOfNums l).data[(i : Int).toNat]'_ = _
    unfold strOfNums
    simp
  rw [e, UInt8.toNat_ofNat']
  omega

theorem bt_append_left (a b : ByteArray) (i : Int) (h0 : 0 ≤ i) (h : i < a.size) : bt (a ++ b) i = bt a i := by
  unfold bt
  have h1 : i.toNat < a.size := by omega
  have h2 : i.toNat < (a ++ b).size := by rw [ByteArray.size_append]; omega
  rw [dif_pos h1, dif_pos h2, ByteArray.getElem_append_left h1]

theorem bt_append_right (a b : ByteArray) (i : Int) (h0 : 0 ≤ i) : bt (a ++ b) ((a.size : Int) + i) = bt b i := by
  unfold bt
  by_cases h : i.toNat < b.size
  · have h2 : ((a.size : Int) + i).toNat < (a ++ b).size := by rw [ByteArray.size_append]; omega
    rw [dif_pos h, dif_pos h2, ByteArray.getElem_append_right (by omega)]
    have e : ((a.size : Int) + i).toNat - a.size = i.toNat := by omega
    simp only [e]
  · have h2 : ¬ ((a.size : Int) + i).toNat < (a ++ b).size := by rw [ByteArray.size_append]; omega
    rw [dif_neg h, dif_neg h2]

theorem bt_extract (s : ByteArray) (a b : Nat) (i : Int) (hb : b ≤ s.size) (h0 : 0 ≤ i) (h : (a : Int) + i < b) : bt (s.extract a b) i = bt s ((a : Int) + i) := by
  unfold bt
  have h1 : i.toNat < (s.extract a b).size := by rw [ByteArray.size_extract]; omega
  have h2 : ((a : Int) + i).toNat < s.size := by omega
  rw [dif_pos h1, dif_pos h2, ByteArray.getElem_extract]
  have e : ((a : Int) + i).toNat = a + i.toNat := by omega
  simp only [e]

theorem ext_bt {a b : ByteArray} (hs : a.size = b.size) (h : ∀ i : Nat, i < a.size → bt a i = bt b i) : a = b := by
  apply ByteArray.ext_getElem hs
  intro i h1 h2
  have e := h i h1
  unfold bt at e
  have g1 : (i : Int).toNat < a.size := by omega
  have g2 : (i : Int).toNat < b.size := by omega
  rw [dif_pos g1, dif_pos g2] at e
  simp only [Int.toNat_natCast] at e
  exact UInt8.toNat_inj.1 (by omega)

theorem beq_str {a b : ByteArray} (h : a = b) : (a.toList == b.toList) = true := by rw [h]; simp

/-- the low bits of a byte under a mask -/
theorem mask (b u : Int) (h0 : 0 ≤ b) (h1 : b ≤ 255) (h2 : 0 ≤ u) (h3 : u ≤ 7) : Go.bits .and .u8 b ((shl .u8 1 u - 1) % 256) = b % 2 ^ u.toNat := by
  have h : u = 0 ∨ u = 1 ∨ u = 2 ∨ u = 3 ∨ u = 4 ∨ u = 5 ∨ u = 6 ∨ u = 7 := by omega
  have key : ∀ j : Nat, j ≤ 7 → (shl .u8 1 (j : Int) - 1) % 256 = ((2 ^ j - 1 : Nat) : Int) → Go.bits .and .u8 b ((shl .u8 1 (j : Int) - 1) % 256) = b % 2 ^ j := by
    intro j hj e
    have hp : 2 ^ j ≤ 2 ^ 7 := Nat.pow_le_pow_right (by omega) hj
    have hp0 : 0 < 2 ^ j := Nat.pow_pos (by omega)
    rw [e, u8_and _ _ h0 (by omega) (by omega) (by omega), Int.toNat_natCast, Nat.and_two_pow_sub_one_eq_mod, Int.natCast_emod, Int.toNat_of_nonneg h0]
    simp
  rcases h with rfl | rfl | rfl | rfl | rfl | rfl | rfl | rfl
  · exact key 0 (by omega) (by decide)
  · exact key 1 (by omega) (by decide)
  · exact key 2 (by omega) (by decide)
  · exact key 3 (by omega) (by decide)
  · exact key 4 (by omega) (by decide)
  · exact key 5 (by omega) (by decide)
  · exact key 6 (by omega) (by decide)
  · exact key 7 (by omega) (by decide)

/-- one bit of a byte, as the program looks at it -/
theorem bit_of (x i : Int) (h0 : 0 ≤ x) (h1 : x ≤ 255) (h2 : 0 ≤ i) (h3 : i ≤ 7) : (Go.bits .and .u8 (shl .u8 x i) 128 != 0) = decide (x / 2 ^ (7 - i).toNat % 2 = 1) := by
  have hy : 0 ≤ shl .u8 x i ∧ shl .u8 x i < 256 := by
    unfold shl
    rw [IntKind.wrap_u8]
    omega
  have e : Go.bits .and .u8 (shl .u8 x i) 128 = shl .u8 x i / 128 * 128 := by
    rw [u8_and _ _ hy.1 hy.2 (by omega) (by omega)]
    have := nat_bit 7 (shl .u8 x i).toNat
    rw [show (128 : Int).toNat = 2 ^ 7 from by decide, this]
    omega
  rw [e]
  have h : i = 0 ∨ i = 1 ∨ i = 2 ∨ i = 3 ∨ i = 4 ∨ i = 5 ∨ i = 6 ∨ i = 7 := by omega
  rw [Bool.eq_iff_iff]
  simp only [bne_iff_ne, ne_eq, decide_eq_true_eq]
  have sh : ∀ j : Nat, j ≤ 7 → shl .u8 x (j : Int) = x * 2 ^ j % 256 := by
    intro j hj
    unfold shl
    rw [IntKind.wrap_u8, Int.toNat_natCast, Nat.min_eq_left (by simp only [IntKind.bits]; omega)]
  rcases h with rfl | rfl | rfl | rfl | rfl | rfl | rfl | rfl
  · have := sh 0 (by omega); simp at this ⊢; omega
  · have := sh 1 (by omega); simp at this ⊢; omega
  · have := sh 2 (by omega); simp at this ⊢; omega
  · have := sh 3 (by omega); simp at this ⊢; omega
  · have := sh 4 (by omega); simp at this ⊢; omega
  · have := sh 5 (by omega); simp at this ⊢; omega
  · have := sh 6 (by omega); simp at this ⊢; omega
  · have := sh 7 (by omega); simp at this ⊢; omega

/-- is a content right? -/
def rightS (c : ByteArray) : Bool := decide (1 ≤ c.size ∧ bt c 0 ≤ 7 ∧ (c.size = 1 → bt c 0 = 0) ∧ (1 < c.size → bt c ((c.size : Int) - 1) % 2 ^ (bt c 0).toNat = 0))
/-- with which byte of a content of n bytes, of which these came, it is wrong -/
def wrongS (n : Int) (c : ByteArray) : Int :=
  if n < 1 then 0 else if (c.size : Int) > 0 ∧ (bt c 0 > 7 ∨ (n = 1 ∧ bt c 0 ≠ 0)) then 1
  else if n > 1 ∧ (c.size : Int) = n ∧ bt c (n - 1) % 2 ^ (bt c 0).toNat ≠ 0 then n else -1

theorem right_wrong (c : ByteArray) : rightS c = (decide (0 < c.size) && (wrongS c.size c == -1)) := by
  unfold rightS wrongS
  have r := bt_range c 0
  rw [Bool.eq_iff_iff]
  simp only [decide_eq_true_eq, Bool.and_eq_true, beq_iff_eq]
  constructor
  · rintro ⟨h1, h2, h3, h4⟩
    refine ⟨h1, ?_⟩
    rw [if_neg (by omega), if_neg (by omega)]
    by_cases h : 1 < c.size
    · rw [if_neg (by have := h4 h; omega)]
    · rw [if_neg (by omega)]
  · rintro ⟨h1, h2⟩
    rw [if_neg (by omega)] at h2
    by_cases h3 : (c.size : Int) > 0 ∧ (bt c 0 > 7 ∨ ((c.size : Int) = 1 ∧ bt c 0 ≠ 0))
    · rw [if_pos h3] at h2; omega
    rw [if_neg h3] at h2
    by_cases h4 : (c.size : Int) > 1 ∧ True ∧ bt c ((c.size : Int) - 1) % 2 ^ (bt c 0).toNat ≠ 0
    · rw [if_pos h4] at h2; omega
    · exact ⟨h1, by omega, by omega, fun h => by
        by_cases h5 : bt c ((c.size : Int) - 1) % 2 ^ (bt c 0).toNat = 0
        · exact h5
        · exact absurd ⟨by omega, trivial, h5⟩ h4⟩

/-- a content's head and tail -/
def whole (u : Int) (b : ByteArray) : ByteArray := strOfNums [u % 256] ++ b
theorem whole_size (u : Int) (b : ByteArray) : (whole u b).size = 1 + b.size := by
  unfold whole
  rw [ByteArray.size_append, strOfNums_size]
  rfl
theorem whole_head (u : Int) (b : ByteArray) : bt (whole u b) 0 = u % 256 := by
  unfold whole
  rw [bt_append_left _ _ _ (by omega) (by rw [strOfNums_size]; simp)]
  exact bt_strOfNums [u % 256] 0 (by simp) (by simp; omega) (by simp; omega)
theorem whole_tail (u : Int) (b : ByteArray) (i : Int) (h : 0 ≤ i) : bt (whole u b) (1 + i) = bt b i := by
  have := bt_append_right (strOfNums [u % 256]) b i h
  rw [strOfNums_size] at this
  exact this
theorem whole_extract (u : Int) (b : ByteArray) : (whole u b).extract 1 (whole u b).size = b := by
  apply ext_bt
  · rw [ByteArray.size_extract, whole_size]; omega
  · intro i hi
    rw [ByteArray.size_extract, whole_size] at hi
    rw [bt_extract _ _ _ _ (by omega) (by omega) (by rw [whole_size]; omega)]
    exact whole_tail u b i (by omega)
theorem whole_got (c : ByteArray) (h : 0 < c.size) : whole (bt c 0) (c.extract 1 c.size) = c := by
  have r := bt_range c 0
  apply ext_bt
  · rw [whole_size, ByteArray.size_extract]; omega
  · intro i hi
    rw [whole_size, ByteArray.size_extract] at hi
    by_cases h0 : i = 0
    · subst h0
      rw [show ((0 : Nat) : Int) = 0 from rfl, whole_head]
      omega
    · rw [show (i : Int) = 1 + ((i : Int) - 1) from by omega, whole_tail _ _ _ (by omega), bt_extract _ _ _ _ (by omega) (by omega) (by omega)]
      rfl

/-- what Put, Get, Bit answer -/
def putS (u : Int) (b : ByteArray) : ByteArray × Bool := if u < 0 ∨ u > 7 ∨ rightS (whole u b) = false then (⟨#[]⟩, false) else (whole u b, true)
def getS (c : ByteArray) : Int × ByteArray × Bool := if rightS c = true then (bt c 0, c.extract 1 c.size, true) else (0, ⟨#[]⟩, false)
def bitS (c : ByteArray) (i : Int) : Bool := rightS c && decide (0 ≤ i) && decide (i < 8 * ((c.size : Int) - 1) - bt c 0) && decide (bt c (1 + i / 8) / 2 ^ (7 - i % 8).toNat % 2 = 1)

theorem right_size {c : ByteArray} (h : rightS c = true) : 1 ≤ c.size ∧ bt c 0 ≤ 7 := by
  unfold rightS at h
  rw [decide_eq_true_eq] at h
  exact ⟨h.1, h.2.1⟩

end Go.Proofs.Ytlncpjjeieajmaa.Num
