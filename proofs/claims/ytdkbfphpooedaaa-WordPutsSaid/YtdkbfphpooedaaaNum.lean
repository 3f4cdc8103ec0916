/- Numbers as bytes, and back, over lists alone (layer 1). -/
namespace Go.Proofs.Ytdkbfphpooedaaa.Word
set_option linter.unusedVariables false

/-! ### bytes -/
/-- So many bytes of a number, the highest first. -/
def be : Nat → Nat → List Int
  | 0, _ => []
  | k + 1, x => be k (x / 256) ++ [((x % 256 : Nat) : Int)]
theorem be_len (k x : Nat) : (be k x).length = k := by
  induction k generalizing x with
  | zero => rfl
  | succ k ih => simp [be, ih]
theorem be_add (a b x : Nat) : be (a + b) x = be a (x / 256 ^ b) ++ be b x := by
  induction b generalizing x with
  | zero => simp [be]
  | succ b ih =>
    rw [← Nat.add_assoc, be, ih, be, Nat.div_div_eq_div_mul, show 256 * 256 ^ b = 256 ^ (b + 1) from by rw [Nat.pow_succ, Nat.mul_comm]]
    simp
theorem be_mod (k x : Nat) : be k (x % 256 ^ k) = be k x := by
  induction k generalizing x with
  | zero => rfl
  | succ k ih =>
    rw [be, be, Nat.pow_succ, Nat.mul_comm, Nat.mod_mul_right_div_self, ih]
    rw [Nat.mod_mul_right_mod]
theorem be4 (x : Nat) : be 4 x = [((x / 16777216 % 256 : Nat) : Int), ((x / 65536 % 256 : Nat) : Int), ((x / 256 % 256 : Nat) : Int), ((x % 256 : Nat) : Int)] := by
  simp [be, Nat.div_div_eq_div_mul]
theorem be8 (x : Nat) : be 8 x = be 4 (x / 4294967296) ++ be 4 (x % 4294967296) := by
  rw [be_add 4 4 x, show 256 ^ 4 = 4294967296 from rfl, ← be_mod 4 x]
/-- The word that four bytes are. -/
def wd (a b c d : Nat) : Nat := a * 16777216 + b * 65536 + c * 256 + d
theorem wd_lt {a b c d : Nat} (ha : a < 256) (hb : b < 256) (hc : c < 256) (hd : d < 256) : wd a b c d < 4294967296 := by unfold wd; omega
theorem be_wd {a b c d : Nat} (ha : a < 256) (hb : b < 256) (hc : c < 256) (hd : d < 256) : be 4 (wd a b c d) = [(a : Int), (b : Int), (c : Int), (d : Int)] := by
  rw [be4]
  unfold wd
  have h1 : (a * 16777216 + b * 65536 + c * 256 + d) / 16777216 % 256 = a := by omega
  have h2 : (a * 16777216 + b * 65536 + c * 256 + d) / 65536 % 256 = b := by omega
  have h3 : (a * 16777216 + b * 65536 + c * 256 + d) / 256 % 256 = c := by omega
  have h4 : (a * 16777216 + b * 65536 + c * 256 + d) % 256 = d := by omega
  rw [h1, h2, h3, h4]
theorem wd_be (x : Nat) (h : x < 4294967296) : wd (x / 16777216 % 256) (x / 65536 % 256) (x / 256 % 256) (x % 256) = x := by unfold wd; omega

/-! ### turning -/
def rot (x r : Nat) : Nat := (x >>> r) ||| ((x <<< (32 - r)) % 2 ^ 32)
theorem rot_bit (x r i : Nat) (hx : x < 2 ^ 32) (hr : r < 32) : (rot x r).testBit i = (decide (i < 32) && x.testBit ((i + r) % 32)) := by
  have big : ∀ j, 32 ≤ j → x.testBit j = false := fun j hj => Nat.testBit_lt_two_pow (Nat.lt_of_lt_of_le hx (Nat.pow_le_pow_right (by decide) hj))
  unfold rot
  rw [Nat.testBit_or, Nat.testBit_shiftRight, Nat.testBit_mod_two_pow, Nat.testBit_shiftLeft]
  by_cases hi : i < 32
  · by_cases h2 : 32 - r ≤ i
    · rw [big (r + i) (by omega), show (i + r) % 32 = i - (32 - r) from by omega]
      simp [hi, h2]
    · rw [show (i + r) % 32 = r + i from by omega]
      simp [hi, h2]
  · rw [big (r + i) (by omega)]
    simp [hi]
theorem rot_lt (x r : Nat) (hx : x < 2 ^ 32) (hr : r < 32) : rot x r < 2 ^ 32 := by
  apply Nat.lt_pow_two_of_testBit
  intro i hi
  rw [rot_bit x r i hx hr]
  simp
  omega
theorem rot_rot (x a b : Nat) (hx : x < 2 ^ 32) (ha : a < 32) (hb : b < 32) : rot (rot x a) b = rot x ((a + b) % 32) := by
  apply Nat.eq_of_testBit_eq
  intro i
  rw [rot_bit _ b i (rot_lt x a hx ha) hb, rot_bit x a _ hx ha, rot_bit x _ i hx (Nat.mod_lt _ (by decide))]
  rw [show ((i + b) % 32 + a) % 32 = (i + (a + b) % 32) % 32 from by omega]
  have : (i + b) % 32 < 32 := Nat.mod_lt _ (by decide)
  simp [this]
theorem rot_zero (x : Nat) (hx : x < 2 ^ 32) : rot x 0 = x := by
  apply Nat.eq_of_testBit_eq
  intro i
  rw [rot_bit x 0 i hx (by decide)]
  by_cases hi : i < 32
  · simp [hi, Nat.mod_eq_of_lt hi]
  · have : x.testBit i = false := Nat.testBit_lt_two_pow (Nat.lt_of_lt_of_le hx (Nat.pow_le_pow_right (by decide) (by omega)))
    simp [hi, this]
theorem rot_xor (x y r : Nat) (hx : x < 2 ^ 32) (hy : y < 2 ^ 32) (hr : r < 32) : rot x r ^^^ rot y r = rot (x ^^^ y) r := by
  apply Nat.eq_of_testBit_eq
  intro i
  rw [rot_bit _ r i (Nat.xor_lt_two_pow hx hy) hr, Nat.testBit_xor, rot_bit x r i hx hr, rot_bit y r i hy hr, Nat.testBit_xor]
  cases decide (i < 32) <;> simp
theorem rot_and (x y r : Nat) (hx : x < 2 ^ 32) (hy : y < 2 ^ 32) (hr : r < 32) : rot x r &&& rot y r = rot (x &&& y) r := by
  apply Nat.eq_of_testBit_eq
  intro i
  rw [rot_bit _ r i (Nat.and_lt_two_pow x hy) hr, Nat.testBit_and, rot_bit x r i hx hr, rot_bit y r i hy hr, Nat.testBit_and]
  cases decide (i < 32) <;> simp
theorem rot_one (x : Nat) (hx : x < 2 ^ 32) : rot x 1 = x / 2 + x % 2 * 2147483648 := by
  unfold rot
  rw [Nat.shiftRight_eq_div_pow, Nat.shiftLeft_eq, show 2 ^ (32 - 1) = 2147483648 from rfl, show (2 : Nat) ^ 1 = 2 from rfl]
  have e : x * 2147483648 % 2 ^ 32 = 2 ^ 31 * (x % 2) := by omega
  rw [e, Nat.or_comm, ← Nat.two_pow_add_eq_or_of_lt (by omega)]
  omega

/-! ### roots -/
/-- The greatest number whose k-th power is at most n. -/
def Rt (n k r : Nat) : Prop := r ^ k ≤ n ∧ n < (r + 1) ^ k
theorem lt_of_pow {a b k : Nat} (h : a ^ k < b ^ k) : a < b := by
  apply Decidable.byContradiction
  intro hn
  have := Nat.pow_le_pow_left (show b ≤ a by omega) k
  omega
theorem Rt.mono {n m k r s : Nat} (h : Rt n k r) (g : Rt m k s) (hnm : n ≤ m) : r ≤ s := by
  have := lt_of_pow (Nat.lt_of_le_of_lt (Nat.le_trans h.1 hnm) g.2)
  omega
theorem Rt.uniq {n k r s : Nat} (h : Rt n k r) (g : Rt n k s) : r = s := Nat.le_antisymm (h.mono g (Nat.le_refl _)) (g.mono h (Nat.le_refl _))
theorem Rt.deg {n k l r s : Nat} (h : Rt n k r) (g : Rt n l s) (hk : k ≤ l) : s ≤ r := by
  by_cases h0 : s = 0
  · omega
  · have h1 := Nat.pow_le_pow_right (show s > 0 by omega) hk
    have := lt_of_pow (Nat.lt_of_le_of_lt (Nat.le_trans h1 g.1) h.2)
    omega
theorem Rt.one {n r : Nat} (h : Rt n 1 r) : r = n := by
  have h1 := h.1
  have h2 := h.2
  rw [Nat.pow_one] at h1 h2
  omega
theorem Rt.le {n k r : Nat} (h : Rt n k r) (hk : 1 ≤ k) : r ≤ n := by
  by_cases h0 : r = 0
  · omega
  · have h1 := Nat.pow_le_pow_right (show r > 0 by omega) hk
    have := h.1
    rw [Nat.pow_one] at h1
    omega

/-! ### primes -/
def noDiv (n : Nat) : Nat → Nat → Bool
  | _, 0 => true
  | d, f + 1 => bif Nat.ble (Nat.succ n) (d * d) then true else bif Nat.beq (n % d) 0 then false else noDiv n (d + 1) f
/-- Is it a prime number? -/
def isP (n : Nat) : Bool := Nat.ble 2 n && noDiv n 2 100
theorem noDiv_iff (n d f : Nat) (h : n < (d + f) * (d + f)) : noDiv n d f = true ↔ ∀ e, d ≤ e → e * e ≤ n → n % e ≠ 0 := by
  induction f generalizing d with
  | zero =>
    refine ⟨fun _ e he h2 => ?_, fun _ => rfl⟩
    have := Nat.mul_le_mul he he
    rw [Nat.add_zero] at h
    omega
  | succ f ih =>
    rw [noDiv]
    by_cases h1 : n < d * d
    · rw [show Nat.ble (Nat.succ n) (d * d) = true from by rw [Nat.ble_eq]; exact h1]
      refine ⟨fun _ e he h2 => ?_, fun _ => rfl⟩
      have := Nat.mul_le_mul he he
      omega
    · rw [show Nat.ble (Nat.succ n) (d * d) = false from by rw [← Bool.not_eq_true]; intro h2; rw [Nat.ble_eq] at h2; exact h1 h2]
      by_cases h2 : n % d = 0
      · rw [show Nat.beq (n % d) 0 = true from by rw [Nat.beq_eq]; exact h2]
        simp only [cond_true, cond_false]
        refine ⟨fun h => (by simp at h), fun h3 => absurd h2 (h3 d (Nat.le_refl _) (by omega))⟩
      · rw [show Nat.beq (n % d) 0 = false from by rw [← Bool.not_eq_true]; intro h3; rw [Nat.beq_eq] at h3; exact h2 h3]
        simp only [cond_false]
        rw [ih (d + 1) (by rw [show d + 1 + f = d + (f + 1) from by omega]; exact h)]
        refine ⟨fun h3 e he h4 => ?_, fun h3 e he => h3 e (by omega)⟩
        by_cases he2 : e = d
        · rw [he2]; exact h2
        · exact h3 e (by omega) h4
theorem isP_iff (n : Nat) (h : n < 10000) : isP n = true ↔ 2 ≤ n ∧ ∀ e, 2 ≤ e → e * e ≤ n → n % e ≠ 0 := by
  unfold isP
  rw [Bool.and_eq_true, noDiv_iff n 2 100 (by omega), Nat.ble_eq]
/-- Every number above one has a prime divisor that is the least one. -/
theorem least_div (n : Nat) (h : n < 10000) (e : Nat) (he : 2 ≤ e) (h2 : e * e ≤ n) (h3 : n % e = 0) : ∃ p, isP p = true ∧ p ≤ e ∧ n % p = 0 := by
  induction e using Nat.strongRecOn with
  | ind e ih =>
    have hen : e ≤ n := Nat.le_trans (Nat.le_mul_self e) h2
    by_cases hp : isP e = true
    · exact ⟨e, hp, Nat.le_refl _, h3⟩
    · rw [isP_iff e (by omega)] at hp
      have : ∃ d, 2 ≤ d ∧ d * d ≤ e ∧ e % d = 0 := by
        apply Classical.byContradiction
        intro hn
        exact hp ⟨he, fun d h4 h5 h6 => hn ⟨d, h4, h5, h6⟩⟩
      obtain ⟨d, h4, h5, h6⟩ := this
      have hde : d < e := by
        have := Nat.mul_le_mul h4 (Nat.le_refl d)
        omega
      have hdn : n % d = 0 := Nat.mod_eq_zero_of_dvd (Nat.dvd_trans (Nat.dvd_of_mod_eq_zero h6) (Nat.dvd_of_mod_eq_zero h3))
      obtain ⟨p, a, b, c⟩ := ih d hde h4 (Nat.le_trans (Nat.mul_le_mul (Nat.le_of_lt hde) (Nat.le_of_lt hde)) h2) hdn
      exact ⟨p, a, by omega, c⟩
/-- The primes below x. -/
def ps (x : Nat) : List Nat := (List.range x).filter isP
theorem ps_succ (x : Nat) : ps (x + 1) = if isP x = true then ps x ++ [x] else ps x := by
  unfold ps
  rw [List.range_succ, List.filter_append]
  by_cases h : isP x = true
  · rw [if_pos h]; simp [h]
  · rw [if_neg h]; simp [h]
theorem ps_mem {x p : Nat} : p ∈ ps x ↔ p < x ∧ isP p = true := by
  unfold ps
  rw [List.mem_filter, List.mem_range]
theorem ps_two : ps 2 = [] := by decide +kernel
theorem ps_len_mono {a b : Nat} (h : a ≤ b) : (ps a).length ≤ (ps b).length := by
  induction b with
  | zero => rw [show a = 0 from by omega]; exact Nat.le_refl _
  | succ b ih =>
    by_cases h2 : a = b + 1
    · rw [h2]; exact Nat.le_refl _
    · have := ih (by omega)
      rw [ps_succ]
      split
      · rw [List.length_append]; omega
      · exact this
theorem ps_append {a b : Nat} (h : a ≤ b) : ∃ t, ps b = ps a ++ t := by
  induction b with
  | zero => rw [show a = 0 from by omega]; exact ⟨[], by simp⟩
  | succ b ih =>
    by_cases h2 : a = b + 1
    · rw [h2]; exact ⟨[], by simp⟩
    · obtain ⟨t, ht⟩ := ih (by omega)
      rw [ps_succ]
      split
      · exact ⟨t ++ [b], by rw [ht]; simp⟩
      · exact ⟨t, ht⟩
theorem ps_at {x X : Nat} (h : isP x = true) (hx : (ps x).length < (ps X).length) : (ps X).getD (ps x).length 0 = x := by
  have hlt : x < X := by
    apply Decidable.byContradiction
    intro hn
    have := ps_len_mono (show X ≤ x by omega)
    omega
  obtain ⟨t, ht⟩ := ps_append (show x + 1 ≤ X by omega)
  rw [ps_succ, if_pos h] at ht
  rw [ht]
  simp [List.getD]
def cnt : Nat → Nat → Nat → Nat
  | 0, _, a => a
  | f + 1, x, a => bif isP x then cnt f (x + 1) (a + 1) else cnt f (x + 1) a
theorem cnt_eq (f x a : Nat) (h : (ps x).length = a) : cnt f x a = (ps (x + f)).length := by
  induction f generalizing x a with
  | zero => exact h.symm
  | succ f ih =>
    rw [cnt, show x + (f + 1) = x + 1 + f from by omega]
    by_cases hp : isP x = true
    · rw [hp, cond_true]
      exact ih _ _ (by rw [ps_succ, if_pos hp, List.length_append, h]; rfl)
    · rw [Bool.not_eq_true] at hp
      rw [hp, cond_false]
      exact ih _ _ (by rw [ps_succ, if_neg (by rw [hp]; decide), h])
theorem cnt_all : cnt 7920 0 0 = 1000 := by decide +kernel
theorem ps_all : (ps 7920).length = 1000 := by
  have := cnt_eq 7920 0 0 rfl
  rw [cnt_all, Nat.zero_add] at this
  exact this.symm
theorem ps_idx {X j : Nat} (h : j < (ps X).length) : (ps ((ps X).getD j 0)).length = j ∧ isP ((ps X).getD j 0) = true ∧ (ps X).getD j 0 < X := by
  induction X with
  | zero => simp [ps] at h
  | succ X ih =>
    by_cases hp : isP X = true
    · rw [ps_succ, if_pos hp] at h ⊢
      by_cases h2 : j < (ps X).length
      · have e : (ps X ++ [X]).getD j 0 = (ps X).getD j 0 := by simp [List.getD, List.getElem?_append_left h2]
        rw [e]
        obtain ⟨a, b, c⟩ := ih h2
        exact ⟨a, b, by omega⟩
      · obtain rfl : j = (ps X).length := by
          rw [List.length_append, List.length_singleton] at h
          omega
        have e : (ps X ++ [X]).getD (ps X).length 0 = X := by simp [List.getD]
        rw [e]
        exact ⟨rfl, hp, by omega⟩
    · rw [ps_succ, if_neg hp] at h ⊢
      obtain ⟨a, b, c⟩ := ih h
      exact ⟨a, b, by omega⟩
theorem ps_len_lt {p q : Nat} (h : isP p = true) (hq : p < q) : (ps p).length < (ps q).length := by
  have h1 := ps_len_mono (show p + 1 ≤ q from hq)
  rw [ps_succ, if_pos h, List.length_append, List.length_singleton] at h1
  omega
theorem isP_two {p : Nat} (h : isP p = true) : 2 ≤ p := by
  unfold isP at h
  rw [Bool.and_eq_true, Nat.ble_eq] at h
  exact h.1
theorem isP_true {X : Nat} (hX : X < 10000) (h2 : 2 ≤ X) (h : ∀ p, isP p = true → p < X → p * p ≤ X → X % p ≠ 0) : isP X = true := by
  rw [isP_iff X hX]
  refine ⟨h2, fun e he h3 h4 => ?_⟩
  obtain ⟨p, a, b, c⟩ := least_div X hX e he h3 h4
  have h5 : e < X := by
    have := Nat.mul_le_mul he (Nat.le_refl e)
    omega
  exact h p a (by omega) (Nat.le_trans (Nat.mul_le_mul b b) h3) c
/-- Up to j no prime number divides X, and the next one is too great, or there is none. -/
theorem tried {X j : Nat} (hX : X < 10000) (h2 : 2 ≤ X) (h : ∀ t, t < j → X % (ps X).getD t 0 ≠ 0) (hj : (ps X).length ≤ j ∨ (j < (ps X).length ∧ X < (ps X).getD j 0 * (ps X).getD j 0)) : isP X = true := by
  refine isP_true hX h2 (fun p hp hpX hpp => ?_)
  have hi := ps_len_lt hp hpX
  have ha := ps_at hp hi
  by_cases ht : (ps p).length < j
  · have := h _ ht
    rw [ha] at this
    exact this
  · rcases hj with hj | ⟨hj, hq⟩
    · omega
    · obtain ⟨a, b, c⟩ := ps_idx hj
      have hle : (ps X).getD j 0 ≤ p := by
        apply Decidable.byContradiction
        intro hn
        have := ps_len_lt hp (show p < (ps X).getD j 0 by omega)
        omega
      have := Nat.mul_le_mul hle hle
      omega
theorem fell {X j : Nat} (hX : X < 10000) (hj : j < (ps X).length) (h : (ps X).getD j 0 * (ps X).getD j 0 ≤ X) (h0 : X % (ps X).getD j 0 = 0) : isP X = false := by
  rw [← Bool.not_eq_true, isP_iff X hX]
  rintro ⟨_, h3⟩
  obtain ⟨a, b, c⟩ := ps_idx hj
  exact h3 _ (isP_two b) h h0
end Go.Proofs.Ytdkbfphpooedaaa.Word
