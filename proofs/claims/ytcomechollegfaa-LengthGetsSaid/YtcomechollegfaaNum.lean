/- Plain facts on bytes and on numbers written in base 256, used by the proofs of the statements of layer 6; no program in sight. -/
import Derived.Test.YtcomechollegfaaWWords
namespace Go.Proofs.Ytcomechollegfaa.Num
open Go.RowKit Go.Proofs.YtcomechollegfaaW.PrintWords

theorem bt_strOfNums (l : List Int) (i : Nat) (hi : i < l.length) (h0 : 0 ≤ l[i]) (h1 : l[i] < 256) : bt (strOfNums l) i = l[i] := by
  have hs : (i : Int).toNat < (strOfNums l).size := by rw [strOfNums_size]; omega
  unfold bt
  rw [dif_pos hs]
  have e : (strOfNums l)[(i : Int).toNat]'hs = UInt8.ofNat (l[i]).toNat := by
    show (strOfNums l).data[(i : Int).toNat]'_ = _
    unfold strOfNums
    simp
  rw [e, UInt8.toNat_ofNat']
  omega

theorem bt_append_left (a b : ByteArray) (i : Int) (h0 : 0 ≤ i) (h : i < a.size) : bt (a ++ b) i = bt a i := by
  unfold bt
  have h1 : i.toNat < a.size := by omega
  have h2 : i.toNat < (a ++ b).size := by rw [ByteArray.size_append]; omega
  rw [dif_pos h1, dif_pos h2, ByteArray.getElem_append_left h1]

theorem bt_append_right (a b : ByteArray) (i : Int) (h0 : 0 ≤ i) : bt (a ++ b) ((a.size : Int) + i) = bt b i := by
  unfold bt
  by_cases h : i.toNat < b.size
  · have h2 : ((a.size : Int) + i).toNat < (a ++ b).size := by rw [ByteArray.size_append]; omega
    rw [dif_pos h, dif_pos h2, ByteArray.getElem_append_right (by omega)]
    have e : ((a.size : Int) + i).toNat - a.size = i.toNat := by omega
    simp only [e]
  · have h2 : ¬ ((a.size : Int) + i).toNat < (a ++ b).size := by rw [ByteArray.size_append]; omega
    rw [dif_neg h, dif_neg h2]

theorem bt_extract (s : ByteArray) (a b : Nat) (i : Int) (hb : b ≤ s.size) (h0 : 0 ≤ i) (h : (a : Int) + i < b) : bt (s.extract a b) i = bt s ((a : Int) + i) := by
  unfold bt
  have h1 : i.toNat < (s.extract a b).size := by rw [ByteArray.size_extract]; omega
  have h2 : ((a : Int) + i).toNat < s.size := by omega
  rw [dif_pos h1, dif_pos h2, ByteArray.getElem_extract]
  have e : ((a : Int) + i).toNat = a + i.toNat := by omega
  simp only [e]

theorem ext_bt {a b : ByteArray} (hs : a.size = b.size) (h : ∀ i : Nat, i < a.size → bt a i = bt b i) : a = b := by
  apply ByteArray.ext_getElem hs
  intro i h1 h2
  have e := h i h1
  unfold bt at e
  have g1 : (i : Int).toNat < a.size := by omega
  have g2 : (i : Int).toNat < b.size := by omega
  rw [dif_pos g1, dif_pos g2] at e
  simp only [Int.toNat_natCast] at e
  exact UInt8.toNat_inj.1 (by omega)

/-- the lowest c digits in base 256, the highest first -/
def digN : Nat → Int → List Int
  | 0, _ => []
  | c + 1, n => digN c (n / 256) ++ [n % 256]
/-- how many digits (at most f) -/
def cnt : Nat → Int → Nat
  | 0, _ => 0
  | f + 1, n => if n > 0 then cnt f (n / 256) + 1 else 0

theorem digN_length (c : Nat) : ∀ n, (digN c n).length = c := by
  induction c with
  | zero => intro n; rfl
  | succ c ih => intro n; simp [digN, ih]

theorem digN_get (c : Nat) : ∀ (n : Int) (i : Nat) (h : i < (digN c n).length), (digN c n)[i] = n / 256 ^ (c - 1 - i) % 256 := by
  induction c with
  | zero => intro n i h; simp [digN] at h
  | succ c ih =>
    intro n i h
    rw [digN_length] at h
    simp only [digN]
    by_cases hi : i < c
    · rw [List.getElem_append_left (by rw [digN_length]; exact hi), ih, Int.ediv_ediv_of_nonneg (by omega)]
      have e : c + 1 - 1 - i = (c - 1 - i) + 1 := by omega
      rw [e, Int.pow_succ, Int.mul_comm]
    · have e : i = c := by omega
      subst e
      rw [List.getElem_append_right (by rw [digN_length]; omega)]
      simp [digN_length]

theorem digN_range (c : Nat) (n : Int) (i : Nat) (h : i < (digN c n).length) : 0 ≤ (digN c n)[i] ∧ (digN c n)[i] < 256 := by
  rw [digN_get]
  exact ⟨Int.emod_nonneg _ (by omega), Int.emod_lt_of_pos _ (by omega)⟩

theorem cnt_le (f : Nat) : ∀ n, cnt f n ≤ f := by
  induction f with
  | zero => intro n; simp [cnt]
  | succ f ih => intro n; simp only [cnt]; have := ih (n / 256); split <;> omega

theorem pow_pos' (c : Nat) : (0 : Int) < 256 ^ c := Int.pow_pos (by omega)

theorem lt_cnt (f : Nat) : ∀ n : Int, 0 ≤ n → n < 256 ^ f → n < 256 ^ cnt f n := by
  induction f with
  | zero => intro n _ h; simpa [cnt] using h
  | succ f ih =>
    intro n h0 h
    simp only [cnt]
    by_cases hn : n > 0
    · rw [if_pos hn]
      rw [Int.pow_succ] at h
      have := ih (n / 256) (by omega) (by omega)
      rw [Int.pow_succ]
      omega
    · rw [if_neg hn]; simp; omega

theorem cnt_low (f : Nat) : ∀ n : Int, 0 < n → n < 256 ^ f → 0 < cnt f n ∧ 256 ^ (cnt f n - 1) ≤ n := by
  induction f with
  | zero => intro n h0 h; simp at h; omega
  | succ f ih =>
    intro n h0 h
    simp only [cnt]
    rw [if_pos h0]
    refine ⟨by omega, ?_⟩
    simp only [Nat.add_sub_cancel]
    by_cases hq : n / 256 > 0
    · rw [Int.pow_succ] at h
      obtain ⟨h1, h2⟩ := ih (n / 256) hq (by omega)
      have e : cnt f (n / 256) = (cnt f (n / 256) - 1) + 1 := by omega
      rw [e, Int.pow_succ]
      omega
    · have e : cnt f (n / 256) = 0 := by
        cases f with
        | zero => rfl
        | succ f => simp only [cnt]; rw [if_neg hq]
      rw [e]; simp; omega

/-- the one count that fits -/
theorem cnt_eq {f c : Nat} {n : Int} (hf : n < 256 ^ f) (h0 : 0 < n) (hc : n < 256 ^ c) (hl : 256 ^ (c - 1) ≤ n) (hc0 : 0 < c) : cnt f n = c := by
  obtain ⟨a1, a2⟩ := cnt_low f n h0 hf
  have a3 := lt_cnt f n (by omega) hf
  have mono : ∀ i j : Nat, i ≤ j → (256 : Int) ^ i ≤ 256 ^ j := fun i j hij => by
    induction hij with
    | refl => omega
    | step _ ih => rw [Int.pow_succ]; have := pow_pos' i; omega
  rcases Nat.lt_trichotomy (cnt f n) c with h | h | h
  · have := mono (cnt f n) (c - 1) (by omega); omega
  · exact h
  · have := mono c (cnt f n - 1) (by omega); omega

theorem cnt_le_of {f c : Nat} {n : Int} (hf : n < 256 ^ f) (h0 : 0 < n) (hc : n < 256 ^ c) : cnt f n ≤ c := by
  obtain ⟨a1, a2⟩ := cnt_low f n h0 hf
  have mono : ∀ i j : Nat, i ≤ j → (256 : Int) ^ i ≤ 256 ^ j := fun i j hij => by
    induction hij with
    | refl => omega
    | step _ ih => rw [Int.pow_succ]; have := pow_pos' i; omega
  by_cases h : cnt f n ≤ c
  · exact h
  · have := mono c (cnt f n - 1) (by omega); omega

/-- the number that stands in i bytes from s on, the highest first -/
def valAt (b : ByteArray) (s : Int) : Nat → Int
  | 0 => 0
  | i + 1 => 256 * valAt b s i + bt b (s + i)

theorem valAt_range (b : ByteArray) (s : Int) : ∀ i, 0 ≤ valAt b s i ∧ valAt b s i < 256 ^ i
  | 0 => by simp [valAt]
  | i + 1 => by
    have h := valAt_range b s i
    have := bt_range b (s + i)
    simp only [valAt]
    rw [Int.pow_succ]
    omega

/-- the bytes of a number give the number -/
theorem valAt_of (b : ByteArray) (s n : Int) (c : Nat) (h0 : 0 ≤ n) (hn : n < 256 ^ c) (h : ∀ i : Nat, i < c → bt b (s + i) = n / 256 ^ (c - 1 - i) % 256) :
    ∀ i : Nat, i ≤ c → valAt b s i = n / 256 ^ (c - i)
  | 0, _ => by
    simp only [valAt, Nat.sub_zero]
    rw [Int.ediv_eq_zero_of_lt h0 hn]
  | i + 1, hi => by
    have ih := valAt_of b s n c h0 hn h i (by omega)
    simp only [valAt]
    rw [ih, h i (by omega)]
    have e1 : c - i = (c - (i + 1)) + 1 := by omega
    have e2 : c - 1 - i = c - (i + 1) := by omega
    rw [e1, e2, Int.pow_succ, ← Int.ediv_ediv_of_nonneg (Int.le_of_lt (pow_pos' _))]
    omega

/-- and the number has the bytes that it stands in -/
theorem valAt_dig (b : ByteArray) (s : Int) : ∀ (c i : Nat), i < c → valAt b s c / 256 ^ (c - 1 - i) % 256 = bt b (s + i)
  | 0, i, h => by omega
  | c + 1, i, h => by
    have r := bt_range b (s + c)
    by_cases hi : i = c
    · subst hi
      simp only [valAt, Nat.add_sub_cancel, Nat.sub_self]
      simp
      omega
    · have ih := valAt_dig b s c i (by omega)
      have e : c + 1 - 1 - i = (c - 1 - i) + 1 := by omega
      rw [e, Int.pow_succ, Int.mul_comm, ← Int.ediv_ediv_of_nonneg (by omega)]
      simp only [valAt]
      rw [show (256 * valAt b s c + bt b (s + c)) / 256 = valAt b s c from by omega]
      exact ih

/-- the first byte counts -/
theorem valAt_low (b : ByteArray) (s : Int) (h : 0 < bt b s) : ∀ c : Nat, 256 ^ c ≤ valAt b s (c + 1)
  | 0 => by simp [valAt]; omega
  | c + 1 => by
    have ih := valAt_low b s h c
    have r := bt_range b (s + ((c + 1 : Nat) : Int))
    rw [show valAt b s (c + 1 + 1) = 256 * valAt b s (c + 1) + bt b (s + ((c + 1 : Nat) : Int)) from rfl, Int.pow_succ]
    omega

theorem valAt_mono (b : ByteArray) (s : Int) (i : Nat) : ∀ d : Nat, 256 ^ d * valAt b s i ≤ valAt b s (i + d)
  | 0 => by simp
  | d + 1 => by
    have ih := valAt_mono b s i d
    have r := bt_range b (s + ((i + d : Nat) : Int))
    rw [show valAt b s (i + (d + 1)) = 256 * valAt b s (i + d) + bt b (s + ((i + d : Nat) : Int)) from rfl, Int.pow_succ, Int.mul_comm (256 ^ d) 256, Int.mul_assoc]
    omega

/-- what Put answers -/
def putS (n : Int) : ByteArray × Int :=
  if n < 0 ∨ n > 2305843009213693951 then (⟨#[]⟩, 1)
  else if n < 128 then (strOfNums [n % 256], 0)
  else (strOfNums [128 + (cnt 8 n : Int)] ++ strOfNums (digN (cnt 8 n) n), 0)

/-- what Get answers -/
def getS (b : ByteArray) (at' : Int) : Int × Int × Int :=
  if at' < 0 ∨ at' > (b.size : Int) then (0, 0, 1)
  else if at' = (b.size : Int) then (0, at', 2)
  else if bt b at' < 128 then (bt b at', at' + 1, 0)
  else if bt b at' = 128 ∨ bt b at' > 136 then (0, at', 4)
  else if at' + 1 ≥ (b.size : Int) then (0, (b.size : Int), 2)
  else if bt b (at' + 1) = 0 ∨ (bt b at' = 129 ∧ bt b (at' + 1) < 128) then (0, at' + 1, 4)
  else if at' + (bt b at' - 128) ≥ (b.size : Int) then (0, (b.size : Int), 2)
  else if valAt b (at' + 1) (bt b at' - 128).toNat > 2305843009213693951 then (0, at' + (bt b at' - 128), 4)
  else (valAt b (at' + 1) (bt b at' - 128).toNat, at' + 1 + (bt b at' - 128), 0)

theorem or128 : ∀ c : Nat, c ≤ 9 → Go.bits .or .u8 128 (((c : Int)) % 256) = 128 + (c : Int) := by
  intro c hc
  have h : c = 0 ∨ c = 1 ∨ c = 2 ∨ c = 3 ∨ c = 4 ∨ c = 5 ∨ c = 6 ∨ c = 7 ∨ c = 8 ∨ c = 9 := by omega
  rcases h with rfl | rfl | rfl | rfl | rfl | rfl | rfl | rfl | rfl | rfl <;> decide

/-- a byte laid behind a number -/
theorem or_byte (v b : Int) (h0 : 0 ≤ v) (h1 : v < 72057594037927936) (h2 : 0 ≤ b) (h3 : b ≤ 255) :
    Go.bits .or .u64 (IntKind.u64.wrap (v * 256)) (IntKind.u64.wrap b) = 256 * v + b := by
  rw [IntKind.wrap_u64, IntKind.wrap_u64, Int.emod_eq_of_lt (by omega) (by omega), Int.emod_eq_of_lt (by omega) (by omega), u64_or _ _ (by omega) (by omega) (by omega) (by omega),
    nat_join 8 _ _ (by omega) (by omega)]
  omega

/-- what Get answers without an error -/
theorem getS_ok (b : ByteArray) (a : Int) (h : (getS b a).2.2 = 0) : 0 ≤ a ∧ a < b.size ∧ ((getS b a = (bt b a, a + 1, 0) ∧ bt b a < 128) ∨
    ∃ c : Nat, 1 ≤ c ∧ c ≤ 8 ∧ bt b a = 128 + c ∧ a + c < b.size ∧ 0 < bt b (a + 1) ∧ (c = 1 → 128 ≤ bt b (a + 1)) ∧ valAt b (a + 1) c ≤ 2305843009213693951 ∧ getS b a = (valAt b (a + 1) c, a + 1 + c, 0)) := by
  have r := bt_range b a
  have r1 := bt_range b (a + 1)
  unfold getS at h ⊢
  by_cases h0 : a < 0 ∨ a > (b.size : Int)
  · rw [if_pos h0] at h; simp at h
  rw [if_neg h0] at h ⊢
  by_cases h1 : a = (b.size : Int)
  · rw [if_pos h1] at h; simp at h
  rw [if_neg h1] at h ⊢
  refine ⟨by omega, by omega, ?_⟩
  by_cases h2 : bt b a < 128
  · rw [if_pos h2]; exact .inl ⟨rfl, h2⟩
  rw [if_neg h2] at h ⊢
  by_cases h3 : bt b a = 128 ∨ bt b a > 136
  · rw [if_pos h3] at h; simp at h
  rw [if_neg h3] at h ⊢
  by_cases h4 : a + 1 ≥ (b.size : Int)
  · rw [if_pos h4] at h; simp at h
  rw [if_neg h4] at h ⊢
  by_cases h5 : bt b (a + 1) = 0 ∨ (bt b a = 129 ∧ bt b (a + 1) < 128)
  · rw [if_pos h5] at h; simp at h
  rw [if_neg h5] at h ⊢
  by_cases h6 : a + (bt b a - 128) ≥ (b.size : Int)
  · rw [if_pos h6] at h; simp at h
  rw [if_neg h6] at h ⊢
  obtain ⟨c, hc⟩ : ∃ c : Nat, bt b a - 128 = c := ⟨(bt b a - 128).toNat, by omega⟩
  rw [hc, Int.toNat_natCast] at h ⊢
  by_cases h7 : valAt b (a + 1) c > 2305843009213693951
  · rw [if_pos h7] at h; simp at h
  rw [if_neg h7]
  exact .inr ⟨c, by omega, by omega, by omega, by omega, by omega, by omega, by omega, rfl⟩

theorem getS_err' (b : ByteArray) (a : Int) : (getS b a).2.2 = 0 ∨ (getS b a).1 = 0 := by
  unfold getS
  repeat' split
  all_goals simp
theorem getS_err (b : ByteArray) (a : Int) (h : (getS b a).2.2 ≠ 0) : (getS b a).1 = 0 := (getS_err' b a).resolve_left h

theorem pow_le_pow (i j : Nat) (hij : i ≤ j) : (256 : Int) ^ i ≤ 256 ^ j := by
  induction hij with
  | refl => omega
  | step _ ih => rw [Int.pow_succ]; have := pow_pos' i; omega

/-- bytes that are got are put as they were -/
theorem put_got (b : ByteArray) (c : Nat) (h1 : 1 ≤ c) (h8 : c ≤ 8) (hb : bt b 0 = 128 + c) (hs : (c : Int) < b.size) (h0 : 0 < bt b 1) (h128 : c = 1 → 128 ≤ bt b 1) (hm : valAt b 1 c ≤ 2305843009213693951) :
    putS (valAt b 1 c) = (b.extract 0 (1 + c), 0) := by
  have r := valAt_range b 1 c
  obtain ⟨d, rfl⟩ : ∃ d, c = d + 1 := ⟨c - 1, by omega⟩
  have low := valAt_low b 1 h0 d
  have big : 128 ≤ valAt b 1 (d + 1) := by
    by_cases hd : d = 0
    · subst hd; have := h128 rfl; simp [valAt]; omega
    · have := pow_le_pow 1 d (by omega); omega
  have hc : cnt 8 (valAt b 1 (d + 1)) = d + 1 := cnt_eq (by have := pow_le_pow (d + 1) 8 h8; omega) (by omega) r.2 (by simpa using low) (by omega)
  unfold putS
  rw [if_neg (show ¬(valAt b 1 (d + 1) < 0 ∨ valAt b 1 (d + 1) > 2305843009213693951) by omega), if_neg (show ¬valAt b 1 (d + 1) < 128 by omega), hc]
  have hsz : (strOfNums [128 + ((d + 1 : Nat) : Int)]).size = 1 := by rw [strOfNums_size]; rfl
  congr 1
  apply ext_bt
  · rw [ByteArray.size_append, hsz, strOfNums_size, digN_length, ByteArray.size_extract]
    omega
  · intro i hi
    rw [ByteArray.size_append, hsz, strOfNums_size, digN_length] at hi
    rw [bt_extract _ _ _ _ (by omega) (by omega) (by omega)]
    by_cases h : i = 0
    · subst h
      rw [bt_append_left _ _ _ (by omega) (by omega)]
      have e := bt_strOfNums [128 + ((d + 1 : Nat) : Int)] 0 (by simp) (by simp; omega) (by simp; omega)
      rw [e]
      simp
      omega
    · obtain ⟨j, rfl⟩ : ∃ j, i = j + 1 := ⟨i - 1, by omega⟩
      have e1 : ((j + 1 : Nat) : Int) = ((strOfNums [128 + ((d + 1 : Nat) : Int)]).size : Int) + (j : Int) := by rw [hsz]; omega
      rw [e1, bt_append_right _ _ _ (by omega), hsz]
      have hj : j < (digN (d + 1) (valAt b 1 (d + 1))).length := by rw [digN_length]; omega
      have rg := digN_range (d + 1) (valAt b 1 (d + 1)) j hj
      rw [bt_strOfNums _ j hj rg.1 rg.2, digN_get, valAt_dig b 1 (d + 1) j (by omega)]
      simp

theorem put_got1 (b : ByteArray) (hs : 0 < b.size) (h : bt b 0 < 128) : putS (bt b 0) = (b.extract 0 1, 0) := by
  have r := bt_range b 0
  unfold putS
  rw [if_neg (show ¬(bt b 0 < 0 ∨ bt b 0 > 2305843009213693951) by omega), if_pos h]
  congr 1
  apply ext_bt
  · rw [strOfNums_size, ByteArray.size_extract]; simp; omega
  · intro i hi
    rw [strOfNums_size] at hi
    simp at hi
    subst hi
    rw [bt_extract _ _ _ _ (by omega) (by omega) (by omega)]
    have e := bt_strOfNums [bt b 0 % 256] 0 (by simp) (by simp; omega) (by simp; omega)
    rw [e]
    simp
    omega

/-- the parts of what is put, at 128 and above -/
theorem putS_long (n : Int) (h1 : 128 ≤ n) (h2 : n ≤ 2305843009213693951) : ∃ c : Nat, cnt 8 n = c ∧ 1 ≤ c ∧ c ≤ 8 ∧ n < 256 ^ c ∧ 256 ^ (c - 1) ≤ n ∧
    (putS n).2 = 0 ∧ (putS n).1.size = 1 + c ∧ bt (putS n).1 0 = 128 + c ∧ ∀ j : Nat, j < c → bt (putS n).1 (1 + (j : Int)) = n / 256 ^ (c - 1 - j) % 256 := by
  have hp : n < 256 ^ 8 := by have : (256 : Int) ^ 8 = 18446744073709551616 := by decide
                              omega
  obtain ⟨c1, c2⟩ := cnt_low 8 n (by omega) hp
  have c3 := lt_cnt 8 n (by omega) hp
  have c4 := cnt_le 8 n
  refine ⟨cnt 8 n, rfl, by omega, c4, c3, c2, ?_⟩
  have e : putS n = (strOfNums [128 + (cnt 8 n : Int)] ++ strOfNums (digN (cnt 8 n) n), 0) := by
    unfold putS
    rw [if_neg (show ¬(n < 0 ∨ n > 2305843009213693951) by omega), if_neg (show ¬n < 128 by omega)]
  generalize cnt 8 n = c at c1 c2 c3 c4 e ⊢
  rw [e]
  have hsz : (strOfNums [128 + (c : Int)]).size = 1 := by rw [strOfNums_size]; rfl
  refine ⟨rfl, ?_, ?_, ?_⟩
  · rw [ByteArray.size_append, hsz, strOfNums_size, digN_length]
  · rw [bt_append_left _ _ _ (by omega) (by omega)]
    have e := bt_strOfNums [128 + (c : Int)] 0 (by simp) (by simp; omega) (by simp; omega)
    rw [show (0 : Int) = ((0 : Nat) : Int) from rfl, e]
    simp
  · intro j hj
    have e1 : (1 : Int) + (j : Int) = ((strOfNums [128 + (c : Int)]).size : Int) + (j : Int) := by rw [hsz]; omega
    rw [e1, bt_append_right _ _ _ (by omega)]
    have hj' : j < (digN c n).length := by rw [digN_length]; omega
    have rg := digN_range c n j hj'
    rw [bt_strOfNums _ j hj' rg.1 rg.2, digN_get]

theorem putS_short (n : Int) (h1 : 0 ≤ n) (h2 : n < 128) : (putS n).2 = 0 ∧ (putS n).1.size = 1 ∧ bt (putS n).1 0 = n := by
  have e : putS n = (strOfNums [n % 256], 0) := by
    unfold putS
    rw [if_neg (show ¬(n < 0 ∨ n > 2305843009213693951) by omega), if_pos h2]
  rw [e]
  refine ⟨rfl, by rw [strOfNums_size]; rfl, ?_⟩
  have e := bt_strOfNums [n % 256] 0 (by simp) (by simp; omega) (by simp; omega)
  rw [show (0 : Int) = ((0 : Nat) : Int) from rfl, e]
  simp
  omega

theorem putS_err (n : Int) (h : (putS n).2 ≠ 0) : putS n = (⟨#[]⟩, 1) ∧ (n < 0 ∨ n > 2305843009213693951) := by
  unfold putS at h ⊢
  by_cases h0 : n < 0 ∨ n > 2305843009213693951
  · rw [if_pos h0]; exact ⟨rfl, h0⟩
  · rw [if_neg h0] at h
    split at h <;> simp at h

theorem putS_ok (n : Int) (h : (putS n).2 = 0) : 0 ≤ n ∧ n ≤ 2305843009213693951 := by
  unfold putS at h
  by_cases h0 : n < 0 ∨ n > 2305843009213693951
  · rw [if_pos h0] at h; simp at h
  · omega

end Go.Proofs.Ytcomechollegfaa.Num
