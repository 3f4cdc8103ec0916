/- Numbers as bytes, and back, over lists alone (layer 11). -/
namespace Go.Proofs.Ytgloehelfdmmaaa.Oid
set_option linter.unusedVariables false

/-- a number's bytes but the last -/
def hi (m : Nat) : List Int := if h : m = 0 then [] else hi (m / 128) ++ [((m % 128 : Nat) : Int) + 128]
termination_by m
decreasing_by omega
/-- a number's bytes -/
def enc (n : Nat) : List Int := hi (n / 128) ++ [((n % 128 : Nat) : Int)]
theorem hi_zero : hi 0 = [] := by rw [hi]; simp
theorem hi_pos {m : Nat} (h : m ≠ 0) : hi m = hi (m / 128) ++ [((m % 128 : Nat) : Int) + 128] := by rw [hi, dif_neg h]
def Byte (b : Int) : Prop := 0 ≤ b ∧ b ≤ 255
theorem hi_byte (m : Nat) : ∀ b ∈ hi m, Byte b := by
  induction m using Nat.strongRecOn with
  | ind m ih =>
    by_cases h : m = 0
    · subst h; rw [hi_zero]; simp
    · rw [hi_pos h]
      intro b hb
      rcases List.mem_append.1 hb with hb | hb
      · exact ih _ (by omega) b hb
      · simp at hb
        subst hb
        constructor <;> omega
theorem enc_byte (n : Nat) : ∀ b ∈ enc n, Byte b := by
  intro b hb
  rcases List.mem_append.1 hb with hb | hb
  · exact hi_byte _ b hb
  · simp at hb
    subst hb
    constructor <;> omega
theorem hi_len (m : Nat) : ∀ k, m < 128 ^ k → (hi m).length ≤ k := by
  induction m using Nat.strongRecOn with
  | ind m ih =>
    intro k hk
    by_cases h : m = 0
    · subst h; rw [hi_zero]; simp
    · rw [hi_pos h]
      cases k with
      | zero => simp at hk; omega
      | succ k =>
        have : m / 128 < 128 ^ k := by
          rw [Nat.div_lt_iff_lt_mul (by omega)]
          rw [Nat.pow_succ] at hk
          exact hk
        have := ih (m / 128) (by omega) k this
        simp
        exact this
theorem enc_len (n : Nat) (h : n < 18446744073709551616) : 1 ≤ (enc n).length ∧ (enc n).length ≤ 10 := by
  unfold enc
  have := hi_len (n / 128) 9 (by omega)
  simp
  omega
/-- are these the rest of a content's bytes? -/
def right : Bool → List Int → Bool
  | wn, [] => !wn
  | wn, b :: r => if wn = false ∧ b = 128 then false else right (decide (127 < b)) r
/-- the numbers of which these are the bytes -/
def dec : Nat → List Int → Option (List Nat)
  | _, [] => some []
  | n, b :: r => if 144115188075855871 < n then none else if b < 128 then (dec 0 r).map (fun t => (128 * n + (b % 128).toNat) :: t) else dec (128 * n + (b % 128).toNat) r
/-- with which byte it is wrong -/
def wr (n : Int) : Bool → Nat → List Int → Int
  | _, _, [] => -1
  | wn, i, b :: r => if (b = 128 ∧ wn = false) ∨ ((i : Int) = n - 1 ∧ 127 < b) then (i : Int) + 1 else wr n (decide (127 < b)) (i + 1) r
theorem wr_right (c : List Int) : ∀ (wn : Bool) (i : Nat), c ≠ [] → (wr ((i + c.length : Nat) : Int) wn i c = -1 ↔ right wn c = true) := by
  induction c with
  | nil => intro _ _ h; exact absurd rfl h
  | cons b r ih =>
    intro wn i _
    rw [wr, right]
    by_cases h1 : b = 128 ∧ wn = false
    · rw [if_pos (.inl h1), if_pos ⟨h1.2, h1.1⟩]
      constructor
      · intro h; omega
      · intro h; simp at h
    · have h1' : ¬(wn = false ∧ b = 128) := fun h => h1 ⟨h.2, h.1⟩
      rw [if_neg h1']
      cases r with
      | nil =>
        by_cases h2 : 127 < b
        · rw [if_pos (.inr ⟨by simp, h2⟩)]
          simp [right, h2]
          omega
        · rw [if_neg (by rintro (h | h); exact h1 h; exact h2 h.2)]
          simp [right, wr, h2]
      | cons b2 r2 =>
        rw [if_neg (by rintro (h | h); exact h1 h; simp at h; omega)]
        have := ih (decide (127 < b)) (i + 1) (by simp)
        rw [show i + 1 + (b2 :: r2).length = i + (b :: b2 :: r2).length from by simp; omega] at this
        exact this
theorem wr_ge (n : Int) (c : List Int) : ∀ (wn : Bool) (i : Nat), wr n wn i c = -1 ∨ (i : Int) + 1 ≤ wr n wn i c := by
  induction c with
  | nil => intro wn i; exact .inl rfl
  | cons b r ih =>
    intro wn i
    rw [wr]
    split
    · exact .inr (Int.le_refl _)
    · rcases ih (decide (127 < b)) (i + 1) with h | h
      · exact .inl h
      · exact .inr (by omega)
theorem hi_right (m : Nat) : 0 < m → ∀ t, right false (hi m ++ t) = right true t := by
  induction m using Nat.strongRecOn with
  | ind m ih =>
    intro hm t
    rw [hi_pos (by omega)]
    by_cases h : m / 128 = 0
    · rw [h, hi_zero, List.nil_append, List.singleton_append, right, if_neg (by omega), show decide ((127 : Int) < ((m % 128 : Nat) : Int) + 128) = true from decide_eq_true (by omega)]
    · rw [List.append_assoc, ih (m / 128) (by omega) (by omega), List.singleton_append, right, if_neg (by simp), show decide ((127 : Int) < ((m % 128 : Nat) : Int) + 128) = true from decide_eq_true (by omega)]
theorem enc_right (n : Nat) (t : List Int) : right false (enc n ++ t) = right false t := by
  unfold enc
  by_cases h : n / 128 = 0
  · rw [h, hi_zero, List.nil_append, List.singleton_append, right, if_neg (by omega), show decide ((127 : Int) < ((n % 128 : Nat) : Int)) = false from decide_eq_false (by omega)]
  · rw [List.append_assoc, hi_right _ (by omega), List.singleton_append, right, if_neg (by simp), show decide ((127 : Int) < ((n % 128 : Nat) : Int)) = false from decide_eq_false (by omega)]
theorem hi_dec (m : Nat) : m ≤ 144115188075855871 → ∀ t, dec 0 (hi m ++ t) = dec m t := by
  induction m using Nat.strongRecOn with
  | ind m ih =>
    intro hm t
    by_cases h : m = 0
    · subst h; rw [hi_zero, List.nil_append]
    · rw [hi_pos h, List.append_assoc, ih (m / 128) (by omega) (by omega), List.singleton_append, dec, if_neg (by omega), if_neg (by omega)]
      congr 1
      omega
theorem enc_dec (n : Nat) (hn : n < 18446744073709551616) (t : List Int) : dec 0 (enc n ++ t) = (dec 0 t).map (fun r => n :: r) := by
  unfold enc
  rw [List.append_assoc, hi_dec _ (by omega), List.singleton_append, dec, if_neg (by omega), if_pos (by omega)]
  rw [show 128 * (n / 128) + (((n % 128 : Nat) : Int) % 128).toNat = n from by omega]
theorem all_right (l : List Nat) : right false (l.flatMap enc) = true := by
  induction l with
  | nil => rfl
  | cons n l ih => rw [List.flatMap_cons, enc_right]; exact ih
theorem all_dec (l : List Nat) (h : ∀ n ∈ l, n < 18446744073709551616) : dec 0 (l.flatMap enc) = some l := by
  induction l with
  | nil => rfl
  | cons n l ih =>
    rw [List.flatMap_cons, enc_dec n (h n (by simp)), ih (fun m hm => h m (by simp [hm]))]
    rfl
theorem dec_enc (c : List Int) : ∀ (wn : Bool) (n : Nat) (l : List Nat), (∀ b ∈ c, Byte b) → (wn = false → n = 0) → (wn = true → 0 < n) → right wn c = true → dec n c = some l → hi n ++ c = l.flatMap enc := by
  induction c with
  | nil =>
    intro wn n l _ h0 h1 hr hd
    rw [dec] at hd
    rw [right] at hr
    obtain rfl := Option.some.inj hd
    rw [h0 (by simpa using hr), hi_zero]
    rfl
  | cons b r ih =>
    intro wn n l hb h0 h1 hr hd
    have hbb : Byte b := hb b (by simp)
    obtain ⟨b0, b1⟩ := hbb
    rw [right] at hr
    rw [dec] at hd
    split at hr
    · simp at hr
    · next hn =>
      split at hd
      · simp at hd
      · split at hd
        · next hlt =>
          cases hl : dec 0 r with
          | none => rw [hl] at hd; simp at hd
          | some t =>
            rw [hl] at hd
            simp at hd
            subst hd
            have := ih false 0 t (fun x hx => hb x (by simp [hx])) (fun _ => rfl) (fun h => by simp at h) (by rw [show decide (127 < b) = false from decide_eq_false (by omega)] at hr; exact hr) hl
            rw [hi_zero, List.nil_append] at this
            rw [List.flatMap_cons, ← this]
            unfold enc
            rw [show (128 * n + (b % 128).toNat) / 128 = n from by omega, show (((128 * n + (b % 128).toNat) % 128 : Nat) : Int) = b from by omega]
            simp
        · next hge =>
          have hpos : 0 < 128 * n + (b % 128).toNat := by
            cases wn with
            | true => have := h1 rfl; omega
            | false =>
              have : b ≠ 128 := fun h => hn ⟨rfl, h⟩
              omega
          have := ih true _ l (fun x hx => hb x (by simp [hx])) (fun h => by simp at h) (fun _ => hpos) (by rw [show decide (127 < b) = true from decide_eq_true (by omega)] at hr; exact hr) hd
          rw [hi_pos (by omega), show (128 * n + (b % 128).toNat) / 128 = n from by omega, show (((128 * n + (b % 128).toNat) % 128 : Nat) : Int) + 128 = b from by omega] at this
          rw [← this]
          simp
theorem dec_small (c : List Int) : ∀ (n : Nat) (l : List Nat), dec n c = some l → ∀ m ∈ l, m < 18446744073709551616 := by
  induction c with
  | nil =>
    intro n l hd
    rw [dec] at hd
    obtain rfl := Option.some.inj hd
    simp
  | cons b r ih =>
    intro n l hd
    rw [dec] at hd
    split at hd
    · simp at hd
    · split at hd
      · cases hl : dec 0 r with
        | none => rw [hl] at hd; simp at hd
        | some t =>
          rw [hl] at hd
          simp at hd
          subst hd
          intro m hm
          rcases List.mem_cons.1 hm with rfl | hm
          · omega
          · exact ih 0 t hl m hm
      · exact ih _ l hd
theorem dec_some (c : List Int) : ∀ (wn : Bool) (n : Nat) (l : List Nat), c ≠ [] → right wn c = true → dec n c = some l → l ≠ [] := by
  induction c with
  | nil => intro _ _ _ h; exact absurd rfl h
  | cons b r ih =>
    intro wn n l _ hr hd
    rw [right] at hr
    rw [dec] at hd
    split at hr
    · simp at hr
    · split at hd
      · simp at hd
      · split at hd
        · cases hl : dec 0 r with
          | none => rw [hl] at hd; simp at hd
          | some t => rw [hl] at hd; simp at hd; subst hd; simp
        · next hge =>
          cases r with
          | nil =>
            rw [right] at hr
            simp at hr
            omega
          | cons b2 r2 => exact ih _ _ l (by simp) hr hd

/-! ### arcs -/
def putS : List Nat → Option (List Int)
  | x :: y :: t => if 2 < x ∨ (x < 2 ∧ 40 ≤ y) ∨ 18446744073709551615 < 40 * x + y then none else some (enc (40 * x + y) ++ t.flatMap enc)
  | _ => none
def split : List Nat → List Nat
  | n :: t => min (n / 40) 2 :: (n - 40 * min (n / 40) 2) :: t
  | [] => []
def getS (c : List Int) : Option (List Nat) := if c = [] ∨ right false c = false then none else (dec 0 c).map split
theorem put_get (l : List Nat) (b : List Int) (hl : ∀ n ∈ l, n < 18446744073709551616) (h : putS l = some b) : getS b = some l ∧ right false b = true ∧ b ≠ [] := by
  match l, hl, h with
  | x :: y :: t, hl, h =>
    rw [putS] at h
    split at h
    · simp at h
    · next hn =>
      obtain rfl := Option.some.inj h
      have e : enc (40 * x + y) ++ t.flatMap enc = ((40 * x + y) :: t).flatMap enc := (List.flatMap_cons).symm
      have hne : enc (40 * x + y) ++ t.flatMap enc ≠ [] := by
        intro h
        have h2 := congrArg List.length h
        have := (enc_len (40 * x + y) (by omega)).1
        rw [List.length_append, List.length_nil] at h2
        omega
      have hr : right false (enc (40 * x + y) ++ t.flatMap enc) = true := by rw [e]; exact all_right _
      refine ⟨?_, hr, hne⟩
      unfold getS
      rw [if_neg (by rintro (h | h); exact hne h; rw [hr] at h; simp at h), e, all_dec _ (fun n hn2 => by
        rcases List.mem_cons.1 hn2 with rfl | h
        · omega
        · exact hl n (by simp [h]))]
      simp [split]
      omega
theorem get_put (c : List Int) (l : List Nat) (hc : ∀ b ∈ c, Byte b) (h : getS c = some l) : putS l = some c ∧ 2 ≤ l.length ∧ ∀ n ∈ l, n < 18446744073709551616 := by
  unfold getS at h
  split at h
  · simp at h
  · next hn =>
    have h1 : c ≠ [] := fun h => hn (.inl h)
    have h2 : right false c = true := by
      cases hr : right false c with
      | true => rfl
      | false => exact absurd (.inr hr) hn
    cases hd : dec 0 c with
    | none => rw [hd] at h; simp at h
    | some l0 =>
      rw [hd] at h
      simp at h
      subst h
      have e := dec_enc c false 0 l0 hc (fun _ => rfl) (fun h => by simp at h) h2 hd
      have hs := dec_small c 0 l0 hd
      have hne := dec_some c false 0 l0 h1 h2 hd
      rw [hi_zero, List.nil_append] at e
      match l0, hne, e, hs with
      | n :: t, _, e, hs =>
        have hn := hs n (by simp)
        refine ⟨?_, by simp [split], fun m hm => ?_⟩
        · rw [split, putS, if_neg (by omega), show 40 * min (n / 40) 2 + (n - 40 * min (n / 40) 2) = n from by omega, e]
          rfl
        · simp [split] at hm
          rcases hm with rfl | rfl | hm
          · omega
          · omega
          · exact hs m (by simp [hm])
theorem put_more (l : List Nat) (m : Nat) (h : 2 ≤ l.length) : putS (l ++ [m]) = (putS l).map (fun b => b ++ enc m) := by
  match l, h with
  | x :: y :: t, _ =>
    rw [List.cons_append, List.cons_append, putS, putS]
    split
    · rfl
    · simp
theorem put_short (l : List Nat) (h : l.length < 2) : putS l = none := by
  match l, h with
  | [], _ => rfl
  | [x], _ => rfl
end Go.Proofs.Ytgloehelfdmmaaa.Oid
