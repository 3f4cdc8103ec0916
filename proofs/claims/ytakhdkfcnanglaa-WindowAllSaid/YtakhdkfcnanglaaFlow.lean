/- All that comes through a window, over numbers and lists alone (layer 4). -/
import Derived.Test.YtakhdkfcnanglaaPlay
namespace Go.Proofs.Ytakhdkfcnanglaa.Flow
open Go.Proofs.Ytakhdkfcnanglaa.Obj Go.Proofs.Ytakhdkfcnanglaa.Play
set_option linter.unusedVariables false

theorem nil_zero (N : Int) : cn N [] 0 = 0 ∧ ov N [] 0 = 1 := by
  have h : cn N [] 0 = 0 := by have := cn_le N [] 0; omega
  refine ⟨h, ?_⟩
  unfold ov fin
  rw [h]
  rfl
theorem nil_pos (N : Int) (l : Nat) (hN : 1 ≤ N) (hl : 0 < l) : 0 < cn N [] l ∧ ov N [] l = 0 := by
  have ht : top [] l = ((l : Int), 0) := if_neg (by omega)
  refine ⟨?_, ?_⟩
  · unfold cn came
    rw [ht]
    simp only
    omega
  · unfold ov
    rw [ht]
    rfl
theorem nil_cn (N : Int) (l : Nat) (hN : 1 ≤ N) : (cn N [] l : Int) = min N l := by
  by_cases hl : l = 0
  · subst hl
    rw [(nil_zero N).1]
    omega
  · have ht : top [] l = ((l : Int), 0) := if_neg hl
    unfold cn came
    rw [ht]
    simp only
    omega
theorem cn_le_n (n : Nat) (s : List (Int × Int)) (l : Nat) : cn n s l ≤ n := by unfold cn came; omega
theorem ov_ways (n : Int) (s : List (Int × Int)) (l : Nat) : ov n s l = 0 ∨ (ov n s l = 1 ∧ cn n s l = l) ∨ ov n s l = 2 := by
  have := cn_le n s l
  unfold ov fin
  by_cases h2 : (top s l).2 = 2
  · rw [if_pos h2]; exact .inr (.inr rfl)
  · rw [if_neg h2]
    by_cases h1 : (top s l).2 = 1 ∧ l - cn n s l = 0
    · rw [if_pos h1]; exact .inr (.inl ⟨rfl, by omega⟩)
    · rw [if_neg h1]; exact .inl rfl
theorem ov_two (n : Int) (x : Int × Int) (s : List (Int × Int)) (l : Nat) (h : ov n (x :: s) l = 2) : x.2 = 2 := by
  unfold ov fin top at h
  simp only at h
  split at h
  · assumption
  · split at h <;> omega

/-- what a fill brings: the steps that are left, bytes, reads, the error -/
structure Fl where
  s : List (Int × Int)
  c : Nat
  n : Nat
  e : Int
def fl (N : Int) (Z : Nat) : List (Int × Int) → Nat → Nat → Fl
  | [], l, _ => if l = 0 then ⟨[], 0, 1, 14⟩ else ⟨[], cn N [] l, 1, 0⟩
  | x :: s, l, z =>
    if ov N (x :: s) l = 1 then ⟨s, cn N (x :: s) l, 1, 14⟩
    else if ov N (x :: s) l = 2 then ⟨s, cn N (x :: s) l, 1, 12⟩
    else if 0 < cn N (x :: s) l then ⟨s, cn N (x :: s) l, 1, 0⟩
    else if Z < z + 1 then ⟨s, 0, 1, 13⟩
    else ⟨(fl N Z s l (z + 1)).s, (fl N Z s l (z + 1)).c, (fl N Z s l (z + 1)).n + 1, (fl N Z s l (z + 1)).e⟩
section
variable {N : Int} {Z l z : Nat} {s : List (Int × Int)}
theorem fl_end (hN : 1 ≤ N) (h : ov N s l = 1) : fl N Z s l z = ⟨s.tail, cn N s l, 1, 14⟩ := by
  cases s with
  | nil =>
    by_cases hl : l = 0
    · subst hl
      rw [fl, if_pos rfl, (nil_zero N).1]
      rfl
    · rw [(nil_pos N l hN (by omega)).2] at h
      simp at h
  | cons x s => rw [fl, if_pos h]; rfl
theorem fl_fail (hN : 1 ≤ N) (h : ov N s l = 2) : fl N Z s l z = ⟨s.tail, cn N s l, 1, 12⟩ := by
  cases s with
  | nil =>
    by_cases hl : l = 0
    · subst hl
      rw [(nil_zero N).2] at h
      simp at h
    · rw [(nil_pos N l hN (by omega)).2] at h
      simp at h
  | cons x s => rw [fl, if_neg (by omega), if_pos h]; rfl
theorem fl_some (h : ov N s l = 0) (hc : 0 < cn N s l) : fl N Z s l z = ⟨s.tail, cn N s l, 1, 0⟩ := by
  cases s with
  | nil =>
    by_cases hl : l = 0
    · subst hl
      rw [(nil_zero N).2] at h
      simp at h
    · rw [fl, if_neg hl]; rfl
  | cons x s => rw [fl, if_neg (by omega), if_neg (by omega), if_pos hc]; rfl
theorem nil_not (hN : 1 ≤ N) (h : ov N [] l = 0) (hc : cn N [] l = 0) : False := by
  by_cases hl : l = 0
  · subst hl
    rw [(nil_zero N).2] at h
    simp at h
  · have := (nil_pos N l hN (by omega)).1
    omega
theorem fl_stall (hN : 1 ≤ N) (h : ov N s l = 0) (hc : cn N s l = 0) (hz : Z < z + 1) : fl N Z s l z = ⟨s.tail, 0, 1, 13⟩ := by
  cases s with
  | nil => exact (nil_not hN h hc).elim
  | cons x s => rw [fl, if_neg (by omega), if_neg (by omega), if_neg (by omega), if_pos hz]; rfl
theorem fl_more (hN : 1 ≤ N) (h : ov N s l = 0) (hc : cn N s l = 0) (hz : ¬Z < z + 1) :
    fl N Z s l z = ⟨(fl N Z s.tail l (z + 1)).s, (fl N Z s.tail l (z + 1)).c, (fl N Z s.tail l (z + 1)).n + 1, (fl N Z s.tail l (z + 1)).e⟩ := by
  cases s with
  | nil => exact (nil_not hN h hc).elim
  | cons x s => rw [fl, if_neg (by omega), if_neg (by omega), if_neg (by omega), if_neg hz]; rfl
end
/-- What is known of a fill. -/
structure FlOk (Z : Nat) (s : List (Int × Int)) (l z : Nat) (r : Fl) : Prop where
  le : r.c ≤ l
  some_ : r.c = 0 → r.e ≠ 0
  kinds : r.e = 0 ∨ r.e = 12 ∨ r.e = 13 ∨ r.e = 14
  one : 1 ≤ r.n
  steps : r.n + r.s.length ≤ s.length + 1
  sub : ∀ x ∈ r.s, x ∈ s
  reads : z ≤ Z → r.n + z ≤ Z + 1
  all_ : r.e = 14 → r.c = l
  stall : r.e = 13 → Z < z + s.length
  fail_ : r.e = 12 → ∃ x ∈ s, x.2 = 2
theorem fl_ok (N : Int) (Z : Nat) (hN : 1 ≤ N) : ∀ (s : List (Int × Int)) (l z : Nat), FlOk Z s l z (fl N Z s l z)
  | [], l, z => by
    rw [fl]
    by_cases hl : l = 0
    · rw [if_pos hl]
      exact ⟨by simp, by simp, by simp, by simp, by simp, by simp, by simp; omega, by simp [hl], by simp, by simp⟩
    · rw [if_neg hl]
      have := (nil_pos N l hN (by omega)).1
      exact ⟨cn_le _ _ _, by simp; omega, by simp, by simp, by simp, by simp, by simp; omega, by simp, by simp, by simp⟩
  | x :: s, l, z => by
    have hw := ov_ways N (x :: s) l
    have hc := cn_le N (x :: s) l
    rw [fl]
    by_cases h1 : ov N (x :: s) l = 1
    · rw [if_pos h1]
      exact ⟨hc, by simp, by simp, by simp, by simp; omega, fun y hy => List.mem_cons_of_mem _ hy, by simp; omega, fun _ => by simp only; omega, by simp, by simp⟩
    · rw [if_neg h1]
      by_cases h2 : ov N (x :: s) l = 2
      · rw [if_pos h2]
        exact ⟨hc, by simp, by simp, by simp, by simp; omega, fun y hy => List.mem_cons_of_mem _ hy, by simp; omega, by simp, by simp, fun _ => ⟨x, by simp, ov_two N x s l h2⟩⟩
      · rw [if_neg h2]
        by_cases h3 : 0 < cn N (x :: s) l
        · rw [if_pos h3]
          exact ⟨hc, by simp; omega, by simp, by simp, by simp; omega, fun y hy => List.mem_cons_of_mem _ hy, by simp; omega, by simp, by simp, by simp⟩
        · rw [if_neg h3]
          by_cases h4 : Z < z + 1
          · rw [if_pos h4]
            exact ⟨by simp, by simp, by simp, by simp, by simp; omega, fun y hy => List.mem_cons_of_mem _ hy, by simp; omega, by simp, fun _ => by simp; omega, by simp⟩
          · rw [if_neg h4]
            obtain ⟨i1, i2, i3, i4, i5, i6, i7, i8, i9, i10⟩ := fl_ok N Z hN s l (z + 1)
            generalize fl N Z s l (z + 1) = r at *
            exact ⟨i1, i2, i3, by simp, by simp; omega, fun y hy => List.mem_cons_of_mem _ (i6 y hy), fun _ => by simp; omega, i8, fun h => by have := i9 h; simp; omega,
              fun h => by obtain ⟨y, hy, h2⟩ := i10 h; exact ⟨y, List.mem_cons_of_mem _ hy, h2⟩⟩

/-- all that comes: bytes, the error, reads -/
inductive Flow (N : Int) (Z : Nat) : List (Int × Int) → Nat → Nat → Nat → Int → Nat → Prop
  | end_ {s l z} : ov N s l = 1 → Flow N Z s l z (cn N s l) 14 1
  | fail_ {s l z} : ov N s l = 2 → Flow N Z s l z (cn N s l) 12 1
  | some_ {s l z T E C} : ov N s l = 0 → 0 < cn N s l → Flow N Z s.tail (l - cn N s l) 0 T E C → Flow N Z s l z (cn N s l + T) E (C + 1)
  | stall {s l z} : ov N s l = 0 → cn N s l = 0 → Z < z + 1 → Flow N Z s l z 0 13 1
  | more {s l z T E C} : ov N s l = 0 → cn N s l = 0 → ¬Z < z + 1 → Flow N Z s.tail l (z + 1) T E C → Flow N Z s l z T E (C + 1)
theorem flow_fl {N : Int} {Z : Nat} (hN : 1 ≤ N) {s : List (Int × Int)} {l z T : Nat} {E : Int} {C : Nat} (h : Flow N Z s l z T E C) :
    ((fl N Z s l z).e ≠ 0 ∧ T = (fl N Z s l z).c ∧ E = (fl N Z s l z).e ∧ C = (fl N Z s l z).n) ∨
    ((fl N Z s l z).e = 0 ∧ ∃ T' C', Flow N Z (fl N Z s l z).s (l - (fl N Z s l z).c) 0 T' E C' ∧ T = (fl N Z s l z).c + T' ∧ C = (fl N Z s l z).n + C') := by
  induction h with
  | end_ h => rw [fl_end hN h]; exact .inl ⟨by simp, rfl, rfl, rfl⟩
  | fail_ h => rw [fl_fail hN h]; exact .inl ⟨by simp, rfl, rfl, rfl⟩
  | some_ h hc hf _ => rw [fl_some h hc]; exact .inr ⟨rfl, _, _, hf, rfl, by simp only; omega⟩
  | stall h hc hz => rw [fl_stall hN h hc hz]; exact .inl ⟨by simp, rfl, rfl, rfl⟩
  | more h hc hz hf ih =>
    rw [fl_more hN h hc hz]
    rcases ih with ⟨a1, a2, a3, a4⟩ | ⟨a1, T', C', a2, a3, a4⟩
    · exact .inl ⟨a1, a2, a3, by simp only; omega⟩
    · exact .inr ⟨a1, T', C', a2, a3, by simp only; omega⟩

/-- A window, as it is seen: the steps that its source has left, how many bytes were taken, are held, how many reads, the error behind them. -/
structure Ab where
  s : List (Int × Int)
  p : Nat
  held : Nat
  calls : Nat
  e : Int
/-- a fill that goes on behind z reads without bytes -/
def Ab.fillz (N : Int) (Z L z : Nat) (x : Ab) : Ab :=
  if x.held = 0 ∧ x.e = 0 then ⟨(fl N Z x.s (L - x.p) z).s, x.p, (fl N Z x.s (L - x.p) z).c, x.calls + (fl N Z x.s (L - x.p) z).n, (fl N Z x.s (L - x.p) z).e⟩ else x
def Ab.fill (N : Int) (Z L : Nat) (x : Ab) : Ab :=
  if x.held = 0 ∧ x.e = 0 then ⟨(fl N Z x.s (L - x.p) 0).s, x.p, (fl N Z x.s (L - x.p) 0).c, x.calls + (fl N Z x.s (L - x.p) 0).n, (fl N Z x.s (L - x.p) 0).e⟩ else x
def Ab.take (x : Ab) : Ab := if x.held = 0 then x else ⟨x.s, x.p + 1, x.held - 1, x.calls, x.e⟩
def Ab.next (N : Int) (Z L : Nat) (x : Ab) : Ab := (x.fill N Z L).take
structure Ab.Ok (L : Nat) (x : Ab) : Prop where
  le : x.p + x.held ≤ L
  calls : x.calls ≤ 2001
  more : x.e = 0 → x.calls + x.s.length + (L - (x.p + x.held)) ≤ 2000
theorem Ab.Ok.fillz {N : Int} {Z L z : Nat} {x : Ab} (hN : 1 ≤ N) (h : x.Ok L) : (x.fillz N Z L z).Ok L := by
  obtain ⟨h1, h2, h3⟩ := h
  unfold Ab.fillz
  split
  · next hh =>
    have F := fl_ok N Z hN x.s (L - x.p) z
    generalize fl N Z x.s (L - x.p) z = r at F
    have h4 := h3 hh.2
    have a1 := F.le
    have a2 := F.steps
    have a3 := F.some_
    rw [hh.1] at h4 h1
    refine ⟨by simp only; omega, by simp only; omega, fun he => ?_⟩
    simp only at he ⊢
    have : r.c ≠ 0 := fun h0 => a3 h0 he
    omega
  · exact ⟨h1, h2, h3⟩
theorem Ab.Ok.fill {N : Int} {Z L : Nat} {x : Ab} (hN : 1 ≤ N) (h : x.Ok L) : (x.fill N Z L).Ok L := h.fillz hN
theorem Ab.Ok.on {N : Int} {L : Nat} {s : List (Int × Int)} {p calls : Nat} (hN : 1 ≤ N) (h : (⟨s, p, 0, calls, 0⟩ : Ab).Ok L) (ho : ov N s (L - p) = 0) (hc : cn N s (L - p) = 0) : (⟨s.tail, p, 0, calls + 1, 0⟩ : Ab).Ok L := by
  obtain ⟨h1, h2, h3⟩ := h
  have h4 := h3 rfl
  simp only at h1 h2 h4
  cases s with
  | nil => exact (nil_not hN ho hc).elim
  | cons x s =>
    simp only [List.length_cons] at h4
    exact ⟨h1, by simp only; omega, fun _ => by simp only [List.tail_cons]; omega⟩
theorem Ab.Ok.take {L : Nat} {x : Ab} (h : x.Ok L) : x.take.Ok L := by
  obtain ⟨h1, h2, h3⟩ := h
  unfold Ab.take
  split
  · exact ⟨h1, h2, h3⟩
  · refine ⟨by simp only; omega, h2, fun he => ?_⟩
    have := h3 he
    simp only
    omega
theorem Ab.Ok.next {N : Int} {Z L : Nat} {x : Ab} (hN : 1 ≤ N) (h : x.Ok L) : (x.next N Z L).Ok L := (h.fill hN).take
/-- behind a fill, none are held only if it is over -/
theorem Ab.over_of {N : Int} {Z L : Nat} {x : Ab} (hN : 1 ≤ N) (h : (x.fill N Z L).held = 0) : (x.fill N Z L).e ≠ 0 := by
  unfold Ab.fill at h ⊢
  split at h
  · rw [if_pos (by assumption)]
    exact (fl_ok N Z hN x.s (L - x.p) 0).some_ h
  · next hh =>
    rw [if_neg hh]
    exact fun e => hh ⟨h, e⟩
theorem Ab.fill_fill {N : Int} {Z L : Nat} {x : Ab} (hN : 1 ≤ N) : (x.fill N Z L).fill N Z L = x.fill N Z L := by
  by_cases h : (x.fill N Z L).held = 0
  · have := Ab.over_of hN h
    rw [Ab.fill, if_neg (fun hh => this hh.2)]
  · rw [Ab.fill, if_neg (fun hh => h hh.1)]

/-- what comes yet, of a window: bytes, the error, and the reads in all -/
def Ab.Rest (N : Int) (Z L : Nat) (x : Ab) (T : Nat) (E : Int) (C : Nat) : Prop :=
  (x.e ≠ 0 ∧ T = x.held ∧ E = x.e ∧ C = x.calls) ∨ (x.e = 0 ∧ ∃ T' C', T = x.held + T' ∧ C = x.calls + C' ∧ Flow N Z x.s (L - (x.p + x.held)) 0 T' E C')
theorem Ab.Rest.fill {N : Int} {Z L : Nat} {x : Ab} {T : Nat} {E : Int} {C : Nat} (hN : 1 ≤ N) (h : x.Rest N Z L T E C) : (x.fill N Z L).Rest N Z L T E C := by
  unfold Ab.fill
  split
  · next hh =>
    rcases h with ⟨h, _⟩ | ⟨_, T', C', h1, h2, h3⟩
    · exact absurd hh.2 h
    · rw [hh.1] at h1 h3
      rcases flow_fl hN h3 with ⟨a1, a2, a3, a4⟩ | ⟨a1, T2, C2, a2, a3, a4⟩
      · exact .inl ⟨a1, by simp only [Nat.add_zero] at *; omega, a3, by simp only [Nat.add_zero] at *; omega⟩
      · exact .inr ⟨a1, T2, C2, by simp only [Nat.add_zero] at *; omega, by simp only [Nat.add_zero] at *; omega, by simp only [Nat.add_zero, Nat.sub_sub] at *; exact a2⟩
  · exact h
theorem Ab.Rest.take {N : Int} {Z L : Nat} {x : Ab} {T : Nat} {E : Int} {C : Nat} (h : x.Rest N Z L T E C) (hh : 0 < x.held) : x.take.Rest N Z L (T - 1) E C := by
  unfold Ab.take
  rw [if_neg (by omega)]
  rcases h with ⟨h, h1, h2, h3⟩ | ⟨h, T', C', h1, h2, h3⟩
  · exact .inl ⟨h, by simp only; omega, h2, h3⟩
  · exact .inr ⟨h, T', C', by simp only; omega, h2, by simp only; rw [show x.p + 1 + (x.held - 1) = x.p + x.held from by omega]; exact h3⟩
theorem Ab.Rest.none_ {N : Int} {Z L : Nat} {x : Ab} {T : Nat} {E : Int} {C : Nat} (h : x.Rest N Z L T E C) (he : x.e ≠ 0) : T = x.held ∧ E = x.e ∧ C = x.calls := by
  rcases h with ⟨_, h⟩ | ⟨h, _⟩
  · exact h
  · exact absurd h he
theorem Ab.Rest.le {N : Int} {Z L : Nat} {x : Ab} {T : Nat} {E : Int} {C : Nat} (h : x.Rest N Z L T E C) : x.held ≤ T := by
  rcases h with ⟨_, h, _⟩ | ⟨_, T', C', h, _⟩ <;> omega

/-! ### what each law keeps -/
/-- how often is read -/
def Ab.Ct (Z : Nat) (x : Ab) : Prop := x.calls ≤ (1 + Z) * (x.p + x.held + 1) ∧ (x.e = 0 → x.calls ≤ (1 + Z) * (x.p + x.held))
theorem Ab.Ct.fill {N : Int} {Z L : Nat} {x : Ab} (hN : 1 ≤ N) (h : x.Ct Z) : (x.fill N Z L).Ct Z := by
  unfold Ab.fill
  split
  · next hh =>
    have h2 := h.2 hh.2
    have F := fl_ok N Z hN x.s (L - x.p) 0
    generalize fl N Z x.s (L - x.p) 0 = r at F
    have a1 := F.reads (by omega)
    rw [hh.1, Nat.add_zero] at h2
    have m1 : (1 + Z) * (x.p + r.c + 1) = (1 + Z) * x.p + (1 + Z) * r.c + (1 + Z) := by rw [Nat.mul_add, Nat.mul_add, Nat.mul_one]
    have m2 : (1 + Z) * (x.p + r.c) = (1 + Z) * x.p + (1 + Z) * r.c := Nat.mul_add _ _ _
    refine ⟨by simp only; omega, fun he => ?_⟩
    have : r.c ≠ 0 := fun h0 => F.some_ h0 he
    have m3 : (1 + Z) * 1 ≤ (1 + Z) * r.c := Nat.mul_le_mul_left _ (by omega)
    simp only
    omega
  · exact h
theorem Ab.Ct.take {Z : Nat} {x : Ab} (h : x.Ct Z) : x.take.Ct Z := by
  unfold Ab.take
  split
  · exact h
  · unfold Ab.Ct
    simp only
    rw [show x.p + 1 + (x.held - 1) = x.p + x.held from by omega]
    exact h
theorem Ab.Ct.next {N : Int} {Z L : Nat} {x : Ab} (hN : 1 ≤ N) (h : x.Ct Z) : (x.next N Z L).Ct Z := (h.fill hN).take
/-- no failure, and reads enough -/
structure Ab.All (Z L : Nat) (x : Ab) : Prop where
  kinds : ∀ y ∈ x.s, y.2 ≠ 2
  few : x.s.length ≤ Z
  e : x.e = 0 ∨ (x.e = 14 ∧ x.p + x.held = L)
theorem Ab.All.fill {N : Int} {Z L : Nat} {x : Ab} (hN : 1 ≤ N) (hL : x.p + x.held ≤ L) (h : x.All Z L) : (x.fill N Z L).All Z L := by
  unfold Ab.fill
  split
  · next hh =>
    have F := fl_ok N Z hN x.s (L - x.p) 0
    generalize fl N Z x.s (L - x.p) 0 = r at F
    have a1 := F.steps
    have a2 := F.one
    have a3 := h.few
    refine ⟨fun y hy => h.kinds y (F.sub y hy), by simp only; omega, ?_⟩
    rcases F.kinds with k | k | k | k
    · exact .inl k
    · obtain ⟨y, hy, h2⟩ := F.fail_ k
      exact absurd h2 (h.kinds y hy)
    · have := F.stall k
      omega
    · have := F.all_ k
      exact .inr ⟨k, by simp only; omega⟩
  · exact h
theorem Ab.All.take {Z L : Nat} {x : Ab} (h : x.All Z L) : x.take.All Z L := by
  unfold Ab.take
  split
  · exact h
  · exact ⟨h.kinds, h.few, h.e.imp id (fun ⟨a, b⟩ => ⟨a, by simp only; omega⟩)⟩
/-- a source without steps, read through a window of n bytes -/
structure Ab.Sz (n L : Nat) (x : Ab) (c : Nat) : Prop where
  s : x.s = []
  all_ : x.p + x.held = min (c * n) L
  few : c = 0 ∨ (c - 1) * n < x.p
  e : (x.e = 0 ∧ x.calls = c) ∨ (x.e = 14 ∧ x.calls = c + 1 ∧ x.p = L)
theorem Ab.Sz.order {n m L : Nat} {x y : Ab} {c k : Nat} (h : x.Sz n L c) (hy : y.Sz m L k) (hnm : n ≤ m) (hp : x.p = y.p) (he : x.e = y.e) : y.calls ≤ x.calls := by
  have hkc : k ≤ c := by
    rcases Nat.lt_or_ge c k with hlt | hge
    · rcases hy.few with h0 | h1
      · omega
      · have a1 : (k - 1) * m ≥ c * m := Nat.mul_le_mul_right _ (by omega)
        have a2 : c * m ≥ c * n := Nat.mul_le_mul_left _ hnm
        have a3 := h.all_
        omega
    · exact hge
  rcases h.e with ⟨a1, a2⟩ | ⟨a1, a2, _⟩ <;> rcases hy.e with ⟨b1, b2⟩ | ⟨b1, b2, _⟩
  · omega
  · rw [a1, b1] at he; simp at he
  · rw [a1, b1] at he; simp at he
  · omega
theorem Ab.Sz.next {n Z L : Nat} {x : Ab} {c : Nat} (hn : 1 ≤ n) (h : x.Sz n L c) (he : x.e = 0) (hp : x.p < L) :
    (∃ c', (x.next n Z L).Sz n L c') ∧ 0 < (x.fill n Z L).held ∧ (x.fill n Z L).p = x.p ∧ (x.next n Z L).p = x.p + 1 ∧ (x.next n Z L).e = 0 := by
  have hc : x.calls = c := by
    rcases h.e with ⟨_, h⟩ | ⟨h, _⟩
    · exact h
    · rw [h] at he; simp at he
  by_cases hh : x.held = 0
  · have ha := h.all_
    rw [hh] at ha
    have hcn : x.p = c * n := by omega
    have hl : L - x.p ≠ 0 := by omega
    have hi := nil_cn (n : Int) (L - x.p) (by omega)
    generalize hk : cn (n : Int) [] (L - x.p) = k at hi
    have hkk : k = min n (L - x.p) := by omega
    have e1 : x.fill n Z L = ⟨[], x.p, k, x.calls + 1, 0⟩ := by
      unfold Ab.fill
      rw [if_pos ⟨hh, he⟩, h.s, fl, if_neg hl, hk]
    have e2 : x.next n Z L = ⟨[], x.p + 1, k - 1, x.calls + 1, 0⟩ := by
      unfold Ab.next
      rw [e1]
      unfold Ab.take
      rw [if_neg (by simp only; omega)]
    have e3 : (c + 1) * n = c * n + n := Nat.succ_mul _ _
    rw [e1, e2]
    exact ⟨⟨c + 1, rfl, by simp only; omega, .inr (by simp only [Nat.add_sub_cancel]; omega), .inl ⟨rfl, by simp only; omega⟩⟩, by simp only; omega, rfl, rfl, rfl⟩
  · have e1 : x.fill n Z L = x := by
      unfold Ab.fill
      rw [if_neg (fun q => hh q.1)]
    have e2 : x.next n Z L = ⟨x.s, x.p + 1, x.held - 1, x.calls, x.e⟩ := by
      unfold Ab.next
      rw [e1]
      unfold Ab.take
      rw [if_neg hh]
    have ha := h.all_
    rw [e2, e1]
    exact ⟨⟨c, h.s, by simp only; omega, h.few.imp id (fun q => by simp only; omega), .inl ⟨he, hc⟩⟩, by omega, rfl, rfl, he⟩
theorem Ab.Sz.last {n Z L : Nat} {x : Ab} {c : Nat} (hn : 1 ≤ n) (h : x.Sz n L c) (he : x.e = 0) (hp : x.p = L) :
    (∃ c', (x.next n Z L).Sz n L c') ∧ (x.fill n Z L).held = 0 ∧ (x.fill n Z L).e = 14 ∧ (x.next n Z L).p = L ∧ (x.next n Z L).e = 14 := by
  have hc : x.calls = c := by
    rcases h.e with ⟨_, h⟩ | ⟨h, _⟩
    · exact h
    · rw [h] at he; simp at he
  have ha := h.all_
  have hh : x.held = 0 := by omega
  have e1 : x.fill n Z L = ⟨[], x.p, 0, x.calls + 1, 14⟩ := by
    unfold Ab.fill
    rw [if_pos ⟨hh, he⟩, h.s, fl, if_pos (by omega)]
  have e2 : x.next n Z L = ⟨[], x.p, 0, x.calls + 1, 14⟩ := by
    unfold Ab.next
    rw [e1]
    rfl
  rw [e1, e2]
  exact ⟨⟨c, rfl, by simp only; omega, h.few, .inr ⟨rfl, by simp only; omega, hp⟩⟩, rfl, rfl, hp, rfl⟩

theorem Ab.fill_zero (N : Int) (Z L : Nat) (x : Ab) : x.fill N Z L = x.fillz N Z L 0 := rfl
theorem Ab.fillz_done {N : Int} {Z L z : Nat} {x : Ab} (h : 0 < x.held ∨ x.e ≠ 0) : x.fillz N Z L z = x := by
  unfold Ab.fillz
  rw [if_neg]
  rintro ⟨h1, h2⟩
  rcases h with h | h
  · omega
  · exact h h2
theorem Ab.fill_p (N : Int) (Z L : Nat) (x : Ab) : (x.fill N Z L).p = x.p := by
  unfold Ab.fill
  split <;> rfl
section
variable {N : Int} {Z L z : Nat} {s : List (Int × Int)} {p calls : Nat}
theorem fillz_end (hN : 1 ≤ N) (h : ov N s (L - p) = 1) : (⟨s, p, 0, calls, 0⟩ : Ab).fillz N Z L z = ⟨s.tail, p, cn N s (L - p), calls + 1, 14⟩ := by
  unfold Ab.fillz
  rw [if_pos ⟨rfl, rfl⟩]
  simp only
  rw [fl_end hN h]
theorem fillz_fail (hN : 1 ≤ N) (h : ov N s (L - p) = 2) : (⟨s, p, 0, calls, 0⟩ : Ab).fillz N Z L z = ⟨s.tail, p, cn N s (L - p), calls + 1, 12⟩ := by
  unfold Ab.fillz
  rw [if_pos ⟨rfl, rfl⟩]
  simp only
  rw [fl_fail hN h]
theorem fillz_some (h : ov N s (L - p) = 0) (hc : 0 < cn N s (L - p)) : (⟨s, p, 0, calls, 0⟩ : Ab).fillz N Z L z = ⟨s.tail, p, cn N s (L - p), calls + 1, 0⟩ := by
  unfold Ab.fillz
  rw [if_pos ⟨rfl, rfl⟩]
  simp only
  rw [fl_some h hc]
theorem fillz_stall (hN : 1 ≤ N) (h : ov N s (L - p) = 0) (hc : cn N s (L - p) = 0) (hz : Z < z + 1) : (⟨s, p, 0, calls, 0⟩ : Ab).fillz N Z L z = ⟨s.tail, p, 0, calls + 1, 13⟩ := by
  unfold Ab.fillz
  rw [if_pos ⟨rfl, rfl⟩]
  simp only
  rw [fl_stall hN h hc hz]
theorem fillz_more (hN : 1 ≤ N) (h : ov N s (L - p) = 0) (hc : cn N s (L - p) = 0) (hz : ¬Z < z + 1) :
    (⟨s, p, 0, calls, 0⟩ : Ab).fillz N Z L z = (⟨s.tail, p, 0, calls + 1, 0⟩ : Ab).fillz N Z L (z + 1) := by
  unfold Ab.fillz
  rw [if_pos ⟨rfl, rfl⟩, if_pos ⟨rfl, rfl⟩]
  simp only
  rw [fl_more hN h hc hz]
  simp only [Ab.mk.injEq, true_and, and_true]
  omega
end
/-- it is over, and none are held -/
def Ab.Over (x : Ab) : Prop := x.held = 0 ∧ x.e ≠ 0
def Ab.Kd (x : Ab) : Prop := x.e = 0 ∨ x.e = 12 ∨ x.e = 13 ∨ x.e = 14
theorem Ab.Over.fill {N : Int} {Z L : Nat} {x : Ab} (h : x.Over) : x.fill N Z L = x := (Ab.fill_zero N Z L x).trans (Ab.fillz_done (.inr h.2))
theorem Ab.Over.next {N : Int} {Z L : Nat} {x : Ab} (h : x.Over) : x.next N Z L = x := by
  unfold Ab.next
  rw [h.fill]
  unfold Ab.take
  rw [if_pos h.1]
theorem Ab.Kd.fill {N : Int} {Z L : Nat} {x : Ab} (hN : 1 ≤ N) (h : x.Kd) : (x.fill N Z L).Kd := by
  unfold Ab.fill
  split
  · exact (fl_ok N Z hN x.s (L - x.p) 0).kinds
  · exact h
theorem Ab.Kd.next {N : Int} {Z L : Nat} {x : Ab} (hN : 1 ≤ N) (h : x.Kd) : (x.next N Z L).Kd := by
  unfold Ab.next Ab.take
  split
  · exact h.fill hN
  · exact h.fill hN
theorem Ab.next_none {N : Int} {Z L : Nat} {x : Ab} (hN : 1 ≤ N) (h : (x.fill N Z L).held = 0) : (x.next N Z L).Over := by
  have := Ab.over_of hN h
  unfold Ab.next Ab.take
  rw [if_pos h]
  exact ⟨h, this⟩
theorem Ab.next_some {N : Int} {Z L : Nat} {x : Ab} (h : 0 < (x.fill N Z L).held) : (x.next N Z L).p = x.p + 1 := by
  unfold Ab.next Ab.take
  rw [if_neg (by omega)]
  simp only [Ab.fill_p]
end Go.Proofs.Ytakhdkfcnanglaa.Flow
