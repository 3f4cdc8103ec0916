/- What the laws share: any content. -/
import Derived.Test.YtgloehelfdmmaaaAwake
namespace Go.Proofs.Ytgloehelfdmmaaa.Oid
set_option linter.unusedVariables false
open Go.RowKit

theorem get_any (c : ByteArray) (hc : c.size ≤ 2000) (w : World) : Calls Try.prog 15 #[.string c] w (GetPost (getS (bl c)) w) := by
  by_cases h : 1 ≤ c.size
  · exact get_c c hc h w
  · obtain rfl : c = ⟨#[]⟩ := by
      cases c with
      | mk d => have : d.size = 0 := by
                  have h2 : ¬1 ≤ d.size := h
                  omega
                rw [Array.eq_empty_of_size_eq_zero this]
    exact get_nil w
theorem flat_ge (t : List Nat) : t.length ≤ (t.flatMap enc).length := by
  induction t with
  | nil => simp
  | cons n t ih =>
    rw [List.flatMap_cons, List.length_append, List.length_cons]
    unfold enc at ih ⊢
    simp at ih ⊢
    omega
theorem put_len (l : List Nat) (b : List Int) (h : putS l = some b) : l.length ≤ b.length + 1 := by
  match l, h with
  | x :: y :: t, h =>
    rw [putS] at h
    split at h
    · simp at h
    · obtain rfl := Option.some.inj h
      have h1 := flat_ge t
      have h2 : 1 ≤ (enc (40 * x + y)).length := by unfold enc; simp
      rw [List.length_append, List.length_cons, List.length_cons]
      omega
theorem put_byte (l : List Nat) (b : List Int) (h : putS l = some b) : ∀ x ∈ b, Byte x := by
  match l, h with
  | x :: y :: t, h =>
    rw [putS] at h
    split at h
    · simp at h
    · obtain rfl := Option.some.inj h
      intro z hz
      rcases List.mem_append.1 hz with hz | hz
      · exact enc_byte _ z hz
      · obtain ⟨n, _, hn⟩ := List.mem_flatMap.1 hz
        exact enc_byte _ z hn
theorem put_most (l : List Nat) (b : List Int) (hl : ∀ n ∈ l, n < 18446744073709551616) (h : putS l = some b) : b.length ≤ 10 * l.length := by
  match l, hl, h with
  | x :: y :: t, hl, h =>
    rw [putS] at h
    split at h
    · simp at h
    · next hn =>
      obtain rfl := Option.some.inj h
      have h1 := flat_len t (fun n hn => hl n (by simp [hn]))
      have h2 := (enc_len (40 * x + y) (by omega)).2
      rw [List.length_append, List.length_cons, List.length_cons]
      omega
theorem vals_get (l : List Nat) (j : Nat) (u : Value) (h : (l.map fun n : Nat => Value.int .u64 (n : Int))[j]? = some u) : j < l.length ∧ u = .int .u64 ((l.getD j 0 : Nat) : Int) := by
  have hj : j < l.length := by
    have := (List.getElem?_eq_some_iff.1 h).1
    simpa using this
  rw [List.getElem?_map, List.getElem?_eq_getElem hj] at h
  refine ⟨hj, ?_⟩
  simp only [Option.map_some, Option.some.injEq] at h
  rw [← h]
  simp [List.getD, hj]
set_option maxHeartbeats 400000 in
/-- 'append([]uint64{}, arcs...)' -/
theorem copy_run (A : Option Addr) (cap : Nat) (l : List Nat) (w : World) (G : Arcs w A l cap) (hl : l.length ≤ 1000) (t : TypeId) :
    ∃ v' w', (Builtin.append_ #[30, 30] t #[.slice (some ⟨w.heap.size, 0, none⟩) 0 0, .slice A l.length cap]).run Try.prog (w.alloc (.cells #[] 40)) = .ok v' w' ∧ Ns w' w.heap.size v' l ∧ v' ≠ .slice none 0 0 ∧ Kept (fun i => w.heap.size ≤ i) w w' := by
  obtain ⟨i0, hi, hz0, hz1, hz2⟩ := info_parts info40
  have hown := World.ownsRow_lit (base := w.heap.size) (e := 40) (size := 1) w #[] 0 (Nat.le_refl _) (by simp [maxLen]) (by simp)
  rcases G.at_ with ⟨rfl, rfl, rfl⟩ | ⟨a, rfl, hc⟩
  · exact ⟨_, _, run_append_owned_none (w.alloc (.cells #[] 40)) w.heap.size 30 t 40 i0 1 Try.underlying30 hi _ 0 [] hown, ⟨hown, fun h => by simp at h⟩, by simp, Kept.alloc (Kept.refl _ w) _⟩
  · obtain ⟨v', w', hr, ho, hg, hn⟩ := run_append_own (w.alloc (.cells #[] 40)) (P := Try.prog) w.heap.size 30 t 40 i0 _ 1 8 Try.underlying30 hi hz0 hz1 hz2 rfl (by decide) _ 0 [] hown a l.length cap (l.map fun n : Nat => Value.int .u64 (n : Int)) (by simp) (fun j u hj => by
      obtain ⟨h1, rfl⟩ := vals_get l j u hj
      have := hc j h1
      rw [World.cell?_alloc_lt _ _ _ (World.block_lt_of_cell? w _ this)]
      exact this) (fun u hu => by simp at hu; obtain ⟨b, _, rfl⟩ := hu; rfl) (by unfold maxLen; omega) (by omega) (by simp)
    rw [Nat.zero_add, List.nil_append] at ho
    have hnn : v' ≠ .slice none 0 0 := fun h => by have := (hn.1 h).1; simp at this
    exact ⟨v', w', hr, ⟨ho, fun h => absurd h hnn⟩, hnn, own_kept hown ((Kept.refl _ w).alloc _) hg⟩
theorem wpList_copy {ops : Array Oper} {rest : List Oper} {o : Oper} {a : Act} {Q : Exit → Act → World → Prop} (hgd : o.guard = none) (s x : Operand)
    (ho : o.op = .call { callee := .builtin .append, args := #[s, x], argTypes := #[30, 30] }) (A : Option Addr) (cap : Nat) (l : List Nat) (w : World) (G : Arcs w A l cap) (hl : l.length ≤ 1000)
    (hs : a.eval s = .slice (some ⟨w.heap.size, 0, none⟩) 0 0) (hx : a.eval x = .slice A l.length cap)
    (h : ∀ v' w', Ns w' w.heap.size v' l → v' ≠ .slice none 0 0 → Kept (fun i => w.heap.size ≤ i) w w' → wpList Try.prog ops Q rest (a.put o.dst v') w') : wpList Try.prog ops Q (o :: rest) a (w.alloc (.cells #[] 40)) := by
  refine wpList_plain hgd fun K hK => ?_
  obtain ⟨v', w', hrun, N', hn, K'⟩ := copy_run A cap l w G hl o.type
  unfold Oper.wp
  simp [execOp, ho, resolve, invoke, builtin, hs, hx, hrun, Result.andThen]
  exact hK _ _ (h _ _ N' hn K')
end Go.Proofs.Ytgloehelfdmmaaa.Oid
