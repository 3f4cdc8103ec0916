/- Kept worlds, rows of numbers (layer 11). -/
import Derived.Test.YtgloehelfdmmaaaProg
import Derived.Test.YtgloehelfdmmaaaNum
import Derived.WalkKit
import Derived.WalkLawsBesides
import Derived.WalkSpells
import Derived.Lib.Hide
import Derived.Lib.SliceRun
import Derived.Laws.AppendOwnNone
import Derived.Deep.QuietTactic
import Derived.BigQuiet
import Derived.BigRegion
import Derived.OwnWalk
import Derived.Lib.LazyBuf
import Derived.Laws.Bits128
import Derived.Laws.BitsAllLaws
import Derived.StillTailTactics
namespace Go.Proofs.Ytgloehelfdmmaaa.Oid
set_option linter.unusedVariables false
open Go.RowKit

/-- All blocks that were there, but for those of S, are as they were. -/
structure Kept (S : Nat → Prop) (w w' : World) : Prop where
  os : w'.os = w.os
  tape : w'.tape = w.tape
  output : w'.output = w.output
  size : w.heap.size ≤ w'.heap.size
  block : ∀ k, k < w.heap.size → ¬S k → w'.heap[k]? = w.heap[k]?
theorem Kept.refl (S : Nat → Prop) (w : World) : Kept S w w := ⟨rfl, rfl, rfl, Nat.le_refl _, fun _ _ _ => rfl⟩
theorem Kept.trans {S : Nat → Prop} {a b c : World} (h : Kept S a b) (k : Kept S b c) : Kept S a c :=
  ⟨k.os.trans h.os, k.tape.trans h.tape, k.output.trans h.output, Nat.le_trans h.size k.size, fun i hi hs => (k.block i (Nat.lt_of_lt_of_le hi h.size) hs).trans (h.block i hi hs)⟩
theorem Kept.mono {S T : Nat → Prop} {w w' : World} (h : Kept S w w') (hST : ∀ k, S k → T k) : Kept T w w' := ⟨h.os, h.tape, h.output, h.size, fun k hk hs => h.block k hk (fun e => hs (hST k e))⟩
theorem Kept.drew {S : Nat → Prop} {a w : World} (h : Kept S a w) : Kept S a w.drew := ⟨h.os, h.tape, h.output, h.size, h.block⟩
theorem Kept.drewN {S : Nat → Prop} {a w : World} (h : Kept S a w) (n : Nat) : Kept S a (w.drewN n) := ⟨h.os, h.tape, h.output, h.size, h.block⟩
theorem Kept.setCell {S : Nat → Prop} {a w : World} (h : Kept S a w) {p : Addr} (hp : S p.block) (u : Value) : Kept S a (w.setCell p u) :=
  h.trans ⟨rfl, rfl, rfl, by simp [World.setCell], fun k hk hs => Below.heap_setCell _ _ _ _ (fun e => hs (e ▸ hp))⟩
theorem Kept.setIn {b o : Nat} {s : _} {u : Value} {a w : World} (h : Kept (· = b) a w) : Kept (· = b) a (w.setCell ⟨b, o, s⟩ u) := h.setCell rfl u
theorem Kept.alloc {S : Nat → Prop} {a w : World} (h : Kept S a w) (o : Obj) : Kept S a (w.alloc o) :=
  h.trans ⟨rfl, rfl, rfl, by simp, fun k hk _ => Below.heap_alloc _ _ _ hk⟩
theorem Kept.of_below {w w' : World} (h : Below w.heap.size w w') (S : Nat → Prop) : Kept S w w' := ⟨h.os, h.tape, h.output, h.size, fun k hk _ => h.block k hk⟩
/-- What only new blocks have turned leaves what was below. -/
theorem Kept.below {S : Nat → Prop} {w w1 w2 : World} (h : Below w.heap.size w w1) (k : Kept S w1 w2) (hS : ∀ i, S i → w.heap.size ≤ i) : Below w.heap.size w w2 :=
  ⟨k.os.trans h.os, k.tape.trans h.tape, k.output.trans h.output, Nat.le_trans h.size k.size, fun i hi => (k.block i (Nat.lt_of_lt_of_le hi h.size) (fun e => by have := hS i e; omega)).trans (h.block i hi)⟩

theorem cs_same {w : World} {a : Addr} {u v : Value} (h : w.cell? a = some u) : (w.setCell a v).cell? a = some v := World.cell?_setCell_same w a v h
theorem cs_other {w : World} {a b : Addr} {v : Value} (h : a ≠ b) : (w.setCell a v).cell? b = w.cell? b := World.cell?_setCell_other w a b v h
theorem lt_cell {w : World} {b o : Nat} {v : Value} (h : w.cell? ⟨b, o, none⟩ = some v) : b < w.heap.size := by
  unfold World.cell? at h
  by_cases hb : b < w.heap.size
  · exact hb
  · rw [Array.getElem?_eq_none (by simpa using hb)] at h
    simp at h
theorem step {a b c : World} (h1 : Below a.heap.size a b) (h2 : Below b.heap.size b c) : Below a.heap.size a c := h1.trans (h2.mono h1.size)

theorem kup {S T : Nat → Prop} {a w w' : World} (h : Kept T a w) (k : Kept S w w') (hST : ∀ i, S i → T i) : Kept T a w' := h.trans (k.mono hST)
/-! ### Start, Push -/
theorem start_no (n : Int) (w : World) (h : n < 1) :
    Calls Try.prog 11 #[.int .i64 n] w fun e w' => e = .returned (.tuple #[.agg #[.int .i64 0, .bool false], .bool false]) ∧ Kept (fun _ => False) w w' := by
  go_enter Try.func11, Try.ntmps11
  go_wp2
  exact bodyPost_ret (v := .tuple #[.agg #[.int .i64 0, .bool false], .bool false]) (by simp [results, Try.results11, go_sem]) rfl ⟨rfl, (Kept.refl _ w).alloc _⟩
theorem start_ok (n : Int) (w : World) (h : 1 ≤ n) :
    Calls Try.prog 11 #[.int .i64 n] w fun e w' => e = .returned (.tuple #[.agg #[.int .i64 n, .bool false], .bool true]) ∧ Kept (fun _ => False) w w' := by
  have h' : ¬n < 1 := by omega
  go_enter Try.func11, Try.ntmps11
  go_wp2
  exact bodyPost_ret (v := .tuple #[.agg #[.int .i64 n, .bool false], .bool true]) (by simp [results, Try.results11, go_sem]) rfl ⟨rfl, (Kept.refl _ w).alloc _⟩
set_option maxHeartbeats 1000000 in
theorem push_no (l : Int) (wn : Bool) (b : Int) (w : World) (h0 : -1000000 ≤ l) (h1 : l ≤ 9223372036854775807) (hb : Byte b) (h : (wn = false ∧ b = 128) ∨ (l = 1 ∧ 128 ≤ b)) :
    Calls Try.prog 12 #[.agg #[.int .i64 l, .bool wn], .int .u8 b] w fun e w' => e = .returned (.tuple #[.agg #[.int .i64 0, .bool false], .bool false]) ∧ Kept (fun _ => False) w w' := by
  obtain ⟨b0, b1⟩ := hb
  by_cases hc : wn = false ∧ b = 128
  · obtain ⟨rfl, rfl⟩ := hc
    clear h
    go_enter Try.func12, Try.ntmps12
    go_wp2
    exact bodyPost_ret (v := .tuple #[.agg #[.int .i64 0, .bool false], .bool false]) (by simp [results, Try.results12, go_sem]) rfl ⟨rfl, ((Kept.refl _ w).alloc _).alloc _⟩
  · obtain ⟨rfl, hb⟩ := h.resolve_left hc
    clear h
    cases wn with
    | true =>
      clear hc
      go_enter Try.func12, Try.ntmps12
      go_wp2
      exact bodyPost_ret (v := .tuple #[.agg #[.int .i64 0, .bool false], .bool false]) (by simp [results, Try.results12, go_sem]) rfl ⟨rfl, ((Kept.refl _ w).alloc _).alloc _⟩
    | false =>
      have hne : (b == 128) = false := by simpa using hc
      clear hc
      go_enter Try.func12, Try.ntmps12
      go_wp2
      exact bodyPost_ret (v := .tuple #[.agg #[.int .i64 0, .bool false], .bool false]) (by simp [results, Try.results12, go_sem]) rfl ⟨rfl, ((Kept.refl _ w).alloc _).alloc _⟩
set_option maxHeartbeats 1000000 in
theorem push_ok (l : Int) (wn : Bool) (b : Int) (w : World) (h0 : -1000000 ≤ l) (h1 : l ≤ 9223372036854775807) (hb : Byte b) (h : ¬((wn = false ∧ b = 128) ∨ (l = 1 ∧ 128 ≤ b))) :
    Calls Try.prog 12 #[.agg #[.int .i64 l, .bool wn], .int .u8 b] w fun e w' => e = .returned (.tuple #[.agg #[.int .i64 (l - 1), .bool (decide (127 < b))], .bool true]) ∧ Kept (fun _ => False) w w' := by
  obtain ⟨b0, b1⟩ := hb
  have hd : decide (127 < b) = decide (128 ≤ b) := by rw [Bool.eq_iff_iff]; simp; omega
  rw [hd]
  clear hd
  have hl : (l = 1 ∧ (l - 1 == 0) = true ∧ ¬128 ≤ b) ∨ ((l - 1 == 0) = false ∧ l ≠ 1) := by
    by_cases h2 : l = 1
    · exact .inl ⟨h2, by simp; omega, fun h3 => h (.inr ⟨h2, h3⟩)⟩
    · exact .inr ⟨by simp; omega, h2⟩
  have hw : wn = true ∨ (wn = false ∧ (b == 128) = false) := by
    cases wn with
    | true => exact .inl rfl
    | false => exact .inr ⟨rfl, by simpa using fun h2 => h (.inl ⟨rfl, h2⟩)⟩
  clear h
  rcases hw with rfl | ⟨rfl, hne⟩
  all_goals rcases hl with ⟨rfl, e1, e2⟩ | ⟨e1, -⟩
  all_goals
    try rw [show decide (128 ≤ b) = false from decide_eq_false e2, show (1 : Int) - 1 = 0 from rfl]
    go_enter Try.func12, Try.ntmps12
    go_wp2
    first
      | exact bodyPost_ret (v := .tuple #[.agg #[.int .i64 (l - 1), .bool (decide (128 ≤ b))], .bool true]) (by simp [results, Try.results12, go_sem]) rfl ⟨rfl, ((Kept.refl _ w).alloc _).alloc _⟩
      | exact bodyPost_ret (v := .tuple #[.agg #[.int .i64 0, .bool false], .bool true]) (by simp [results, Try.results12, go_sem]) rfl ⟨rfl, ((Kept.refl _ w).alloc _).alloc _⟩
end Go.Proofs.Ytgloehelfdmmaaa.Oid
