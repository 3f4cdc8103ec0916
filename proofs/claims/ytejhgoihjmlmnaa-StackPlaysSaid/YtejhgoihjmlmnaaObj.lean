/- What a stack holds in memory, and the contracts of its methods (layer 8). -/
import Derived.Test.YtejhgoihjmlmnaaProg
import Derived.WalkKit
import Derived.WalkLawsBesides
import Derived.WalkSpells
import Derived.Lib.Hide
import Derived.Deep.QuietTactic
import Derived.BigQuiet
import Derived.BigRegion
import Derived.StillTailTactics
namespace Go.Proofs.Ytejhgoihjmlmnaa.Obj
open Go.RowKit
set_option linter.unusedVariables false

/-- All blocks that were there, but for those of S, are as they were. -/
structure Kept (S : Nat → Prop) (w w' : World) : Prop where
  os : w'.os = w.os
  tape : w'.tape = w.tape
  output : w'.output = w.output
  size : w.heap.size ≤ w'.heap.size
  block : ∀ k, k < w.heap.size → ¬S k → w'.heap[k]? = w.heap[k]?
theorem Kept.refl (S : Nat → Prop) (w : World) : Kept S w w := ⟨rfl, rfl, rfl, Nat.le_refl _, fun _ _ _ => rfl⟩
theorem Kept.trans {S : Nat → Prop} {a b c : World} (h : Kept S a b) (k : Kept S b c) : Kept S a c :=
  ⟨k.os.trans h.os, k.tape.trans h.tape, k.output.trans h.output, Nat.le_trans h.size k.size, fun i hi hs => (k.block i (Nat.lt_of_lt_of_le hi h.size) hs).trans (h.block i hi hs)⟩
theorem Kept.mono {S T : Nat → Prop} {w w' : World} (h : Kept S w w') (hST : ∀ k, S k → T k) : Kept T w w' := ⟨h.os, h.tape, h.output, h.size, fun k hk hs => h.block k hk (fun e => hs (hST k e))⟩
theorem Kept.drew {S : Nat → Prop} {a w : World} (h : Kept S a w) : Kept S a w.drew := ⟨h.os, h.tape, h.output, h.size, h.block⟩
theorem Kept.drewN {S : Nat → Prop} {a w : World} (h : Kept S a w) (n : Nat) : Kept S a (w.drewN n) := ⟨h.os, h.tape, h.output, h.size, h.block⟩
theorem Kept.setCell {S : Nat → Prop} {a w : World} (h : Kept S a w) {p : Addr} (hp : S p.block) (u : Value) : Kept S a (w.setCell p u) :=
  h.trans ⟨rfl, rfl, rfl, by simp [World.setCell], fun k hk hs => Below.heap_setCell _ _ _ _ (fun e => hs (e ▸ hp))⟩
theorem Kept.setIn {b o : Nat} {s : _} {u : Value} {a w : World} (h : Kept (· = b) a w) : Kept (· = b) a (w.setCell ⟨b, o, s⟩ u) := h.setCell rfl u
theorem Kept.alloc {S : Nat → Prop} {a w : World} (h : Kept S a w) (o : Obj) : Kept S a (w.alloc o) :=
  h.trans ⟨rfl, rfl, rfl, by simp, fun k hk _ => Below.heap_alloc _ _ _ hk⟩
theorem Kept.of_below {w w' : World} (h : Below w.heap.size w w') (S : Nat → Prop) : Kept S w w' := ⟨h.os, h.tape, h.output, h.size, fun k hk _ => h.block k hk⟩
/-- What only new blocks have turned leaves what was below. -/
theorem Kept.below {S : Nat → Prop} {w w1 w2 : World} (h : Below w.heap.size w w1) (k : Kept S w1 w2) (hS : ∀ i, S i → w.heap.size ≤ i) : Below w.heap.size w w2 :=
  ⟨k.os.trans h.os, k.tape.trans h.tape, k.output.trans h.output, Nat.le_trans h.size k.size, fun i hi => (k.block i (Nat.lt_of_lt_of_le hi h.size) (fun e => by have := hS i e; omega)).trans (h.block i hi)⟩

def upd (f : Nat → Int) (k : Nat) (v : Int) : Nat → Int := fun j => if j = k then v else f j

/-- A stack at block b: f j is what is left of the j-th, d are open. -/
structure Stk (w : World) (b : Nat) (f : Nat → Int) (d most : Nat) : Prop where
  cell : ∀ j, j < 64 → w.cell? ⟨b, j, none⟩ = some (.int .i64 (f j))
  cd : w.cell? ⟨b, 64, none⟩ = some (.int .i64 d)
  cm : w.cell? ⟨b, 65, none⟩ = some (.int .i64 most)
  free : ∀ j, j < 66 → w.frozen? ⟨b, j, none⟩ = false
  dm : d ≤ most
  m64 : most ≤ 64
  lo : ∀ j, j < d → 0 ≤ f j
  hi : ∀ j, j < d → f j ≤ 9223372036854775807
  lt : b < w.heap.size

theorem Stk.keep {S : Nat → Prop} {w w' : World} {b d most : Nat} {f : Nat → Int} (h : Stk w b f d most) (k : Kept S w w') (hb : ¬S b) : Stk w' b f d most := by
  have e := k.block b h.lt hb
  exact ⟨fun j hj => (World.cell?_of_block (w := w) e).trans (h.cell j hj), (World.cell?_of_block (w := w) e).trans h.cd, (World.cell?_of_block (w := w) e).trans h.cm,
    fun j hj => (World.frozen?_of_block (w := w) e).trans (h.free j hj), h.dm, h.m64, h.lo, h.hi, Nat.lt_of_lt_of_le h.lt k.size⟩

theorem cs_same {w : World} {a : Addr} {u v : Value} (h : w.cell? a = some u) : (w.setCell a v).cell? a = some v := World.cell?_setCell_same w a v h
theorem cs_other {w : World} {a b : Addr} {v : Value} (h : a ≠ b) : (w.setCell a v).cell? b = w.cell? b := World.cell?_setCell_other w a b v h
theorem Stk.setLeft {w : World} {b d most : Nat} {f : Nat → Int} (h : Stk w b f d most) {k : Nat} (hk : k < 64) {v : Int} (h0 : 0 ≤ v) (h1 : v ≤ 9223372036854775807) : Stk (w.setCell ⟨b, k, none⟩ (.int .i64 v)) b (upd f k v) d most where
  cell j hj := by
    by_cases e : j = k
    · subst e
      refine (cs_same (h.cell j hj)).trans ?_
      simp [upd]
    · refine ((cs_other (by simp <;> omega)).trans (h.cell j hj)).trans ?_
      simp [upd, e]
  cd := (cs_other (by simp <;> omega)).trans h.cd
  cm := (cs_other (by simp <;> omega)).trans h.cm
  free j hj := by rw [World.frozen?_setCell]; exact h.free j hj
  dm := h.dm
  m64 := h.m64
  lo j hj := by unfold upd; split; exact h0; exact h.lo j hj
  hi j hj := by unfold upd; split; exact h1; exact h.hi j hj
  lt := by rw [World.size_setCell]; exact h.lt
theorem Stk.setDepth {w : World} {b d most : Nat} {f : Nat → Int} (h : Stk w b f d most) (d' : Nat) {v : Int} (hv : v = (d' : Int)) (hd : d' ≤ most) (h0 : ∀ j, j < d' → 0 ≤ f j) (h1 : ∀ j, j < d' → f j ≤ 9223372036854775807) : Stk (w.setCell ⟨b, 64, none⟩ (.int .i64 v)) b f d' most where
  cell j hj := (cs_other (by simp <;> omega)).trans (h.cell j hj)
  cd := (cs_same h.cd).trans (by rw [hv])
  cm := (cs_other (by simp)).trans h.cm
  free j hj := by rw [World.frozen?_setCell]; exact h.free j hj
  dm := hd
  m64 := h.m64
  lo := h0
  hi := h1
  lt := by rw [World.size_setCell]; exact h.lt
theorem Stk.drew {w : World} {b d most : Nat} {f : Nat → Int} (h : Stk w b f d most) : Stk w.drew b f d most := ⟨h.cell, h.cd, h.cm, h.free, h.dm, h.m64, h.lo, h.hi, h.lt⟩
theorem Stk.drewN {w : World} {b d most : Nat} {f : Nat → Int} (h : Stk w b f d most) (n : Nat) : Stk (w.drewN n) b f d most := ⟨h.cell, h.cd, h.cm, h.free, h.dm, h.m64, h.lo, h.hi, h.lt⟩

theorem ret_int {a b : Int} (h : a = b) : Ending.returned (.int .i64 a) = .returned (.int .i64 b) := by rw [h]
theorem ret_bool {a b : Bool} (h : a = b) : Ending.returned (.bool a) = .returned (.bool b) := by rw [h]

/-! ### Enter -/
theorem enter_neg (b : Nat) (n : Int) (w : World) (h : n < 0) :
    Calls Try.prog 10 #[.pointer (some ⟨b, 0, none⟩), .int .i64 n] w fun e w' => e = .returned (.int .i64 1) ∧ w = w' := by
  go_enter Try.func10, Try.ntmps10
  go_wp2
  go_ret
  exact ⟨rfl, rfl⟩

set_option maxHeartbeats 400000 in
theorem enter_deep (b k most : Nat) (f : Nat → Int) (n : Int) (w : World) (h : Stk w b f (k + 1) most) (h0 : 0 ≤ n) (h1 : n ≤ f k) (h2 : k + 1 < most) :
    Calls Try.prog 10 #[.pointer (some ⟨b, 0, none⟩), .int .i64 n] w fun e w' => e = .returned (.int .i64 0) ∧ Stk w' b (upd (upd f k (f k - n)) (k + 1) n) (k + 2) most ∧ Kept (· = b) w w' := by
  have H := h
  obtain ⟨ce, cd, cm, fr, dm, m64, lo, hi, lt⟩ := h
  have ck := ce k (by omega)
  have ck1 := ce (k + 1) (by omega)
  have f64 := fr 64 (by omega)
  have fk := fr k (by omega)
  have fk1 := fr (k + 1) (by omega)
  have lk := lo k (by omega)
  have hk := hi k (by omega)
  have t0 : ¬n < 0 := by omega
  have t1 : ¬f k < n := by omega
  have t2 : ((k : Int) + 1 == (most : Int)) = false := by simp; omega
  have hk64 : (k : Int) < 64 := by omega
  have hk64' : (k : Int) + 1 < 64 := by omega
  rw [show ((k + 1 : Nat) : Int) = (k : Int) + 1 from rfl] at cd
  clear ce fr lo hi
  go_enter Try.func10, Try.ntmps10
  go_wp2
  go_quiet (fail)
  go_wp2
  go_quiet (fail)
  go_wp2
  go_region
  all_goals go_wp2
  go_region
  all_goals go_wp2
  go_ret
  refine ⟨rfl, ?_, ?_⟩
  · refine Stk.drew (Stk.setDepth (((H.drewN _).setLeft (k := k) (v := f k - n) (by omega) (by omega) (by omega)).setLeft (k := k + 1) (v := n) (by omega) (by omega) (by omega)) (k + 2) (by omega) (by omega) ?_ ?_)
    · intro j hj
      unfold upd
      split
      · omega
      · split
        · omega
        · exact H.lo j (by omega)
    · intro j hj
      unfold upd
      split
      · omega
      · split
        · omega
        · exact H.hi j (by omega)
  · exact by repeat (first | exact Kept.refl _ _ | apply Kept.drew | apply Kept.drewN | apply Kept.setIn)

set_option maxHeartbeats 400000 in
theorem enter_first (b most : Nat) (f : Nat → Int) (n : Int) (w : World) (h : Stk w b f 0 most) (h0 : 0 ≤ n) (hn : n ≤ 9223372036854775807) (h2 : 0 < most) :
    Calls Try.prog 10 #[.pointer (some ⟨b, 0, none⟩), .int .i64 n] w fun e w' => e = .returned (.int .i64 0) ∧ Stk w' b (upd f 0 n) 1 most ∧ Kept (· = b) w w' := by
  have H := h
  obtain ⟨ce, cd, cm, fr, dm, m64, lo, hi, lt⟩ := h
  have c0 := ce 0 (by omega)
  have f64 := fr 64 (by omega)
  have f0 := fr 0 (by omega)
  have t0 : ¬n < 0 := by omega
  have t2 : ((0 : Int) == (most : Int)) = false := by simp; omega
  rw [show ((0 : Nat) : Int) = 0 from rfl] at cd
  clear ce fr lo hi
  go_enter Try.func10, Try.ntmps10
  go_wp2
  go_quiet (fail)
  go_wp2
  go_quiet (fail)
  go_wp2
  go_region
  all_goals go_wp2
  go_ret
  refine ⟨rfl, ?_, ?_⟩
  · repeat (first | apply Stk.drew | apply Stk.drewN)
    refine Stk.setDepth (d := 0) (Stk.setLeft (k := 0) (v := n) (by repeat (first | exact H | apply Stk.drew | apply Stk.drewN)) (by omega) (by omega) (by omega)) 1 rfl (by omega) ?_ ?_
    · intro j hj
      unfold upd
      split <;> omega
    · intro j hj
      unfold upd
      split <;> omega
  · exact by repeat (first | exact Kept.refl _ _ | apply Kept.drew | apply Kept.drewN | apply Kept.setIn)

set_option maxHeartbeats 400000 in
theorem enter_full0 (b : Nat) (f : Nat → Int) (n : Int) (w : World) (h : Stk w b f 0 0) (h0 : 0 ≤ n) :
    Calls Try.prog 10 #[.pointer (some ⟨b, 0, none⟩), .int .i64 n] w fun e w' => e = .returned (.int .i64 10) ∧ Stk w' b f 0 0 ∧ Kept (· = b) w w' := by
  have H := h
  obtain ⟨ce, cd, cm, fr, dm, m64, lo, hi, lt⟩ := h
  have t0 : ¬n < 0 := by omega
  rw [show ((0 : Nat) : Int) = 0 from rfl] at cd cm
  clear ce fr lo hi
  go_enter Try.func10, Try.ntmps10
  go_wp2
  go_quiet (fail)
  go_wp2
  go_quiet (fail)
  go_wp2
  go_ret
  exact ⟨rfl, by repeat (first | exact H | apply Stk.drew | apply Stk.drewN), by repeat (first | exact Kept.refl _ _ | apply Kept.drew | apply Kept.drewN | apply Kept.setIn)⟩

set_option maxHeartbeats 400000 in
theorem enter_full (b k : Nat) (f : Nat → Int) (n : Int) (w : World) (h : Stk w b f (k + 1) (k + 1)) (h0 : 0 ≤ n) (h1 : n ≤ f k) :
    Calls Try.prog 10 #[.pointer (some ⟨b, 0, none⟩), .int .i64 n] w fun e w' => e = .returned (.int .i64 10) ∧ Stk w' b f (k + 1) (k + 1) ∧ Kept (· = b) w w' := by
  have H := h
  obtain ⟨ce, cd, cm, fr, dm, m64, lo, hi, lt⟩ := h
  have ck := ce k (by omega)
  have lk := lo k (by omega)
  have hk := hi k (by omega)
  have t0 : ¬n < 0 := by omega
  have t1 : ¬f k < n := by omega
  have hk64 : (k : Int) < 64 := by omega
  rw [show ((k + 1 : Nat) : Int) = (k : Int) + 1 from rfl] at cd cm
  clear ce fr lo hi
  go_enter Try.func10, Try.ntmps10
  go_wp2
  go_quiet (fail)
  go_wp2
  go_quiet (fail)
  go_wp2
  go_ret
  exact ⟨rfl, by repeat (first | exact H | apply Stk.drew | apply Stk.drewN), by repeat (first | exact Kept.refl _ _ | apply Kept.drew | apply Kept.drewN | apply Kept.setIn)⟩

set_option maxHeartbeats 400000 in
theorem enter_great (b k most : Nat) (f : Nat → Int) (n : Int) (w : World) (h : Stk w b f (k + 1) most) (h0 : 0 ≤ n) (h1 : f k < n) :
    Calls Try.prog 10 #[.pointer (some ⟨b, 0, none⟩), .int .i64 n] w fun e w' => e = .returned (.int .i64 5) ∧ Stk w' b f (k + 1) most ∧ Kept (· = b) w w' := by
  have H := h
  obtain ⟨ce, cd, cm, fr, dm, m64, lo, hi, lt⟩ := h
  have ck := ce k (by omega)
  have lk := lo k (by omega)
  have hk := hi k (by omega)
  have t0 : ¬n < 0 := by omega
  have hk64 : (k : Int) < 64 := by omega
  rw [show ((k + 1 : Nat) : Int) = (k : Int) + 1 from rfl] at cd
  clear ce fr lo hi
  go_enter Try.func10, Try.ntmps10
  go_wp2
  go_quiet (fail)
  go_wp2
  go_ret
  exact ⟨rfl, by repeat (first | exact H | apply Stk.drew | apply Stk.drewN), by repeat (first | exact Kept.refl _ _ | apply Kept.drew | apply Kept.drewN | apply Kept.setIn)⟩

/-! ### Take -/
theorem take_none (b most : Nat) (f : Nat → Int) (w : World) (h : Stk w b f 0 most) :
    Calls Try.prog 11 #[.pointer (some ⟨b, 0, none⟩)] w fun e w' => e = .returned (.int .i64 0) ∧ Stk w' b f 0 most ∧ Kept (· = b) w w' := by
  have H := h
  obtain ⟨ce, cd, cm, fr, dm, m64, lo, hi, lt⟩ := h
  rw [show ((0 : Nat) : Int) = 0 from rfl] at cd
  clear ce fr lo hi
  go_enter Try.func11, Try.ntmps11
  go_wp2
  go_ret
  exact ⟨rfl, H, Kept.refl (· = b) w⟩

set_option maxHeartbeats 400000 in
theorem take_over (b k most : Nat) (f : Nat → Int) (w : World) (h : Stk w b f (k + 1) most) (h0 : f k = 0) :
    Calls Try.prog 11 #[.pointer (some ⟨b, 0, none⟩)] w fun e w' => e = .returned (.int .i64 5) ∧ Stk w' b f (k + 1) most ∧ Kept (· = b) w w' := by
  have H := h
  obtain ⟨ce, cd, cm, fr, dm, m64, lo, hi, lt⟩ := h
  have ck := ce k (by omega)
  rw [h0] at ck
  have hk64 : (k : Int) < 64 := by omega
  have t1 : ((k : Int) + 1 == 0) = false := by simp; omega
  rw [show ((k + 1 : Nat) : Int) = (k : Int) + 1 from rfl] at cd
  clear ce fr lo hi h0
  go_enter Try.func11, Try.ntmps11
  go_wp2
  go_quiet (fail)
  go_wp2
  go_ret
  exact ⟨rfl, by repeat (first | exact H | apply Stk.drew | apply Stk.drewN), by repeat (first | exact Kept.refl _ _ | apply Kept.drew | apply Kept.drewN | apply Kept.setIn)⟩

set_option maxHeartbeats 400000 in
theorem take_some (b k most : Nat) (f : Nat → Int) (w : World) (h : Stk w b f (k + 1) most) (h0 : 0 < f k) :
    Calls Try.prog 11 #[.pointer (some ⟨b, 0, none⟩)] w fun e w' => e = .returned (.int .i64 0) ∧ Stk w' b (upd f k (f k - 1)) (k + 1) most ∧ Kept (· = b) w w' := by
  have H := h
  obtain ⟨ce, cd, cm, fr, dm, m64, lo, hi, lt⟩ := h
  have ck := ce k (by omega)
  have fk := fr k (by omega)
  have hk := hi k (by omega)
  have hk64 : (k : Int) < 64 := by omega
  have t1 : ((k : Int) + 1 == 0) = false := by simp; omega
  have t2 : (f k == 0) = false := by simp; omega
  rw [show ((k + 1 : Nat) : Int) = (k : Int) + 1 from rfl] at cd
  clear ce fr lo hi
  go_enter Try.func11, Try.ntmps11
  go_wp2
  go_quiet (fail)
  go_wp2
  go_region
  all_goals go_wp2
  go_ret
  refine ⟨rfl, ?_, ?_⟩
  · repeat (first | apply Stk.drew | apply Stk.drewN)
    exact Stk.setLeft (by repeat (first | exact H | apply Stk.drew | apply Stk.drewN)) (by omega) (by omega) (by omega)
  · exact by repeat (first | exact Kept.refl _ _ | apply Kept.drew | apply Kept.drewN | apply Kept.setIn)

/-! ### Leave, Depth, Left -/
set_option maxHeartbeats 400000 in
theorem leave_none (b most : Nat) (f : Nat → Int) (w : World) (h : Stk w b f 0 most) :
    Calls Try.prog 12 #[.pointer (some ⟨b, 0, none⟩)] w fun e w' => e = .returned (.bool false) ∧ Stk w' b f 0 most ∧ Kept (· = b) w w' := by
  have H := h
  obtain ⟨ce, cd, cm, fr, dm, m64, lo, hi, lt⟩ := h
  rw [show ((0 : Nat) : Int) = 0 from rfl] at cd
  clear ce fr lo hi
  go_enter Try.func12, Try.ntmps12
  go_wp2
  go_quiet (fail)
  go_wp2
  go_ret
  exact ⟨rfl, by repeat (first | exact H | apply Stk.drew | apply Stk.drewN), by repeat (first | exact Kept.refl _ _ | apply Kept.drew | apply Kept.drewN | apply Kept.setIn)⟩

set_option maxHeartbeats 400000 in
theorem leave_no (b k most : Nat) (f : Nat → Int) (w : World) (h : Stk w b f (k + 1) most) (h0 : 0 < f k) :
    Calls Try.prog 12 #[.pointer (some ⟨b, 0, none⟩)] w fun e w' => e = .returned (.bool false) ∧ Stk w' b f (k + 1) most ∧ Kept (· = b) w w' := by
  have H := h
  obtain ⟨ce, cd, cm, fr, dm, m64, lo, hi, lt⟩ := h
  have ck := ce k (by omega)
  have hk := hi k (by omega)
  have hk64 : (k : Int) < 64 := by omega
  have t1 : ((k : Int) + 1 == 0) = false := by simp; omega
  rw [show ((k + 1 : Nat) : Int) = (k : Int) + 1 from rfl] at cd
  clear ce fr lo hi
  go_enter Try.func12, Try.ntmps12
  go_wp2
  go_quiet (fail)
  go_wp2
  go_ret
  exact ⟨rfl, by repeat (first | exact H | apply Stk.drew | apply Stk.drewN), by repeat (first | exact Kept.refl _ _ | apply Kept.drew | apply Kept.drewN | apply Kept.setIn)⟩

set_option maxHeartbeats 400000 in
theorem leave_yes (b k most : Nat) (f : Nat → Int) (w : World) (h : Stk w b f (k + 1) most) (h0 : f k = 0) :
    Calls Try.prog 12 #[.pointer (some ⟨b, 0, none⟩)] w fun e w' => e = .returned (.bool true) ∧ Stk w' b f k most ∧ Kept (· = b) w w' := by
  have H := h
  obtain ⟨ce, cd, cm, fr, dm, m64, lo, hi, lt⟩ := h
  have ck := ce k (by omega)
  have f64 := fr 64 (by omega)
  rw [h0] at ck
  have hk64 : (k : Int) < 64 := by omega
  have t1 : ((k : Int) + 1 == 0) = false := by simp; omega
  rw [show ((k + 1 : Nat) : Int) = (k : Int) + 1 from rfl] at cd
  clear ce fr lo hi h0
  go_enter Try.func12, Try.ntmps12
  go_wp2
  go_quiet (fail)
  go_wp2
  go_ret
  refine ⟨rfl, ?_, ?_⟩
  · exact Stk.setDepth (H.drewN _) k rfl (by omega) (fun j hj => H.lo j (by omega)) (fun j hj => H.hi j (by omega))
  · exact ((Kept.refl (· = b) w).drewN _).setCell rfl _

theorem depth_c (b d most : Nat) (f : Nat → Int) (w : World) (h : Stk w b f d most) :
    Calls Try.prog 14 #[.pointer (some ⟨b, 0, none⟩)] w fun e w' => e = .returned (.int .i64 d) ∧ w = w' := by
  have cd := h.cd
  go_enter Try.func14, Try.ntmps14
  go_wp2
  go_ret
  exact ⟨rfl, rfl⟩

set_option maxHeartbeats 400000 in
theorem left_none (b most : Nat) (f : Nat → Int) (w : World) (h : Stk w b f 0 most) :
    Calls Try.prog 13 #[.pointer (some ⟨b, 0, none⟩)] w fun e w' => e = .returned (.int .i64 (-1)) ∧ Stk w' b f 0 most ∧ Kept (· = b) w w' := by
  have H := h
  have cd := h.cd
  rw [show ((0 : Nat) : Int) = 0 from rfl] at cd
  go_enter Try.func13, Try.ntmps13
  go_wp2
  go_ret
  exact ⟨rfl, H, Kept.refl (· = b) w⟩

set_option maxHeartbeats 400000 in
theorem left_some (b k most : Nat) (f : Nat → Int) (w : World) (h : Stk w b f (k + 1) most) :
    Calls Try.prog 13 #[.pointer (some ⟨b, 0, none⟩)] w fun e w' => e = .returned (.int .i64 (f k)) ∧ Stk w' b f (k + 1) most ∧ Kept (· = b) w w' := by
  have H := h
  obtain ⟨ce, cd, cm, fr, dm, m64, lo, hi, lt⟩ := h
  have ck := ce k (by omega)
  have hk64 : (k : Int) < 64 := by omega
  have t1 : ((k : Int) + 1 == 0) = false := by simp; omega
  rw [show ((k + 1 : Nat) : Int) = (k : Int) + 1 from rfl] at cd
  clear ce fr lo hi
  go_enter Try.func13, Try.ntmps13
  go_wp2
  go_quiet (fail)
  go_wp2
  go_ret
  exact ⟨rfl, by repeat (first | exact H | apply Stk.drew | apply Stk.drewN), by repeat (first | exact Kept.refl _ _ | apply Kept.drew | apply Kept.drewN | apply Kept.setIn)⟩

end Go.Proofs.Ytejhgoihjmlmnaa.Obj
