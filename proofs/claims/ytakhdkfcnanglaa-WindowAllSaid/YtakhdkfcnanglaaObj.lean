/- What a source holds in memory, and the contracts of its methods (layer 3). -/
import Derived.Test.YtakhdkfcnanglaaProg
import Derived.WalkKit
import Derived.WalkLawsBesides
import Derived.WalkSpells
import Derived.Lib.Hide
import Derived.Lib.SliceRun
import Derived.Laws.AppendOwnNone
import Derived.Deep.QuietTactic
import Derived.BigQuiet
import Derived.BigRegion
namespace Go.Proofs.Ytakhdkfcnanglaa.Obj
open Go.RowKit
set_option linter.unusedVariables false

/-- All blocks that were there, but for those of S, are as they were. -/
structure Kept (S : Nat → Prop) (w w' : World) : Prop where
  os : w'.os = w.os
  tape : w'.tape = w.tape
  output : w'.output = w.output
  size : w.heap.size ≤ w'.heap.size
  block : ∀ k, k < w.heap.size → ¬S k → w'.heap[k]? = w.heap[k]?
theorem Kept.refl (S : Nat → Prop) (w : World) : Kept S w w := ⟨rfl, rfl, rfl, Nat.le_refl _, fun _ _ _ => rfl⟩
theorem Kept.trans {S : Nat → Prop} {a b c : World} (h : Kept S a b) (k : Kept S b c) : Kept S a c :=
  ⟨k.os.trans h.os, k.tape.trans h.tape, k.output.trans h.output, Nat.le_trans h.size k.size, fun i hi hs => (k.block i (Nat.lt_of_lt_of_le hi h.size) hs).trans (h.block i hi hs)⟩
theorem Kept.mono {S T : Nat → Prop} {w w' : World} (h : Kept S w w') (hST : ∀ k, S k → T k) : Kept T w w' := ⟨h.os, h.tape, h.output, h.size, fun k hk hs => h.block k hk (fun e => hs (hST k e))⟩
theorem Kept.drew {S : Nat → Prop} {a w : World} (h : Kept S a w) : Kept S a w.drew := ⟨h.os, h.tape, h.output, h.size, h.block⟩
theorem Kept.drewN {S : Nat → Prop} {a w : World} (h : Kept S a w) (n : Nat) : Kept S a (w.drewN n) := ⟨h.os, h.tape, h.output, h.size, h.block⟩
theorem Kept.setCell {S : Nat → Prop} {a w : World} (h : Kept S a w) {p : Addr} (hp : S p.block) (u : Value) : Kept S a (w.setCell p u) :=
  h.trans ⟨rfl, rfl, rfl, by simp [World.setCell], fun k hk hs => Below.heap_setCell _ _ _ _ (fun e => hs (e ▸ hp))⟩
theorem Kept.setIn {b o : Nat} {s : _} {u : Value} {a w : World} (h : Kept (· = b) a w) : Kept (· = b) a (w.setCell ⟨b, o, s⟩ u) := h.setCell rfl u
theorem Kept.alloc {S : Nat → Prop} {a w : World} (h : Kept S a w) (o : Obj) : Kept S a (w.alloc o) :=
  h.trans ⟨rfl, rfl, rfl, by simp, fun k hk _ => Below.heap_alloc _ _ _ hk⟩
theorem Kept.of_below {w w' : World} (h : Below w.heap.size w w') (S : Nat → Prop) : Kept S w w' := ⟨h.os, h.tape, h.output, h.size, fun k hk _ => h.block k hk⟩
/-- What only new blocks have turned leaves what was below. -/
theorem Kept.below {S : Nat → Prop} {w w1 w2 : World} (h : Below w.heap.size w w1) (k : Kept S w1 w2) (hS : ∀ i, S i → w.heap.size ≤ i) : Below w.heap.size w w2 :=
  ⟨k.os.trans h.os, k.tape.trans h.tape, k.output.trans h.output, Nat.le_trans h.size k.size, fun i hi => (k.block i (Nat.lt_of_lt_of_le hi h.size) (fun e => by have := hS i e; omega)).trans (h.block i hi)⟩

theorem cs_same {w : World} {a : Addr} {u v : Value} (h : w.cell? a = some u) : (w.setCell a v).cell? a = some v := World.cell?_setCell_same w a v h
theorem cs_other {w : World} {a b : Addr} {v : Value} (h : a ≠ b) : (w.setCell a v).cell? b = w.cell? b := World.cell?_setCell_other w a b v h
theorem lt_cell {w : World} {b o : Nat} {v : Value} (h : w.cell? ⟨b, o, none⟩ = some v) : b < w.heap.size := by
  unfold World.cell? at h
  by_cases hb : b < w.heap.size
  · exact hb
  · rw [Array.getElem?_eq_none (by simpa using hb)] at h
    simp at h
theorem step {a b c : World} (h1 : Below a.heap.size a b) (h2 : Below b.heap.size b c) : Below a.heap.size a c := h1.trans (h2.mono h1.size)
theorem ret_int {a b : Int} (h : a = b) : Ending.returned (.int .i64 a) = .returned (.int .i64 b) := by rw [h]
theorem ret_bool {a b : Bool} (h : a = b) : Ending.returned (.bool a) = .returned (.bool b) := by rw [h]

/-- Steps, two whole numbers each, lie in block g from o on. -/
def Row (w : World) (g o : Nat) (st : List (Int × Int)) : Prop :=
  ∀ i, i < st.length → w.cell? ⟨g, o + 2 * i, none⟩ = some (.int .i64 (st.getD i (0, 0)).1) ∧ w.cell? ⟨g, o + 2 * i + 1, none⟩ = some (.int .i64 (st.getD i (0, 0)).2)

/-- A source at block b, its steps in block g. -/
structure Src (w : World) (b g : Nat) (left : ByteArray) (st : List (Int × Int)) (over given calls : Int) : Prop where
  c0 : w.cell? ⟨b, 0, none⟩ = some (.string left)
  c1 : ∃ (A : Option Addr) (cap : Nat), w.cell? ⟨b, 1, none⟩ = some (.slice A st.length cap) ∧ st.length ≤ cap ∧ cap ≤ 9223372036854775807 ∧ (st = [] ∨ ∃ o, A = some ⟨g, o, none⟩ ∧ Row w g o st)
  c2 : w.cell? ⟨b, 2, none⟩ = some (.int .i64 over)
  c3 : w.cell? ⟨b, 3, none⟩ = some (.int .i64 given)
  c4 : w.cell? ⟨b, 4, none⟩ = some (.int .i64 calls)
  fr : ∀ j, j < 5 → w.frozen? ⟨b, j, none⟩ = false
  ne : st = [] ∨ b ≠ g
  lb : b < w.heap.size
  lg : st = [] ∨ g < w.heap.size

theorem Row.keep {w w' : World} {g o : Nat} {st : List (Int × Int)} (h : Row w g o st) (e : w'.heap[g]? = w.heap[g]?) : Row w' g o st :=
  fun i hi => ⟨(World.cell?_of_block (w := w) e).trans (h i hi).1, (World.cell?_of_block (w := w) e).trans (h i hi).2⟩
theorem Src.keep {S : Nat → Prop} {w w' : World} {b g : Nat} {left : ByteArray} {st : List (Int × Int)} {over given calls : Int} (h : Src w b g left st over given calls) (k : Kept S w w') (hb : ¬S b) (hg : ¬S g) : Src w' b g left st over given calls := by
  have e := k.block b h.lb hb
  refine ⟨(World.cell?_of_block (w := w) e).trans h.c0, ?_, (World.cell?_of_block (w := w) e).trans h.c2, (World.cell?_of_block (w := w) e).trans h.c3, (World.cell?_of_block (w := w) e).trans h.c4,
    fun j hj => (World.frozen?_of_block (w := w) e).trans (h.fr j hj), h.ne, Nat.lt_of_lt_of_le h.lb k.size, h.lg.imp id (fun q => Nat.lt_of_lt_of_le q k.size)⟩
  obtain ⟨A, cap, h1, h2, h3, h4⟩ := h.c1
  refine ⟨A, cap, (World.cell?_of_block (w := w) e).trans h1, h2, h3, ?_⟩
  rcases h4 with h4 | ⟨o, h4, h5⟩
  · exact .inl h4
  · rcases h.lg with hl | hl
    · exact .inl hl
    · exact .inr ⟨o, h4, h5.keep (k.block g hl hg)⟩
theorem heap_other (w : World) (p : Addr) (v : Value) (g : Nat) (h : g ≠ p.block) : (w.setCell p v).heap[g]? = w.heap[g]? := Below.heap_setCell _ _ _ _ h
section
variable {w : World} {b g : Nat} {left : ByteArray} {st : List (Int × Int)} {over given calls : Int}
theorem Src.drew (h : Src w b g left st over given calls) : Src w.drew b g left st over given calls := ⟨h.c0, h.c1, h.c2, h.c3, h.c4, h.fr, h.ne, h.lb, h.lg⟩
theorem Src.drewN (h : Src w b g left st over given calls) (n : Nat) : Src (w.drewN n) b g left st over given calls := ⟨h.c0, h.c1, h.c2, h.c3, h.c4, h.fr, h.ne, h.lb, h.lg⟩
theorem Src.row_other (h : Src w b g left st over given calls) (p : Addr) (hp : p.block = b) (v : Value) {o : Nat} (hr : Row w g o st) : Row (w.setCell p v) g o st := by
  rcases h.ne with hn | hn
  · intro i hi; rw [hn] at hi; simp at hi
  · exact hr.keep (heap_other _ _ _ _ (by rw [hp]; exact fun e => hn e.symm))
theorem Src.c1_other (h : Src w b g left st over given calls) (j : Nat) (hj : j ≠ 1) (v : Value) :
    ∃ (A : Option Addr) (cap : Nat), (w.setCell ⟨b, j, none⟩ v).cell? ⟨b, 1, none⟩ = some (.slice A st.length cap) ∧ st.length ≤ cap ∧ cap ≤ 9223372036854775807 ∧ (st = [] ∨ ∃ o, A = some ⟨g, o, none⟩ ∧ Row (w.setCell ⟨b, j, none⟩ v) g o st) := by
  obtain ⟨A, cap, h1, h2, h3, h4⟩ := h.c1
  exact ⟨A, cap, (cs_other (by simp <;> exact hj)).trans h1, h2, h3, h4.imp id (fun ⟨o, q, r⟩ => ⟨o, q, h.row_other _ rfl v r⟩)⟩
theorem Src.setLeft (h : Src w b g left st over given calls) (s : ByteArray) : Src (w.setCell ⟨b, 0, none⟩ (.string s)) b g s st over given calls :=
  ⟨cs_same h.c0, h.c1_other 0 (by omega) _, (cs_other (by simp)).trans h.c2, (cs_other (by simp)).trans h.c3, (cs_other (by simp)).trans h.c4, fun j hj => by rw [World.frozen?_setCell]; exact h.fr j hj, h.ne, by rw [World.size_setCell]; exact h.lb, by rw [World.size_setCell]; exact h.lg⟩
theorem Src.setOver (h : Src w b g left st over given calls) (v : Int) : Src (w.setCell ⟨b, 2, none⟩ (.int .i64 v)) b g left st v given calls :=
  ⟨(cs_other (by simp)).trans h.c0, h.c1_other 2 (by omega) _, cs_same h.c2, (cs_other (by simp)).trans h.c3, (cs_other (by simp)).trans h.c4, fun j hj => by rw [World.frozen?_setCell]; exact h.fr j hj, h.ne, by rw [World.size_setCell]; exact h.lb, by rw [World.size_setCell]; exact h.lg⟩
theorem Src.setGiven (h : Src w b g left st over given calls) (v : Int) : Src (w.setCell ⟨b, 3, none⟩ (.int .i64 v)) b g left st over v calls :=
  ⟨(cs_other (by simp)).trans h.c0, h.c1_other 3 (by omega) _, (cs_other (by simp)).trans h.c2, cs_same h.c3, (cs_other (by simp)).trans h.c4, fun j hj => by rw [World.frozen?_setCell]; exact h.fr j hj, h.ne, by rw [World.size_setCell]; exact h.lb, by rw [World.size_setCell]; exact h.lg⟩
theorem Src.setCalls (h : Src w b g left st over given calls) (v : Int) : Src (w.setCell ⟨b, 4, none⟩ (.int .i64 v)) b g left st over given v :=
  ⟨(cs_other (by simp)).trans h.c0, h.c1_other 4 (by omega) _, (cs_other (by simp)).trans h.c2, (cs_other (by simp)).trans h.c3, cs_same h.c4, fun j hj => by rw [World.frozen?_setCell]; exact h.fr j hj, h.ne, by rw [World.size_setCell]; exact h.lb, by rw [World.size_setCell]; exact h.lg⟩
end

/-! ### the counted calls -/
theorem add_c (b off : Nat) (x : Int) (w : World) (h0 : 0 ≤ x) (h1 : x ≤ 1000000000000) (hc : w.cell? ⟨b, off, none⟩ = some (.int .i64 x)) (hz : w.frozen? ⟨b, off, none⟩ = false) :
    Calls Try.prog 31 #[.pointer (some ⟨b, off, none⟩), .int .i64 1] w fun e w' => e = .returned (.int .i64 (x + 1)) ∧ w.setCell ⟨b, off, none⟩ (.int .i64 (x + 1)) = w' := by
  have hs : (Op.intArith .add .i64 x 1).run Try.prog w = .ok (.int .i64 (x + 1)) w := by
    have e : IntKind.i64.wrap (x + 1) = x + 1 := by rw [IntKind.wrap_i64]; omega
    simp [Op.intArith, e]
  have hadd := run_call_add (P := Try.prog) Try.func35 (by kernel_rfl) (by kernel_rfl) (by kernel_rfl) .i64 (by kernel_rfl) (y := 1) hc hz hs
  clear hs
  go_enter Try.func31, Try.ntmps31
  go_wp2
  go_ret
  exact ⟨rfl, rfl⟩
theorem load_c (b off : Nat) (x : Int) (w : World) (hc : w.cell? ⟨b, off, none⟩ = some (.int .i64 x)) :
    Calls Try.prog 33 #[.pointer (some ⟨b, off, none⟩)] w fun e w' => e = .returned (.int .i64 x) ∧ w = w' := by
  have hload := run_call_load (P := Try.prog) Try.func36 (by kernel_rfl) (by kernel_rfl) (by kernel_rfl) .i64 (by kernel_rfl) hc
  go_enter Try.func33, Try.ntmps33
  go_wp2
  go_ret
  exact ⟨rfl, rfl⟩
theorem calls_c (b g : Nat) (left : ByteArray) (st : List (Int × Int)) (over given calls : Int) (w : World) (h : Src w b g left st over given calls) (h0 : 0 ≤ calls) (h1 : calls ≤ 1000000000000) :
    Calls Try.prog 19 #[.pointer (some ⟨b, 0, none⟩)] w fun e w' => e = .returned (.int .i64 calls) ∧ w = w' := by
  have c4 := h.c4
  go_enter Try.func19, Try.ntmps19
  go_wp2_with fail
  refine (load_c b 4 calls _ c4).mono ?_
  rintro e w1 ⟨rfl, rfl⟩
  go_wp2
  go_ret
  exact ⟨rfl, rfl⟩
theorem given_c (b g : Nat) (left : ByteArray) (st : List (Int × Int)) (over given calls : Int) (w : World) (h : Src w b g left st over given calls) :
    Calls Try.prog 20 #[.pointer (some ⟨b, 0, none⟩)] w fun e w' => e = .returned (.int .i64 given) ∧ w = w' := by
  have c3 := h.c3
  go_enter Try.func20, Try.ntmps20
  go_wp2
  go_ret
  exact ⟨rfl, rfl⟩

theorem Src.alloc {w : World} {b g : Nat} {left : ByteArray} {st : List (Int × Int)} {over given calls : Int} (h : Src w b g left st over given calls) (o : Obj) : Src (w.alloc o) b g left st over given calls :=
  h.keep ((Kept.refl (fun _ => False) w).alloc o) (fun h => h) (fun h => h)
theorem Src.setSteps {w : World} {b g : Nat} {left : ByteArray} {x : Int × Int} {st : List (Int × Int)} {over given calls : Int} (h : Src w b g left (x :: st) over given calls) (A : Option Addr) (cap : Nat) (hc : st.length ≤ cap) (hm : cap ≤ 9223372036854775807)
    (hr : st = [] ∨ ∃ o, A = some ⟨g, o, none⟩ ∧ Row w g o st) : Src (w.setCell ⟨b, 1, none⟩ (.slice A st.length cap)) b g left st over given calls := by
  have hb : b ≠ g := h.ne.resolve_left (by simp)
  have lg : g < w.heap.size := h.lg.resolve_left (by simp)
  obtain ⟨A0, cap0, h1, _⟩ := h.c1
  refine ⟨(cs_other (by simp)).trans h.c0, ⟨A, cap, cs_same h1, hc, hm, ?_⟩, (cs_other (by simp)).trans h.c2, (cs_other (by simp)).trans h.c3, (cs_other (by simp)).trans h.c4, fun j hj => by rw [World.frozen?_setCell]; exact h.fr j hj, .inr hb, by rw [World.size_setCell]; exact h.lb, .inr (by rw [World.size_setCell]; exact lg)⟩
  rcases hr with hr | ⟨o, hr, h3⟩
  · exact .inl hr
  · exact .inr ⟨o, hr, h3.keep (heap_other _ _ _ _ (fun e => hb e.symm))⟩
theorem Row.tail {w : World} {g o : Nat} {x : Int × Int} {st : List (Int × Int)} (h : Row w g o (x :: st)) : Row w g (o + 2) st := by
  intro i hi
  have := h (i + 1) (by simp; omega)
  rw [show o + 2 * (i + 1) = o + 2 + 2 * i from by omega] at this
  simpa using this

/-! ### next -/
set_option maxHeartbeats 400000 in
theorem next_step (b g : Nat) (left : ByteArray) (x : Int × Int) (st : List (Int × Int)) (over given calls : Int) (w : World) (h : Src w b g left (x :: st) over given calls) :
    Calls Try.prog 32 #[.pointer (some ⟨b, 0, none⟩)] w fun e w' => e = .returned (.agg #[.int .i64 x.1, .int .i64 x.2]) ∧ Src w' b g left st over given calls ∧ Kept (· = b) w w' := by
  have H := h
  obtain ⟨A, cap, h1, h2, h3, h4⟩ := h.c1
  rcases h4 with h4 | ⟨o, rfl, hr⟩
  · simp at h4
  have f1 := h.fr 1 (by omega)
  have lb := h.lb
  obtain ⟨r0, r1⟩ := hr 0 (by simp)
  simp only [Nat.mul_zero, Nat.add_zero, List.getD_cons_zero] at r0 r1
  have hb : b ≠ g := h.ne.resolve_left (by simp)
  have lg : g < w.heap.size := h.lg.resolve_left (by simp)
  simp only [List.length_cons] at h1 h2
  have HT : Hid (Row w g (o + 2) st) := hr.tail
  clear hr h
  by_cases hc : cap = 1
  · subst hc
    obtain rfl : st = [] := List.eq_nil_of_length_eq_zero (by omega)
    simp only [List.length_nil, Nat.zero_add] at h1
    go_enter Try.func32, Try.ntmps32
    go_wp2
    refine bodyPost_ret (v := .agg #[.int .i64 x.1, .int .i64 x.2]) (by simp [results, Try.results32, go_sem]) rfl ⟨rfl, ?_, ?_⟩
    · exact ((H.setSteps _ 0 (by simp) (by omega) (.inl rfl)).alloc _).alloc _
    · exact ((Kept.setIn (Kept.refl _ w)).alloc _).alloc _
  · go_enter Try.func32, Try.ntmps32
    go_wp2
    refine bodyPost_ret (v := .agg #[.int .i64 x.1, .int .i64 x.2]) (by simp [results, Try.results32, go_sem]) rfl ⟨rfl, ?_, ?_⟩
    · exact ((H.setSteps _ _ (by omega) (by omega) (.inr ⟨o + 2, rfl, HT.out⟩)).alloc _).alloc _
    · exact ((Kept.setIn (Kept.refl _ w)).alloc _).alloc _

set_option maxHeartbeats 400000 in
theorem next_over (b g : Nat) (over given calls : Int) (w : World) (h : Src w b g ⟨#[]⟩ [] over given calls) :
    Calls Try.prog 32 #[.pointer (some ⟨b, 0, none⟩)] w fun e w' => e = .returned (.agg #[.int .i64 0, .int .i64 1]) ∧ Src w' b g ⟨#[]⟩ [] over given calls ∧ Kept (· = b) w w' := by
  have H := h
  obtain ⟨A, cap, h1, h2, h3, h4⟩ := h.c1
  have c0 := h.c0
  have lb := h.lb
  rw [show (([] : List (Int × Int)).length : Nat) = 0 from rfl] at h1
  clear h4 h h2
  go_enter Try.func32, Try.ntmps32
  go_wp2
  refine bodyPost_ret (v := .agg #[.int .i64 0, .int .i64 1]) (by simp [results, Try.results32, go_sem]) rfl ⟨rfl, ?_, ?_⟩
  · exact H.alloc _
  · exact (Kept.refl _ w).alloc _

set_option maxHeartbeats 400000 in
theorem next_all (b g : Nat) (left : ByteArray) (over given calls : Int) (w : World) (h : Src w b g left [] over given calls) (hl : 0 < left.size) :
    Calls Try.prog 32 #[.pointer (some ⟨b, 0, none⟩)] w fun e w' => e = .returned (.agg #[.int .i64 left.size, .int .i64 0]) ∧ Src w' b g left [] over given calls ∧ Kept (· = b) w w' := by
  have H := h
  obtain ⟨A, cap, h1, h2, h3, h4⟩ := h.c1
  have c0 := h.c0
  have lb := h.lb
  rw [show (([] : List (Int × Int)).length : Nat) = 0 from rfl] at h1
  have ht : left.toList.isEmpty = false := by
    rw [ByteArray.toList_eq]
    cases e : left.data.toList with
    | nil => have : left.data.toList.length = left.size := by rw [Array.length_toList]; rfl
             rw [e] at this; simp at this; omega
    | cons _ _ => rfl
  clear h4 h h2
  go_enter Try.func32, Try.ntmps32
  go_wp2
  clear ht
  generalize hn : (left.size : Int) = n
  have HN := Lib.hid hn
  clear hn
  refine bodyPost_ret (v := .agg #[.int .i64 n, .int .i64 0]) (by simp [results, Try.results32, go_sem]) rfl ⟨rfl, ?_, ?_⟩
  · exact H.alloc _
  · exact (Kept.refl _ w).alloc _

/-! ### Read -/
theorem read_over (b g : Nat) (left : ByteArray) (st : List (Int × Int)) (over given calls n : Int) (w : World) (h : Src w b g left st over given calls) (h0 : 0 ≤ calls) (h1 : calls ≤ 1000000000000) (ho : (over == 0) = false) :
    Calls Try.prog 17 #[.pointer (some ⟨b, 0, none⟩), .int .i64 n] w fun e w' => e = .returned (.tuple #[.string ⟨#[]⟩, .int .i64 over]) ∧ Src w' b g left st over given (calls + 1) ∧ Kept (· = b) w w' := by
  have c4 := h.c4
  have f4 := h.fr 4 (by omega)
  have c2 := h.c2
  have H := h
  clear h
  go_enter Try.func17, Try.ntmps17
  go_wp2_with fail
  refine (add_c b 4 calls _ h0 h1 c4 f4).mono ?_
  rintro e w1 ⟨rfl, rfl⟩
  have d2 : (w.setCell ⟨b, 4, none⟩ (.int .i64 (calls + 1))).cell? ⟨b, 2, none⟩ = some (.int .i64 over) := (H.setCalls (calls + 1)).c2
  go_wp2
  go_quiet (fail)
  go_wp2
  go_ret2
  exact ⟨rfl, (H.setCalls (calls + 1)).drewN _, (Kept.setIn (Kept.refl _ w)).drewN _⟩

/-- what a step leaves -/
def fin (k : Int) (l : Nat) : Int := if k = 2 then 2 else if k = 1 ∧ l = 0 then 1 else 0
/-- how many bytes come -/
def came (n m : Int) (l : Nat) : Nat := (max (min (min n m) l) 0).toNat
theorem came_le (n m : Int) (l : Nat) : came n m l ≤ l := by unfold came; omega

set_option maxHeartbeats 1000000 in
theorem read_run (b g : Nat) (left : ByteArray) (st : List (Int × Int)) (given calls n m k : Int) (w w1 : World) (h0 : 0 ≤ calls) (h1 : calls ≤ 1000000000000) (h : Src w b g left st 0 given calls)
    (hg0 : 0 ≤ given) (hg1 : given ≤ 1000000000000) (hs : left.size ≤ 1000000000000) (st' : List (Int × Int))
    (N : Calls Try.prog 32 #[.pointer (some ⟨b, 0, none⟩)] (w.setCell ⟨b, 4, none⟩ (.int .i64 (calls + 1))) fun e w' => e = .returned (.agg #[.int .i64 m, .int .i64 k]) ∧ Src w' b g left st' 0 given (calls + 1) ∧ Kept (· = b) (w.setCell ⟨b, 4, none⟩ (.int .i64 (calls + 1))) w') :
    Calls Try.prog 17 #[.pointer (some ⟨b, 0, none⟩), .int .i64 n] w fun e w' => e = .returned (.tuple #[.string (left.extract 0 (came n m left.size)), .int .i64 (fin k (left.size - came n m left.size))]) ∧ Src w' b g (left.extract (came n m left.size) left.size) st' (fin k (left.size - came n m left.size)) (given + came n m left.size) (calls + 1) ∧ Kept (· = b) w w' := by
  have c4 := h.c4
  have f4 := h.fr 4 (by omega)
  have c2 := h.c2
  have H := h
  clear h
  go_enter Try.func17, Try.ntmps17
  go_wp2_with fail
  refine (add_c b 4 calls _ h0 h1 c4 f4).mono ?_
  rintro e w2 ⟨rfl, rfl⟩
  have d2 : (w.setCell ⟨b, 4, none⟩ (.int .i64 (calls + 1))).cell? ⟨b, 2, none⟩ = some (.int .i64 0) := (H.setCalls (calls + 1)).c2
  have K1 : Hid (Kept (· = b) w (w.setCell ⟨b, 4, none⟩ (.int .i64 (calls + 1)))) := Kept.setIn (Kept.refl _ w)
  go_wp2_with fail
  refine N.mono ?_
  rintro e w3 ⟨rfl, S3, K3⟩
  have e0 := S3.c0
  have lb3 := S3.lb
  have K4 := Lib.hid (K1.out.trans K3)
  clear N K3 K1 d2 c4 f4 c2 H
  go_wp2_with fail
  have S4 := S3.alloc (.cells #[.int .i64 m, .int .i64 k] 36)
  have K5 := Lib.hid (K4.out.alloc (.cells #[.int .i64 m, .int .i64 k] 36))
  have m0 : (w3.alloc (.cells #[.int .i64 m, .int .i64 k] 36)).cell? ⟨w3.heap.size, 0, none⟩ = some (.int .i64 m) := World.cell?_alloc_new _ _ _ _
  have m1 : (w3.alloc (.cells #[.int .i64 m, .int .i64 k] 36)).cell? ⟨w3.heap.size, 1, none⟩ = some (.int .i64 k) := World.cell?_alloc_new _ _ _ _
  have g0 : w.heap.size ≤ w3.heap.size := K4.out.size
  generalize (w3.alloc (.cells #[.int .i64 m, .int .i64 k] 36)) = w4 at S4 K5 m0 m1 ⊢
  generalize w3.heap.size = q at m0 m1 g0 lb3 ⊢
  clear S3 K4 e0
  have e0 := S4.c0
  have e2 := S4.c2
  have e3 := S4.c3
  have S4 := Lib.hid S4
  go_quiet (fail)
  have ec : (if (if (left.size : Int) < if m < n then m else n then (left.size : Int) else if m < n then m else n) < 0 then 0 else if (left.size : Int) < if m < n then m else n then (left.size : Int) else if m < n then m else n) = (came n m left.size : Int) := by unfold came; omega
  rw [ec]
  clear ec
  generalize (if (left.size : Int) < if m < n then m else n then (left.size : Int) else if m < n then m else n) = mm
  have hc := came_le n m left.size
  generalize hcc : came n m left.size = c at hc ⊢
  have HCC := Lib.hid hcc
  clear hcc
  have e0 : (w4.drewN nq).cell? ⟨b, 0, none⟩ = some (.string left) := e0
  have e3 : (w4.drewN nq).cell? ⟨b, 3, none⟩ = some (.int .i64 given) := e3
  have f0 : (w4.drewN nq).frozen? ⟨b, 0, none⟩ = false := S4.out.fr 0 (by omega)
  have f2 : (w4.drewN nq).frozen? ⟨b, 2, none⟩ = false := S4.out.fr 2 (by omega)
  have f3 : (w4.drewN nq).frozen? ⟨b, 3, none⟩ = false := S4.out.fr 3 (by omega)
  have HB : Hid (b < q) := lb3
  have e2 : (w4.drewN nq).cell? ⟨b, 2, none⟩ = some (.int .i64 0) := e2
  have m1 : (w4.drewN nq).cell? ⟨q, 1, none⟩ = some (.int .i64 k) := m1
  by_cases k2 : k = 2
  · subst k2
    have S6 := Lib.hid ((((S4.out.drewN nq).setLeft (left.extract c left.size)).setGiven (given + c)).setOver 2)
    have K6 := Lib.hid ((((K5.out.drewN nq).setIn (b := b) (o := 0) (s := none) (u := .string (left.extract c left.size))).setIn (b := b) (o := 3) (s := none) (u := .int .i64 (given + c))).setIn (b := b) (o := 2) (s := none) (u := .int .i64 2))
    go_wp2_with fail
    go_quiet (fail)
    go_wp2
    have hf : fin 2 (left.size - c) = 2 := by unfold fin; simp
    obtain rfl := HCC.out
    rw [hf]
    refine bodyPost_ret (v := .tuple #[.string (left.extract 0 (came n m left.size)), .int .i64 2]) (by simp [results, Try.results17, go_sem]) rfl ⟨rfl, ?_, ?_⟩
    · exact S6.out.drewN _
    · exact K6.out.drewN _
  · by_cases k1 : k = 1
    · subst k1
      by_cases hz : c = left.size
      · have hy : (left.extract c left.size).toList.isEmpty = true := by rw [hz]; simp
        have HZ := Lib.hid hz
        clear hz
        have S6 := Lib.hid ((((S4.out.drewN nq).setLeft (left.extract c left.size)).setGiven (given + c)).setOver 1)
        have K6 := Lib.hid ((((K5.out.drewN nq).setIn (b := b) (o := 0) (s := none) (u := .string (left.extract c left.size))).setIn (b := b) (o := 3) (s := none) (u := .int .i64 (given + c))).setIn (b := b) (o := 2) (s := none) (u := .int .i64 1))
        go_wp2_with fail
        go_quiet (fail)
        go_wp2
        have hf : fin 1 (left.size - c) = 1 := by have := HZ.out; unfold fin; simp; omega
        obtain rfl := HCC.out
        rw [hf]
        refine bodyPost_ret (v := .tuple #[.string (left.extract 0 (came n m left.size)), .int .i64 1]) (by simp [results, Try.results17, go_sem]) rfl ⟨rfl, ?_, ?_⟩
        · exact S6.out.drewN _
        · exact K6.out.drewN _
      · have hy : (left.extract c left.size).toList.isEmpty = false := by
          rw [ByteArray.toList_eq]
          cases e : (left.extract c left.size).data.toList with
          | nil => have h1 : (left.extract c left.size).data.toList.length = (left.extract c left.size).size := by rw [Array.length_toList]; rfl
                   rw [e, ByteArray.size_extract] at h1; simp at h1; omega
          | cons _ _ => rfl
        have S6 := Lib.hid ((((S4.out.drewN nq).setLeft (left.extract c left.size)).setGiven (given + c)))
        have K6 := Lib.hid (((K5.out.drewN nq).setIn (b := b) (o := 0) (s := none) (u := .string (left.extract c left.size))).setIn (b := b) (o := 3) (s := none) (u := .int .i64 (given + c)))
        go_wp2_with fail
        go_quiet (fail)
        go_wp2
        have hf : fin 1 (left.size - c) = 0 := by unfold fin; rw [if_neg (by omega), if_neg (by omega)]
        obtain rfl := HCC.out
        rw [hf]
        refine bodyPost_ret (v := .tuple #[.string (left.extract 0 (came n m left.size)), .int .i64 0]) (by simp [results, Try.results17, go_sem]) rfl ⟨rfl, ?_, ?_⟩
        · exact S6.out.drewN _
        · exact K6.out.drewN _
    · have k2' : (k == 2) = false := by simp; exact k2
      have k1' : (k == 1) = false := by simp; exact k1
      have S6 := Lib.hid ((((S4.out.drewN nq).setLeft (left.extract c left.size)).setGiven (given + c)))
      have K6 := Lib.hid (((K5.out.drewN nq).setIn (b := b) (o := 0) (s := none) (u := .string (left.extract c left.size))).setIn (b := b) (o := 3) (s := none) (u := .int .i64 (given + c)))
      go_wp2_with fail
      go_quiet (fail)
      go_wp2
      have hf : fin k (left.size - c) = 0 := by unfold fin; rw [if_neg k2, if_neg (fun h => k1 h.1)]
      obtain rfl := HCC.out
      rw [hf]
      refine bodyPost_ret (v := .tuple #[.string (left.extract 0 (came n m left.size)), .int .i64 0]) (by simp [results, Try.results17, go_sem]) rfl ⟨rfl, ?_, ?_⟩
      · exact S6.out.drewN _
      · exact K6.out.drewN _
end Go.Proofs.Ytakhdkfcnanglaa.Obj
