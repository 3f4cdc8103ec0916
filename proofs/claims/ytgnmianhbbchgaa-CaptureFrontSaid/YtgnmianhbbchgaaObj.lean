/- What a capture holds in memory, and the contracts of its methods (layer 17). -/
import Derived.Test.YtgnmianhbbchgaaProg
import Derived.WalkKit
import Derived.WalkLawsBesides
import Derived.WalkSpells
import Derived.Lib.Hide
import Derived.Lib.SliceRun
import Derived.Deep.QuietTactic
import Derived.BigQuiet
import Derived.BigRegion
namespace Go.Proofs.Ytgnmianhbbchgaa.Obj
open Go.RowKit
set_option linter.unusedVariables false

/-- All blocks that were there, but for those of S, are as they were. -/
structure Kept (S : Nat → Prop) (w w' : World) : Prop where
  os : w'.os = w.os
  tape : w'.tape = w.tape
  output : w'.output = w.output
  size : w.heap.size ≤ w'.heap.size
  block : ∀ k, k < w.heap.size → ¬S k → w'.heap[k]? = w.heap[k]?
theorem Kept.refl (S : Nat → Prop) (w : World) : Kept S w w := ⟨rfl, rfl, rfl, Nat.le_refl _, fun _ _ _ => rfl⟩
theorem Kept.trans {S : Nat → Prop} {a b c : World} (h : Kept S a b) (k : Kept S b c) : Kept S a c :=
  ⟨k.os.trans h.os, k.tape.trans h.tape, k.output.trans h.output, Nat.le_trans h.size k.size, fun i hi hs => (k.block i (Nat.lt_of_lt_of_le hi h.size) hs).trans (h.block i hi hs)⟩
theorem Kept.mono {S T : Nat → Prop} {w w' : World} (h : Kept S w w') (hST : ∀ k, S k → T k) : Kept T w w' := ⟨h.os, h.tape, h.output, h.size, fun k hk hs => h.block k hk (fun e => hs (hST k e))⟩
theorem Kept.drew {S : Nat → Prop} {a w : World} (h : Kept S a w) : Kept S a w.drew := ⟨h.os, h.tape, h.output, h.size, h.block⟩
theorem Kept.drewN {S : Nat → Prop} {a w : World} (h : Kept S a w) (n : Nat) : Kept S a (w.drewN n) := ⟨h.os, h.tape, h.output, h.size, h.block⟩
theorem Kept.setCell {S : Nat → Prop} {a w : World} (h : Kept S a w) {p : Addr} (hp : S p.block) (u : Value) : Kept S a (w.setCell p u) :=
  h.trans ⟨rfl, rfl, rfl, by simp [World.setCell], fun k hk hs => Below.heap_setCell _ _ _ _ (fun e => hs (e ▸ hp))⟩
theorem Kept.setIn {b o : Nat} {s : _} {u : Value} {a w : World} (h : Kept (· = b) a w) : Kept (· = b) a (w.setCell ⟨b, o, s⟩ u) := h.setCell rfl u
theorem Kept.alloc {S : Nat → Prop} {a w : World} (h : Kept S a w) (o : Obj) : Kept S a (w.alloc o) :=
  h.trans ⟨rfl, rfl, rfl, by simp, fun k hk _ => Below.heap_alloc _ _ _ hk⟩
theorem Kept.of_below {w w' : World} (h : Below w.heap.size w w') (S : Nat → Prop) : Kept S w w' := ⟨h.os, h.tape, h.output, h.size, fun k hk _ => h.block k hk⟩
/-- What only new blocks have turned leaves what was below. -/
theorem Kept.below {S : Nat → Prop} {w w1 w2 : World} (h : Below w.heap.size w w1) (k : Kept S w1 w2) (hS : ∀ i, S i → w.heap.size ≤ i) : Below w.heap.size w w2 :=
  ⟨k.os.trans h.os, k.tape.trans h.tape, k.output.trans h.output, Nat.le_trans h.size k.size, fun i hi => (k.block i (Nat.lt_of_lt_of_le hi h.size) (fun e => by have := hS i e; omega)).trans (h.block i hi)⟩

theorem cs_same {w : World} {a : Addr} {u v : Value} (h : w.cell? a = some u) : (w.setCell a v).cell? a = some v := World.cell?_setCell_same w a v h
theorem cs_other {w : World} {a b : Addr} {v : Value} (h : a ≠ b) : (w.setCell a v).cell? b = w.cell? b := World.cell?_setCell_other w a b v h
theorem lt_cell {w : World} {b o : Nat} {v : Value} (h : w.cell? ⟨b, o, none⟩ = some v) : b < w.heap.size := by
  unfold World.cell? at h
  by_cases hb : b < w.heap.size
  · exact hb
  · rw [Array.getElem?_eq_none (by simpa using hb)] at h
    simp at h
theorem step {a b c : World} (h1 : Below a.heap.size a b) (h2 : Below b.heap.size b c) : Below a.heap.size a c := h1.trans (h2.mono h1.size)

/-- A capture at block b, its row at block g. -/
structure Cap (w : World) (b g : Nat) (l : List Int) (on : Bool) (most : Nat) : Prop where
  c0 : w.cell? ⟨b, 0, none⟩ = some (.slice (some ⟨g, 0, none⟩) l.length most)
  c1 : w.cell? ⟨b, 1, none⟩ = some (.bool on)
  f0 : w.frozen? ⟨b, 0, none⟩ = false
  f1 : w.frozen? ⟨b, 1, none⟩ = false
  row : ∃ cur : Array Value, w.heap[g]? = some (.cells cur 5 (0, 0)) ∧ cur.size = most ∧ cur.toList.take l.length = l.map (Value.int .u8)
  len : l.length ≤ most
  m : most ≤ 65536
  ne : b ≠ g
  lb : b < w.heap.size
  lg : g < w.heap.size

theorem Cap.keep {S : Nat → Prop} {w w' : World} {b g most : Nat} {l : List Int} {on : Bool} (h : Cap w b g l on most) (k : Kept S w w') (hb : ¬S b) (hg : ¬S g) : Cap w' b g l on most := by
  have e := k.block b h.lb hb
  have e2 := k.block g h.lg hg
  refine ⟨(World.cell?_of_block (w := w) e).trans h.c0, (World.cell?_of_block (w := w) e).trans h.c1, (World.frozen?_of_block (w := w) e).trans h.f0, (World.frozen?_of_block (w := w) e).trans h.f1, ?_, h.len, h.m, h.ne,
    Nat.lt_of_lt_of_le h.lb k.size, Nat.lt_of_lt_of_le h.lg k.size⟩
  obtain ⟨cur, h1, h2⟩ := h.row
  exact ⟨cur, e2.trans h1, h2⟩
theorem Cap.drew {w : World} {b g most : Nat} {l : List Int} {on : Bool} (h : Cap w b g l on most) : Cap w.drew b g l on most := ⟨h.c0, h.c1, h.f0, h.f1, h.row, h.len, h.m, h.ne, h.lb, h.lg⟩
theorem Cap.drewN {w : World} {b g most : Nat} {l : List Int} {on : Bool} (h : Cap w b g l on most) (n : Nat) : Cap (w.drewN n) b g l on most := ⟨h.c0, h.c1, h.f0, h.f1, h.row, h.len, h.m, h.ne, h.lb, h.lg⟩
theorem heap_other (w : World) (p : Addr) (v : Value) (g : Nat) (h : g ≠ p.block) : (w.setCell p v).heap[g]? = w.heap[g]? := Below.heap_setCell _ _ _ _ h
theorem Cap.setOn {w : World} {b g most : Nat} {l : List Int} {on : Bool} (h : Cap w b g l on most) (on' : Bool) : Cap (w.setCell ⟨b, 1, none⟩ (.bool on')) b g l on' most where
  c0 := (cs_other (by simp)).trans h.c0
  c1 := cs_same h.c1
  f0 := by rw [World.frozen?_setCell]; exact h.f0
  f1 := by rw [World.frozen?_setCell]; exact h.f1
  row := by
    obtain ⟨cur, h1, h2⟩ := h.row
    exact ⟨cur, (heap_other _ _ _ _ (fun e => h.ne e.symm)).trans h1, h2⟩
  len := h.len
  m := h.m
  ne := h.ne
  lb := by rw [World.size_setCell]; exact h.lb
  lg := by rw [World.size_setCell]; exact h.lg

theorem Cap.cell {w : World} {b g most : Nat} {l : List Int} {on : Bool} (h : Cap w b g l on most) : ∀ j, j < l.length → w.cell? ⟨g, j, none⟩ = some (.int .u8 (l.getD j 0)) := by
  intro j hj
  obtain ⟨cur, h1, h2, h3⟩ := h.row
  have hl := h.len
  have hjc : j < cur.size := by omega
  have e : cur[j]? = some (.int .u8 (l.getD j 0)) := by
    have e1 : (cur.toList.take l.length)[j]? = (l.map (Value.int .u8))[j]? := by rw [h3]
    rw [List.getElem?_take_of_lt hj, List.getElem?_map, Array.getElem?_toList] at e1
    rw [e1]
    simp [List.getD, List.getElem?_eq_getElem hj]
  unfold World.cell?
  rw [h1]
  simpa using e
theorem Cap.frozen {w : World} {b g most : Nat} {l : List Int} {on : Bool} (h : Cap w b g l on most) (j : Nat) : w.frozen? ⟨g, j, none⟩ = false := by
  obtain ⟨cur, h1, h2, h3⟩ := h.row
  unfold World.frozen?
  rw [h1]
  simp

theorem info5 : (Try.prog.info? 5).map (fun i => (i.zero, i.size, i.bytes)) = some (some (.int .u8 0), 1, 1) := by kernel_rfl

/-! ### Room, On, Text, End -/
set_option maxHeartbeats 400000 in
theorem room_c (b g most : Nat) (l : List Int) (on : Bool) (w : World) (h : Cap w b g l on most) :
    Calls Try.prog 13 #[.pointer (some ⟨b, 0, none⟩)] w fun e w' => e = .returned (.int .i64 ((most : Int) - l.length)) ∧ Cap w' b g l on most ∧ Kept (fun _ => False) w w' := by
  have H := h
  obtain ⟨c0, c1, f0, f1, row, len, m, ne, lb, lg⟩ := h
  clear row
  go_enter Try.func13, Try.ntmps13
  go_wp2
  go_quiet (fail)
  go_wp2
  go_ret
  exact ⟨rfl, by repeat (first | exact H | apply Cap.drew | apply Cap.drewN), by repeat (first | exact Kept.refl _ _ | apply Kept.drew | apply Kept.drewN)⟩

theorem on_c (b g most : Nat) (l : List Int) (on : Bool) (w : World) (h : Cap w b g l on most) :
    Calls Try.prog 11 #[.pointer (some ⟨b, 0, none⟩)] w fun e w' => e = .returned (.bool on) ∧ w = w' := by
  have c1 := h.c1
  go_enter Try.func11, Try.ntmps11
  go_wp2
  go_ret
  exact ⟨rfl, rfl⟩

theorem text_c (b g most : Nat) (l : List Int) (on : Bool) (w : World) (h : Cap w b g l on most) :
    Calls Try.prog 12 #[.pointer (some ⟨b, 0, none⟩)] w fun e w' => e = .returned (.string (strOfNums l)) ∧ w = w' := by
  have c0 := h.c0
  have hcell := h.cell
  have hl := h.len
  have hm := h.m
  have hcv := run_convert_bytes_arg (P := Try.prog) (w := w) 44 5 Try.underlying44 Try.underlying5 g 0 l.length most l rfl (fun i hi => by simpa using hcell i hi) 9 Try.underlying9
  clear hcell
  go_enter Try.func12, Try.ntmps12
  go_wp2
  go_ret
  exact ⟨rfl, rfl⟩

theorem end_c (b g most : Nat) (l : List Int) (on : Bool) (w : World) (h : Cap w b g l on most) :
    Calls Try.prog 17 #[.pointer (some ⟨b, 0, none⟩)] w fun e w' => e = .returned (.tuple #[]) ∧ Cap w' b g l false most ∧ Kept (· = b) w w' := by
  have H := h
  have c1 := h.c1
  have f1 := h.f1
  go_enter Try.func17, Try.ntmps17
  go_wp2
  go_end0
  exact ⟨rfl, H.setOn false, Kept.setIn (Kept.refl _ _)⟩

/-! ### Push -/
theorem push_off (b g most : Nat) (l : List Int) (v : Int) (w : World) (h : Cap w b g l false most) :
    Calls Try.prog 10 #[.pointer (some ⟨b, 0, none⟩), .int .u8 v] w fun e w' => e = .returned (.int .i64 0) ∧ w = w' := by
  have c1 := h.c1
  go_enter Try.func10, Try.ntmps10
  go_wp2
  go_ret
  exact ⟨rfl, rfl⟩

set_option maxHeartbeats 400000 in
theorem push_full (b g : Nat) (l : List Int) (v : Int) (w : World) (h : Cap w b g l true l.length) :
    Calls Try.prog 10 #[.pointer (some ⟨b, 0, none⟩), .int .u8 v] w fun e w' => e = .returned (.int .i64 11) ∧ Cap w' b g l false l.length ∧ Kept (· = b) w w' := by
  have c1 := h.c1
  go_enter Try.func10, Try.ntmps10
  go_wp2_with fail
  have C := room_c b g _ l true _ h
  rw [Int.sub_self] at C
  refine C.mono ?_
  rintro e w1 ⟨rfl, H, K⟩
  have d1 := H.c1
  have g1 := H.f1
  go_wp2_with fail
  go_ret
  exact ⟨rfl, H.setOn false, Kept.setIn (K.mono (fun _ h => h.elim))⟩

set_option maxHeartbeats 400000 in
theorem push_ok (b g most : Nat) (l : List Int) (v : Int) (w : World) (h : Cap w b g l true most) (hl : l.length < most) :
    Calls Try.prog 10 #[.pointer (some ⟨b, 0, none⟩), .int .u8 v] w fun e w' => e = .returned (.int .i64 0) ∧ Cap w' b g (l ++ [v]) true most ∧ Kept (fun k => k = b ∨ k = g) w w' := by
  have c1 := h.c1
  go_enter Try.func10, Try.ntmps10
  go_wp2_with fail
  refine (room_c b g _ l true _ h).mono ?_
  rintro e w1 ⟨rfl, H, K⟩
  have KK := Lib.hid K
  clear K
  have d0 := H.c0
  have d1 := H.c1
  have g1 := H.f1
  have t1 : ((most : Int) - (l.length : Int) == 0) = false := by simp; omega
  have hm := H.m
  have hbg := H.ne
  have lb := H.lb
  have lg := H.lg
  obtain ⟨i0, hi, hz0, hz1, hz2⟩ := info_parts info5
  have hown : w1.ownsRow 0 5 1 (.slice (some ⟨g, 0, none⟩) l.length most) l.length (l.map (Value.int .u8)) := by
    obtain ⟨cur, h1, h2, h3⟩ := H.row
    exact ⟨by simp, .inr ⟨g, most, cur, rfl, Nat.zero_le _, h1, H.len, by unfold maxLen; omega, by omega, by simpa using h3⟩⟩
  go_wp2_with (at_builtin; refine wpList_append_fits _ rfl (.tmp 22) (.tmp 24) 44 rfl 0 5 i0 1 Try.underlying44 hi hz1 g l.length most _ rfl (hown.alloc _) ⟨w1.heap.size, 0, none⟩ 1 1 [.int .u8 v] rfl rfl ?c1 ?c2 ?c3 ?_)
  case c1 =>
    intro j u hj
    match j, hj with
    | 0, hj => simp at hj; subst hj; simp [Addr.add]
  case c2 => intro u hu; simp at hu; subst hu; rfl
  case c3 => omega
  intro w2 hown2 hgrow
  have e0 : w2.cell? ⟨b, 0, none⟩ = some (.slice (some ⟨g, 0, none⟩) l.length most) := by
    refine (World.cell?_of_block (w := w1.alloc _) (hgrow.block b (by simp; omega) (by simp [hbg]))).trans ?_
    rw [World.cell?_alloc_lt _ _ _ lb]
    exact H.c0
  have e1 : w2.cell? ⟨b, 1, none⟩ = some (.bool true) := by
    refine (World.cell?_of_block (w := w1.alloc _) (hgrow.block b (by simp; omega) (by simp [hbg]))).trans ?_
    rw [World.cell?_alloc_lt _ _ _ lb]
    exact H.c1
  have z0 : w2.frozen? ⟨b, 0, none⟩ = false := by
    refine (World.frozen?_of_block (w := w1.alloc _) (hgrow.block b (by simp; omega) (by simp [hbg]))).trans ?_
    rw [World.frozen?_alloc_old _ _ _ (by simp; omega)]
    exact H.f0
  have z1 : w2.frozen? ⟨b, 1, none⟩ = false := by
    refine (World.frozen?_of_block (w := w1.alloc _) (hgrow.block b (by simp; omega) (by simp [hbg]))).trans ?_
    rw [World.frozen?_alloc_old _ _ _ (by simp; omega)]
    exact H.f1
  have HO := Lib.hid hown2
  have HG := Lib.hid hgrow
  clear hown2 hgrow hown
  go_wp2_with fail
  go_ret
  refine ⟨rfl, ?_, ?_⟩
  · obtain ⟨_, hh⟩ := HO.out
    rcases hh with ⟨hh, _⟩ | ⟨g', cap, cur, hv, _, hb2, hle, _, hsz, htk⟩
    · simp at hh
    · simp at hv
      obtain ⟨rfl, rfl⟩ := hv
      refine ⟨by rw [cs_same e0]; simp, (cs_other (by simp)).trans e1, by rw [World.frozen?_setCell]; exact z0, by rw [World.frozen?_setCell]; exact z1,
        ⟨cur, (heap_other _ _ _ _ (fun e => hbg e.symm)).trans hb2, by omega, by simpa using htk⟩, by simp; omega, hm, hbg, ?_, ?_⟩
      · rw [World.size_setCell]; exact lt_cell e0
      · rw [World.size_setCell]; have := HG.out.size; simp at this; omega
  · refine Kept.setCell ?_ (Or.inl rfl) _
    have k1 := KK.out.mono (T := fun k => k = b ∨ k = g) (fun _ h => h.elim)
    refine (k1.alloc (.cells #[.int .u8 v] 5)).trans ?_
    have hg' := HG.out
    exact ⟨hg'.os, hg'.tape, hg'.output, hg'.size, fun k hk hs => hg'.block k hk (by simp; intro e; exact hs (Or.inr e))⟩

/-! ### New -/
def clamp (d : Int) : Nat := if d < 0 then 0 else if 65536 < d then 65536 else d.toNat
def row0 (c : Nat) : Array Value := madeCells #[.int .u8 0] c
theorem row0_size (c : Nat) : (row0 c).size = c := size_madeCells _ _
theorem make_c (c : Nat) (hc : c ≤ 65536) (w : World) : (Instr.makeSlice 44 (.int .i64 0) (.int .i64 (c : Int))).run Try.prog w = .ok (.slice (some ⟨w.heap.size, 0, none⟩) 0 c) (w.alloc (.cells (row0 c) 5)) := by
  obtain ⟨i0, hi, hz0, hz1, hz2⟩ := info_parts info5
  have h := run_make (P := Try.prog) w 44 5 i0 (.int .u8 0) Try.underlying44 hi hz0 .i64 .i64 0 (c : Int) (Int.le_refl _) (by omega) (by rw [hz2]; omega) (by omega)
  rw [hz1] at h
  simpa [Value.cells, row0] using h
theorem cap_new (c : Nat) (hc : c ≤ 65536) (w : World) : Cap ((w.alloc (.cells (row0 c) 5)).alloc (.cells #[.slice (some ⟨w.heap.size, 0, none⟩) 0 c, .bool false] 46)) (w.heap.size + 1) w.heap.size [] false c where
  c0 := by simp
  c1 := by simp
  f0 := World.frozen?_alloc_at _ _ _ _ (by simp)
  f1 := World.frozen?_alloc_at _ _ _ _ (by simp)
  row := ⟨row0 c, by
    rw [Below.heap_alloc _ _ _ (by simp)]
    exact heap_alloc_new w _, row0_size c, by simp⟩
  len := Nat.zero_le _
  m := hc
  ne := by omega
  lb := by simp
  lg := by simp; omega

set_option maxHeartbeats 400000 in
theorem new_c (d : Int) (w : World) :
    Calls Try.prog 7 #[.int .i64 d] w fun e w' => e = .returned (.pointer (some ⟨w.heap.size + 1, 0, none⟩)) ∧ Cap w' (w.heap.size + 1) w.heap.size [] false (clamp d) ∧ Kept (fun _ => False) w w' := by
  rcases Int.lt_or_le d 0 with h | h
  · have e : clamp d = 0 := by unfold clamp; rw [if_pos h]
    rw [e]
    have hmk := make_c 0 (by omega)
    rw [show ((0 : Nat) : Int) = 0 from rfl] at hmk
    have HC := Lib.hid (cap_new 0 (by omega) w)
    clear e
    go_enter Try.func7, Try.ntmps7
    go_wp2
    go_ret
    exact ⟨rfl, HC.out, ((Kept.refl _ w).alloc _).alloc _⟩
  · rcases Int.lt_or_le 65536 d with h2 | h2
    · have h3 : ¬d < 65536 := by omega
      have e : clamp d = 65536 := by unfold clamp; rw [if_neg (by omega), if_pos h2]
      rw [e]
      have hmk := make_c 65536 (by omega)
      rw [show ((65536 : Nat) : Int) = 65536 from rfl] at hmk
      have HC := Lib.hid (cap_new 65536 (by omega) w)
      clear e
      go_enter Try.func7, Try.ntmps7
      go_wp2
      go_ret
      exact ⟨rfl, HC.out, ((Kept.refl _ w).alloc _).alloc _⟩
    · obtain ⟨m, rfl⟩ : ∃ m : Nat, d = m := ⟨d.toNat, by omega⟩
      have e : clamp m = m := by unfold clamp; rw [if_neg (by omega), if_neg (by omega)]; omega
      rw [e]
      have hmk := make_c m (by omega)
      have HC := Lib.hid (cap_new m (by omega) w)
      clear e
      go_enter Try.func7, Try.ntmps7
      go_wp2
      go_ret
      exact ⟨rfl, HC.out, ((Kept.refl _ w).alloc _).alloc _⟩

/-! ### Begin -/
theorem zero5 (w : World) : (zeroValue 5).run Try.prog w = .ok (.int .u8 0) w := by kernel_rfl
theorem clear0 (g most : Nat) (ty : TypeId) (w : World) : (Builtin.clear_ #[44] ty #[.slice (some ⟨g, 0, none⟩) 0 most]).run Try.prog w = .ok (.tuple #[]) w := by
  simp [Builtin.clear_, run_underlying Try.underlying44]

/-- what Begin leaves, and tells -/
def bl (s : ByteArray) : List Int := s.data.toList.map fun b => (b.toNat : Int)
theorem bl_length (s : ByteArray) : (bl s).length = s.size := by simp [bl]
theorem bl_snoc (s : ByteArray) (k : Nat) (h : k < s.size) : (bl s).take (k + 1) = (bl s).take k ++ [((s[k]'h).toNat : Int)] := by
  rw [List.take_succ_eq_append_getElem (by rw [bl_length]; exact h)]
  congr 1
  simp [bl]
  rfl

theorem clear_row (w : World) (b g most : Nat) (l : List Int) (on : Bool) (h : Cap w b g l on most) (hl : 0 < l.length) (ty : TypeId) :
    (Builtin.clear_ #[44] ty #[.slice (some ⟨g, 0, none⟩) l.length most]).run Try.prog w = .ok (.tuple #[]) (w.setCells g 0 (List.replicate l.length (.int .u8 0))) :=
  Lib.run_clear_slice w 44 5 ty (.int .u8 0) Try.underlying44 zero5 rfl rfl g 0 l.length most hl (fun j hj => by rw [Nat.zero_add, h.cell j hj]; rfl) (fun j hj => h.frozen _)

theorem setCells_heap (g : Nat) : ∀ (vs : List Value) (o : Nat) (w : World) (i : Nat), i ≠ g → (w.setCells g o vs).heap[i]? = w.heap[i]?
  | [], _, _, _, _ => rfl
  | v :: r, o, w, i, h => (setCells_heap g r (o + 1) _ i h).trans (heap_other _ _ _ _ h)
theorem setCells_kept (g : Nat) : ∀ (vs : List Value) (o : Nat) (w : World), Kept (· = g) w (w.setCells g o vs)
  | [], _, w => Kept.refl _ w
  | v :: r, o, w => (Kept.setIn (Kept.refl _ w)).trans (setCells_kept g r (o + 1) _)
theorem setCells_row (g : Nat) : ∀ (vs : List Value) (o : Nat) (w : World) (cur : Array Value), w.heap[g]? = some (.cells cur 5 (0, 0)) → ∃ cur' : Array Value, (w.setCells g o vs).heap[g]? = some (.cells cur' 5 (0, 0)) ∧ cur'.size = cur.size
  | [], _, _, cur, h => ⟨cur, h, rfl⟩
  | v :: r, o, w, cur, h => by
    obtain ⟨cur', h1, h2⟩ := setCells_row g r (o + 1) (w.setCell ⟨g, o, none⟩ v) (cur.setIfInBounds o v) (by simp [World.setCell, Array.getElem?_modify, h])
    exact ⟨cur', h1, by simpa using h2⟩

theorem clear_any (w : World) (b g most : Nat) (l : List Int) (on : Bool) (h : Cap w b g l on most) : ∃ w1, (∀ ty, (Builtin.clear_ #[44] ty #[.slice (some ⟨g, 0, none⟩) l.length most]).run Try.prog w = .ok (.tuple #[]) w1) ∧
    Kept (· = g) w w1 ∧ ∃ cur : Array Value, w1.heap[g]? = some (.cells cur 5 (0, 0)) ∧ cur.size = most := by
  obtain ⟨cur, h1, h2, _⟩ := h.row
  cases l with
  | nil => exact ⟨w, fun ty => clear0 g most ty w, Kept.refl _ w, cur, h1, h2⟩
  | cons x r =>
    obtain ⟨cur', h3, h4⟩ := setCells_row g (List.replicate (x :: r).length (.int .u8 0)) 0 w cur h1
    exact ⟨_, fun ty => clear_row w b g most (x :: r) on h (by simp) ty, setCells_kept g _ 0 w, cur', h3, by omega⟩

set_option maxHeartbeats 1000000 in
theorem begin_fits (b g most : Nat) (l : List Int) (on : Bool) (s : ByteArray) (w : World) (h : Cap w b g l on most) (hs : s.size ≤ most) :
    Calls Try.prog 9 #[.pointer (some ⟨b, 0, none⟩), .string s] w fun e w' => e = .returned (.int .i64 0) ∧ Cap w' b g (bl s) true most ∧ Kept (fun k => k = b ∨ k = g) w w' := by
  obtain ⟨w1, hclr, K1, cur, hr1, hr2⟩ := clear_any w b g most l on h
  have c0 := h.c0
  have hm := h.m
  have ne := h.ne
  have eb := K1.block b h.lb h.ne
  have d0 : w1.cell? ⟨b, 0, none⟩ = some (.slice (some ⟨g, 0, none⟩) l.length most) := (World.cell?_of_block (w := w) eb).trans h.c0
  have d1 : w1.cell? ⟨b, 1, none⟩ = some (.bool on) := (World.cell?_of_block (w := w) eb).trans h.c1
  have e0 : w1.frozen? ⟨b, 0, none⟩ = false := (World.frozen?_of_block (w := w) eb).trans h.f0
  have e1 : w1.frozen? ⟨b, 1, none⟩ = false := (World.frozen?_of_block (w := w) eb).trans h.f1
  have hl := h.len
  have C2 : Hid (Cap ((w1.setCell ⟨b, 0, none⟩ (.slice (some ⟨g, 0, none⟩) 0 most)).setCell ⟨b, 1, none⟩ (.bool true)) b g [] true most) := by
    refine ⟨?_, ?_, ?_, ?_, ⟨cur, ?_, hr2, by simp⟩, Nat.zero_le _, hm, ne, ?_, ?_⟩
    · exact (cs_other (by simp)).trans (cs_same d0)
    · exact cs_same ((cs_other (by simp)).trans d1)
    · rw [World.frozen?_setCell, World.frozen?_setCell]; exact e0
    · rw [World.frozen?_setCell, World.frozen?_setCell]; exact e1
    · exact (heap_other _ _ _ _ (fun e => ne e.symm)).trans ((heap_other _ _ _ _ (fun e => ne e.symm)).trans hr1)
    · rw [World.size_setCell, World.size_setCell]; exact lt_cell d0
    · rw [World.size_setCell, World.size_setCell]; exact Nat.lt_of_lt_of_le h.lg K1.size
  have KK : Hid (Kept (fun k => k = b ∨ k = g) w ((w1.setCell ⟨b, 0, none⟩ (.slice (some ⟨g, 0, none⟩) 0 most)).setCell ⟨b, 1, none⟩ (.bool true))) :=
    ((K1.mono (T := fun k => k = b ∨ k = g) (fun _ h => Or.inr h)).setCell (Or.inl rfl) _).setCell (Or.inl rfl) _
  clear h hr1 eb
  clear K1
  go_enter Try.func9, Try.ntmps9
  go_wp2
  go_loopw [24] (fun i wr => ∃ k : Nat, k ≤ s.size ∧ k ≤ most ∧ i = .int .i64 k ∧ Cap wr b g ((bl s).take k) true most ∧ Kept (fun k => k = b ∨ k = g) w wr) (fun i _ => s.size - (intOf i).toNat)
  case atStart => exact ⟨0, Nat.zero_le _, Nat.zero_le _, rfl, C2.out, KK.out⟩
  case round =>
    obtain ⟨k, hk, hkm, rfl, S, K⟩ := hrel
    have K0 := Lib.hid K
    clear K
    have hll : ((bl s).take k).length = k := by rw [List.length_take, bl_length]; omega
    by_cases hlt : k < s.size
    · have t1 : (k : Int) < (s.size : Int) := by omega
      have hsn := bl_snoc s k hlt
      have HS := Lib.hid hsn
      clear hsn
      go_wp2_with fail
      refine (push_ok b g most _ _ _ S (by omega)).mono ?_
      rintro e w3 ⟨rfl, S3, K3⟩
      have K4 := Lib.hid (K0.out.trans K3)
      clear K3
      go_wp2_with fail
      go_roundw
      case rel => exact ⟨k + 1, by omega, by omega, by go_num, by rw [HS.out]; exact S3, K4.out⟩
      case measure => simp [intOf]; omega
    · obtain rfl : k = s.size := by omega
      have t1 : ¬(s.size : Int) < (s.size : Int) := by omega
      rw [List.take_of_length_le (by rw [bl_length]; omega)] at S
      go_wp2_with fail
      go_ret
      exact ⟨rfl, S, K0.out⟩

set_option maxHeartbeats 1000000 in
theorem begin_over (b g most : Nat) (l : List Int) (on : Bool) (s : ByteArray) (w : World) (h : Cap w b g l on most) (hs : most < s.size) :
    Calls Try.prog 9 #[.pointer (some ⟨b, 0, none⟩), .string s] w fun e w' => e = .returned (.int .i64 11) ∧ Cap w' b g ((bl s).take most) false most ∧ Kept (fun k => k = b ∨ k = g) w w' := by
  obtain ⟨w1, hclr, K1, cur, hr1, hr2⟩ := clear_any w b g most l on h
  have c0 := h.c0
  have hm := h.m
  have ne := h.ne
  have eb := K1.block b h.lb h.ne
  have d0 : w1.cell? ⟨b, 0, none⟩ = some (.slice (some ⟨g, 0, none⟩) l.length most) := (World.cell?_of_block (w := w) eb).trans h.c0
  have d1 : w1.cell? ⟨b, 1, none⟩ = some (.bool on) := (World.cell?_of_block (w := w) eb).trans h.c1
  have e0 : w1.frozen? ⟨b, 0, none⟩ = false := (World.frozen?_of_block (w := w) eb).trans h.f0
  have e1 : w1.frozen? ⟨b, 1, none⟩ = false := (World.frozen?_of_block (w := w) eb).trans h.f1
  have hl := h.len
  have C2 : Hid (Cap ((w1.setCell ⟨b, 0, none⟩ (.slice (some ⟨g, 0, none⟩) 0 most)).setCell ⟨b, 1, none⟩ (.bool true)) b g [] true most) := by
    refine ⟨?_, ?_, ?_, ?_, ⟨cur, ?_, hr2, by simp⟩, Nat.zero_le _, hm, ne, ?_, ?_⟩
    · exact (cs_other (by simp)).trans (cs_same d0)
    · exact cs_same ((cs_other (by simp)).trans d1)
    · rw [World.frozen?_setCell, World.frozen?_setCell]; exact e0
    · rw [World.frozen?_setCell, World.frozen?_setCell]; exact e1
    · exact (heap_other _ _ _ _ (fun e => ne e.symm)).trans ((heap_other _ _ _ _ (fun e => ne e.symm)).trans hr1)
    · rw [World.size_setCell, World.size_setCell]; exact lt_cell d0
    · rw [World.size_setCell, World.size_setCell]; exact Nat.lt_of_lt_of_le h.lg K1.size
  have KK : Hid (Kept (fun k => k = b ∨ k = g) w ((w1.setCell ⟨b, 0, none⟩ (.slice (some ⟨g, 0, none⟩) 0 most)).setCell ⟨b, 1, none⟩ (.bool true))) :=
    ((K1.mono (T := fun k => k = b ∨ k = g) (fun _ h => Or.inr h)).setCell (Or.inl rfl) _).setCell (Or.inl rfl) _
  clear h hr1 eb
  clear K1
  go_enter Try.func9, Try.ntmps9
  go_wp2
  go_loopw [24] (fun i wr => ∃ k : Nat, k ≤ s.size ∧ k ≤ most ∧ i = .int .i64 k ∧ Cap wr b g ((bl s).take k) true most ∧ Kept (fun k => k = b ∨ k = g) w wr) (fun i _ => s.size - (intOf i).toNat)
  case atStart => exact ⟨0, Nat.zero_le _, Nat.zero_le _, rfl, C2.out, KK.out⟩
  case round =>
    obtain ⟨k, hk, hkm, rfl, S, K⟩ := hrel
    have K0 := Lib.hid K
    clear K
    have hll : ((bl s).take k).length = k := by rw [List.length_take, bl_length]; omega
    by_cases hlt : k < s.size
    · have t1 : (k : Int) < (s.size : Int) := by omega
      by_cases hkk : k < most
      · have hsn := bl_snoc s k hlt
        have HS := Lib.hid hsn
        clear hsn
        go_wp2_with fail
        refine (push_ok b g most _ _ _ S (by omega)).mono ?_
        rintro e w3 ⟨rfl, S3, K3⟩
        have K4 := Lib.hid (K0.out.trans K3)
        clear K3
        go_wp2_with fail
        go_roundw
        case rel => exact ⟨k + 1, by omega, by omega, by go_num, by rw [HS.out]; exact S3, K4.out⟩
        case measure => simp [intOf]; omega
      · obtain rfl : k = most := by omega
        have S' : Cap wr b g ((bl s).take k) true ((bl s).take k).length := by rw [hll]; exact S
        go_wp2_with fail
        refine (push_full b g _ _ _ S').mono ?_
        rintro e w3 ⟨rfl, S3, K3⟩
        rw [hll] at S3
        go_wp2_with fail
        go_ret
        exact ⟨rfl, S3, K0.out.trans (K3.mono (fun _ h => Or.inl h))⟩
    · obtain rfl : k = s.size := by omega
      have t1 : ¬(s.size : Int) < (s.size : Int) := by omega
      omega
end Go.Proofs.Ytgnmianhbbchgaa.Obj
