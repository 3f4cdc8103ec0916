/- What a window holds in memory; New (layer 4). -/
import Derived.Test.YtakhdkfcnanglaaRef
import Derived.Test.YtakhdkfcnanglaaFlow
import Derived.Lib.BufferWrite
import Derived.StillTailTactics
namespace Go.Proofs.Ytakhdkfcnanglaa.Win
open Go.RowKit
open Go.Proofs.Ytakhdkfcnanglaa.Obj Go.Proofs.Ytakhdkfcnanglaa.New Go.Proofs.Ytakhdkfcnanglaa.Play Go.Proofs.Ytakhdkfcnanglaa.Ref Go.Proofs.Ytakhdkfcnanglaa.Flow
set_option linter.unusedVariables false

/-- the byte at a place -/
def bt (d : ByteArray) (i : Nat) : Int := ((d.data.getD i 0).toNat : Int)
theorem bt_range (d : ByteArray) (i : Nat) : 0 ≤ bt d i ∧ bt d i ≤ 255 := by
  unfold bt
  have := (d.data.getD i 0).toNat_lt
  omega
theorem bt_part (d : ByteArray) (p c j : Nat) (h : j < c) (hc : p + c ≤ d.size) : (Lib.byteCells (d.extract p (p + c)).data.toList)[j]? = some (.int .u8 (bt d (p + j))) := by
  have hs : (d.extract p (p + c)).data.toList.length = c := by
    rw [Array.length_toList]
    show (d.extract p (p + c)).size = c
    rw [ByteArray.size_extract]
    omega
  have hpj : p + j < d.size := by omega
  unfold Lib.byteCells
  rw [List.getElem?_map, List.getElem?_eq_getElem (by omega)]
  simp only [Option.map_some, ByteArray.data_extract, Array.getElem_toList, Array.getElem_extract]
  congr 3
  simp [Array.getD, hpj]

/-- A window at block b, its bytes in block q, of the source at block sb: p were taken, held are held, from frm on. -/
structure Wb (w : World) (b q sb N Z : Nat) (d : ByteArray) (p held : Nat) (e : Int) (frm : Nat) : Prop where
  c0 : w.cell? ⟨b, 0, none⟩ = some (.pointer (some ⟨sb, 0, none⟩))
  c1 : w.cell? ⟨b, 1, none⟩ = some (.slice (some ⟨q, 0, none⟩) N N)
  c2 : w.cell? ⟨b, 2, none⟩ = some (.int .i64 frm)
  c3 : w.cell? ⟨b, 3, none⟩ = some (.int .i64 ((frm + held : Nat) : Int))
  c4 : w.cell? ⟨b, 4, none⟩ = some (.int .i64 Z)
  c5 : w.cell? ⟨b, 5, none⟩ = some (.int .i64 p)
  c6 : w.cell? ⟨b, 6, none⟩ = some (.int .i64 e)
  fz : ∀ j, j < 7 → w.frozen? ⟨b, j, none⟩ = false
  row : ∃ cur : Array Value, w.heap[q]? = some (.cells cur 5 (0, 0)) ∧ cur.size = N ∧ ∀ j, j < held → cur[frm + j]? = some (.int .u8 (bt d (p + j)))
  room : frm + held ≤ N
  bq : b ≠ q
  lb : b < w.heap.size
  lq : q < w.heap.size
theorem Wb.keep {S : Nat → Prop} {w w' : World} {b q sb N Z : Nat} {d : ByteArray} {p held : Nat} {e : Int} {frm : Nat} (h : Wb w b q sb N Z d p held e frm) (k : Kept S w w') (hb : ¬S b) (hq : ¬S q) : Wb w' b q sb N Z d p held e frm := by
  have e := k.block b h.lb hb
  have e2 := k.block q h.lq hq
  refine ⟨(World.cell?_of_block (w := w) e).trans h.c0, (World.cell?_of_block (w := w) e).trans h.c1, (World.cell?_of_block (w := w) e).trans h.c2, (World.cell?_of_block (w := w) e).trans h.c3, (World.cell?_of_block (w := w) e).trans h.c4, (World.cell?_of_block (w := w) e).trans h.c5, (World.cell?_of_block (w := w) e).trans h.c6,
    fun j hj => (World.frozen?_of_block (w := w) e).trans (h.fz j hj), ?_, h.room, h.bq, Nat.lt_of_lt_of_le h.lb k.size, Nat.lt_of_lt_of_le h.lq k.size⟩
  obtain ⟨cur, h1, h2⟩ := h.row
  exact ⟨cur, e2.trans h1, h2⟩
section
variable {w : World} {b q sb N Z : Nat} {d : ByteArray} {p held : Nat} {e : Int} {frm : Nat}
theorem Wb.drewN (h : Wb w b q sb N Z d p held e frm) (n : Nat) : Wb (w.drewN n) b q sb N Z d p held e frm := ⟨h.c0, h.c1, h.c2, h.c3, h.c4, h.c5, h.c6, h.fz, h.row, h.room, h.bq, h.lb, h.lq⟩
theorem Wb.drew (h : Wb w b q sb N Z d p held e frm) : Wb w.drew b q sb N Z d p held e frm := ⟨h.c0, h.c1, h.c2, h.c3, h.c4, h.c5, h.c6, h.fz, h.row, h.room, h.bq, h.lb, h.lq⟩
theorem Wb.cell (h : Wb w b q sb N Z d p held e frm) : ∀ j, j < held → w.cell? ⟨q, frm + j, none⟩ = some (.int .u8 (bt d (p + j))) := by
  intro j hj
  obtain ⟨cur, h1, h2, h3⟩ := h.row
  unfold World.cell?
  rw [h1]
  simpa using h3 j hj
theorem Wb.row_set (h : Wb w b q sb N Z d p held e frm) (j : Nat) (v : Value) : (w.setCell ⟨b, j, none⟩ v).heap[q]? = w.heap[q]? := heap_other _ _ _ _ (fun e => h.bq e.symm)
theorem Wb.setE (h : Wb w b q sb N Z d p held e frm) (v : Int) : Wb (w.setCell ⟨b, 6, none⟩ (.int .i64 v)) b q sb N Z d p held v frm where
  c0 := (cs_other (by simp)).trans h.c0
  c1 := (cs_other (by simp)).trans h.c1
  c2 := (cs_other (by simp)).trans h.c2
  c3 := (cs_other (by simp)).trans h.c3
  c4 := (cs_other (by simp)).trans h.c4
  c5 := (cs_other (by simp)).trans h.c5
  c6 := cs_same h.c6
  fz := fun j hj => by rw [World.frozen?_setCell]; exact h.fz j hj
  row := by
    obtain ⟨cur, h1, h2⟩ := h.row
    exact ⟨cur, (h.row_set _ _).trans h1, h2⟩
  room := h.room
  bq := h.bq
  lb := by rw [World.size_setCell]; exact h.lb
  lq := by rw [World.size_setCell]; exact h.lq
/-- one more is taken -/
theorem Wb.taken (h : Wb w b q sb N Z d p held e frm) (hh : 0 < held) : Wb ((w.setCell ⟨b, 2, none⟩ (.int .i64 ((frm : Int) + 1))).setCell ⟨b, 5, none⟩ (.int .i64 ((p : Int) + 1))) b q sb N Z d (p + 1) (held - 1) e (frm + 1) where
  c0 := (cs_other (by simp)).trans ((cs_other (by simp)).trans h.c0)
  c1 := (cs_other (by simp)).trans ((cs_other (by simp)).trans h.c1)
  c2 := (cs_other (by simp)).trans (cs_same h.c2)
  c3 := by rw [show frm + 1 + (held - 1) = frm + held from by omega]; exact (cs_other (by simp)).trans ((cs_other (by simp)).trans h.c3)
  c4 := (cs_other (by simp)).trans ((cs_other (by simp)).trans h.c4)
  c5 := cs_same ((cs_other (by simp)).trans h.c5)
  c6 := (cs_other (by simp)).trans ((cs_other (by simp)).trans h.c6)
  fz := fun j hj => by rw [World.frozen?_setCell, World.frozen?_setCell]; exact h.fz j hj
  row := by
    obtain ⟨cur, h1, h2, h3⟩ := h.row
    refine ⟨cur, (heap_other _ _ _ _ (fun e => h.bq e.symm)).trans ((h.row_set _ _).trans h1), h2, fun j hj => ?_⟩
    have := h3 (j + 1) (by omega)
    rw [show frm + 1 + j = frm + (j + 1) from by omega, show p + 1 + j = p + (j + 1) from by omega]
    exact this
  room := by have := h.room; omega
  bq := h.bq
  lb := by rw [World.size_setCell, World.size_setCell]; exact h.lb
  lq := by rw [World.size_setCell, World.size_setCell]; exact h.lq
end
theorem info5 : (Try.prog.info? 5).map (fun i => (i.zero, i.size, i.bytes)) = some (some (.int .u8 0), 1, 1) := by kernel_rfl
theorem setRow_heap' (w : World) (g : Nat) (cs : Array Value) (k : Nat) (h : k ≠ g) : (w.setRow g cs).heap[k]? = w.heap[k]? := setRow_other w g k cs h
theorem setRow_kept (w : World) (g : Nat) (cs : Array Value) : Kept (· = g) w (w.setRow g cs) := ⟨rfl, rfl, rfl, by simp [World.setRow], fun k hk hs => setRow_heap' w g cs k hs⟩
/-- 'copy(w.buf, b)' -/
theorem copy_w {w : World} {b q sb N Z : Nat} {d : ByteArray} {p held : Nat} {e : Int} {frm : Nat} (h : Wb w b q sb N Z d p held e frm) (c : Nat) (hc : c ≤ N) (hp : p + c ≤ d.size) :
    ∃ w3, (∀ ty, (Builtin.copy_ #[41, 9] ty #[.slice (some ⟨q, 0, none⟩) N N, .string (d.extract p (p + c))]).run Try.prog w = .ok (.int .i64 c) w3) ∧ Kept (· = q) w w3 ∧
      ∃ cur : Array Value, w3.heap[q]? = some (.cells cur 5 (0, 0)) ∧ cur.size = N ∧ ∀ j, j < c → cur[0 + j]? = some (.int .u8 (bt d (p + j))) := by
  obtain ⟨cur, h1, h2, _⟩ := h.row
  have hs : (d.extract p (p + c)).size = c := by rw [ByteArray.size_extract]; omega
  have hl : (Lib.byteCells (d.extract p (p + c)).data.toList).length = c := by
    rw [Lib.byteCells_length, ← Lib.size_eq]
    exact hs
  refine ⟨_, fun ty => ?_, setRow_kept w q (cur.toList.take 0 ++ Lib.byteCells (d.extract p (p + c)).data.toList ++ cur.toList.drop (0 + (d.extract p (p + c)).size)).toArray, _, setRow_heap w q _ _ 5 _ h1, ?_, ?_⟩
  · have := Lib.run_copy_row_string (P := Try.prog) w 41 9 ty 5 q 0 N N (d.extract p (p + c)) cur 5 Try.underlying41 (by kernel_rfl) h1 (by omega) (by omega)
    rw [this]
    rw [hs]
    rfl
  · have hcl : cur.toList.length = N := by rw [Array.length_toList]; exact h2
    simp only [List.take_zero, List.nil_append, List.size_toArray, List.length_append, List.length_drop, hl, hcl]
    omega
  · intro j hj
    have e1 := bt_part d p c j hj hp
    simp only [List.take_zero, List.nil_append, List.getElem?_toArray, Nat.zero_add]
    rw [List.getElem?_append_left (by omega)]
    exact e1
/-- the bytes that came are held -/
theorem Wb.filled {w w3 : World} {b q sb N Z : Nat} {d : ByteArray} {p held : Nat} {e : Int} {frm : Nat} (h : Wb w b q sb N Z d p held e frm) (c : Nat) (hc : c ≤ N) (k : Kept (· = q) w w3)
    (hr : ∃ cur : Array Value, w3.heap[q]? = some (.cells cur 5 (0, 0)) ∧ cur.size = N ∧ ∀ j, j < c → cur[0 + j]? = some (.int .u8 (bt d (p + j)))) :
    Wb ((w3.setCell ⟨b, 2, none⟩ (.int .i64 0)).setCell ⟨b, 3, none⟩ (.int .i64 c)) b q sb N Z d p c e 0 := by
  have eb := k.block b h.lb h.bq
  have cc : ∀ {o v}, w.cell? ⟨b, o, none⟩ = some v → w3.cell? ⟨b, o, none⟩ = some v := fun h => (World.cell?_of_block (w := w) eb).trans h
  refine ⟨(cs_other (by simp)).trans ((cs_other (by simp)).trans (cc h.c0)), (cs_other (by simp)).trans ((cs_other (by simp)).trans (cc h.c1)), (cs_other (by simp)).trans (cs_same (cc h.c2)), ?_, (cs_other (by simp)).trans ((cs_other (by simp)).trans (cc h.c4)), (cs_other (by simp)).trans ((cs_other (by simp)).trans (cc h.c5)), (cs_other (by simp)).trans ((cs_other (by simp)).trans (cc h.c6)),
    fun j hj => by rw [World.frozen?_setCell, World.frozen?_setCell]; exact (World.frozen?_of_block (w := w) eb).trans (h.fz j hj), ?_, by omega, h.bq, by rw [World.size_setCell, World.size_setCell]; exact Nat.lt_of_lt_of_le h.lb k.size, by rw [World.size_setCell, World.size_setCell]; exact Nat.lt_of_lt_of_le h.lq k.size⟩
  · rw [Nat.zero_add]
    exact cs_same ((cs_other (by simp)).trans (cc h.c3))
  · obtain ⟨cur, h1, h2⟩ := hr
    exact ⟨cur, (heap_other _ _ _ _ (fun e => h.bq e.symm)).trans ((heap_other _ _ _ _ (fun e => h.bq e.symm)).trans h1), h2⟩

/-- A window with its source. -/
structure Win (w : World) (b q sb g N Z : Nat) (d : ByteArray) (x : Ab) (frm : Nat) (o : Int) : Prop where
  wb : Wb w b q sb N Z d x.p x.held x.e frm
  src : Src w sb g (d.extract (x.p + x.held) d.size) x.s o ((x.p + x.held : Nat) : Int) (x.calls : Int)
  on : x.e = 0 → o = 0
  ok : x.Ok d.size
  bs : b ≠ sb
  qs : q ≠ sb
  gb : x.s = [] ∨ (g ≠ b ∧ g ≠ q)
  n1 : 1 ≤ N
  nm : N ≤ 65536
  zm : Z ≤ 1000
  dm : d.size ≤ 1000
theorem Win.keep {S : Nat → Prop} {w w' : World} {b q sb g N Z : Nat} {d : ByteArray} {x : Ab} {frm : Nat} {o : Int} (h : Win w b q sb g N Z d x frm o) (k : Kept S w w') (hb : ¬S b) (hq : ¬S q) (hs : ¬S sb) (hg : x.s = [] ∨ ¬S g) : Win w' b q sb g N Z d x frm o :=
  ⟨h.wb.keep k hb hq, Src.keep' h.src k hs hg, h.on, h.ok, h.bs, h.qs, h.gb, h.n1, h.nm, h.zm, h.dm⟩
theorem Win.drewN {w : World} {b q sb g N Z : Nat} {d : ByteArray} {x : Ab} {frm : Nat} {o : Int} (h : Win w b q sb g N Z d x frm o) (n : Nat) : Win (w.drewN n) b q sb g N Z d x frm o :=
  ⟨h.wb.drewN n, h.src.drewN n, h.on, h.ok, h.bs, h.qs, h.gb, h.n1, h.nm, h.zm, h.dm⟩
/-- A window that is x. -/
def W (w : World) (b q sb g N Z : Nat) (d : ByteArray) (x : Ab) : Prop := ∃ frm o, Win w b q sb g N Z d x frm o
theorem W.keep {S : Nat → Prop} {w w' : World} {b q sb g N Z : Nat} {d : ByteArray} {x : Ab} (h : W w b q sb g N Z d x) (k : Kept S w w') (hb : ¬S b) (hq : ¬S q) (hs : ¬S sb) (hg : x.s = [] ∨ ¬S g) : W w' b q sb g N Z d x := by
  obtain ⟨frm, o, h⟩ := h
  exact ⟨frm, o, h.keep k hb hq hs hg⟩
theorem W.drewN {w : World} {b q sb g N Z : Nat} {d : ByteArray} {x : Ab} (h : W w b q sb g N Z d x) (n : Nat) : W (w.drewN n) b q sb g N Z d x := by
  obtain ⟨frm, o, h⟩ := h
  exact ⟨frm, o, h.drewN n⟩

/-! ### New -/
def row0 (c : Nat) : Array Value := madeCells #[.int .u8 0] c
theorem row0_size (c : Nat) : (row0 c).size = c := size_madeCells _ _
theorem make_w (c : Nat) (hc : c ≤ 65536) (w : World) : (Instr.makeSlice 41 (.int .i64 (c : Int)) (.int .i64 (c : Int))).run Try.prog w = .ok (.slice (some ⟨w.heap.size, 0, none⟩) c c) (w.alloc (.cells (row0 c) 5)) := by
  obtain ⟨i0, hi, hz0, hz1, hz2⟩ := info_parts info5
  have h := run_make (P := Try.prog) w 41 5 i0 (.int .u8 0) Try.underlying41 hi hz0 .i64 .i64 (c : Int) (c : Int) (by omega) (Int.le_refl _) (by rw [hz2]; omega) (by omega)
  rw [hz1] at h
  simpa [Value.cells, row0] using h
theorem win_made (w : World) (sb g N Z : Nat) (d : ByteArray) (st : List (Int × Int)) (h1 : 1 ≤ N) (h2 : N ≤ 65536) (h3 : Z ≤ 1000) (S : Src w sb g d st 0 0 0) (hd : d.size ≤ 1000) (hst : st.length ≤ 1000) :
    W ((w.alloc (.cells (row0 N) 5)).alloc (.cells #[.pointer (some ⟨sb, 0, none⟩), .slice (some ⟨w.heap.size, 0, none⟩) N N, .int .i64 0, .int .i64 0, .int .i64 Z, .int .i64 0, .int .i64 0] 65)) (w.heap.size + 1) w.heap.size sb g N Z d ⟨st, 0, 0, 0, 0⟩ := by
  have hs := S.lb
  refine ⟨0, 0, ⟨by simp, by simp, by simp, by simp, by simp, by simp, by simp, fun j hj => World.frozen?_alloc_at _ _ _ _ (by simp), ⟨row0 N, ?_, row0_size N, fun j hj => by simp at hj⟩, by simp, by omega, by simp, by simp; omega⟩, ?_, fun _ => rfl, ⟨by simp, by simp, fun _ => by simp; omega⟩, by omega, by omega, ?_, h1, h2, h3, hd⟩
  · rw [Below.heap_alloc _ _ _ (by simp)]
    exact heap_alloc_new w _
  · show Src _ sb g (d.extract 0 d.size) st 0 0 0
    rw [ByteArray.extract_zero_size]
    exact (S.alloc _).alloc _
  · exact S.lg.imp id (fun h => ⟨by omega, by omega⟩)
def clampN (v : Int) : Nat := (min (max v 1) 65536).toNat
def clampZ (v : Int) : Nat := (min (max v 0) 1000).toNat
set_option maxHeartbeats 1000000 in
theorem new_core (size zeros : Int) (N Z sb g : Nat) (d : ByteArray) (st : List (Int × Int)) (w : World) (S : Src w sb g d st 0 0 0) (hd : d.size ≤ 1000) (hst : st.length ≤ 1000)
    (hN : (size < 1 ∧ N = 1) ∨ (65536 < size ∧ N = 65536) ∨ (1 ≤ size ∧ size ≤ 65536 ∧ size = N)) (hZ : (zeros < 0 ∧ Z = 0) ∨ (1000 < zeros ∧ Z = 1000) ∨ (0 ≤ zeros ∧ zeros ≤ 1000 ∧ zeros = Z)) :
    Calls Try.prog 23 #[.int .i64 size, .int .i64 zeros, .pointer (some ⟨sb, 0, none⟩)] w fun e w' => e = .returned (.pointer (some ⟨w.heap.size + 1, 0, none⟩)) ∧ W w' (w.heap.size + 1) w.heap.size sb g N Z d ⟨st, 0, 0, 0, 0⟩ ∧ Kept (fun _ => False) w w' := by
  have HC := Lib.hid (win_made w sb g N Z d st (by omega) (by omega) (by omega) S hd hst)
  have hmk := make_w N (by omega) w
  clear S
  rcases hN with ⟨hN, rfl⟩ | ⟨hN, rfl⟩ | ⟨hN, hN2, rfl⟩
  all_goals rcases hZ with ⟨hZ, rfl⟩ | ⟨hZ, rfl⟩ | ⟨hZ, hZ2, rfl⟩
  all_goals
    try rw [show ((1 : Nat) : Int) = 1 from rfl] at hmk
    try rw [show ((65536 : Nat) : Int) = 65536 from rfl] at hmk
    go_enter Try.func23, Try.ntmps23
    go_wp2
    go_ret
    exact ⟨rfl, HC.out, ((Kept.refl _ w).alloc _).alloc _⟩
theorem win_new (size zeros : Int) (sb g : Nat) (d : ByteArray) (st : List (Int × Int)) (w : World) (S : Src w sb g d st 0 0 0) (hd : d.size ≤ 1000) (hst : st.length ≤ 1000) :
    Calls Try.prog 23 #[.int .i64 size, .int .i64 zeros, .pointer (some ⟨sb, 0, none⟩)] w fun e w' => e = .returned (.pointer (some ⟨w.heap.size + 1, 0, none⟩)) ∧ W w' (w.heap.size + 1) w.heap.size sb g (clampN size) (clampZ zeros) d ⟨st, 0, 0, 0, 0⟩ ∧ Kept (fun _ => False) w w' :=
  new_core size zeros _ _ sb g d st w S hd hst (by unfold clampN; omega) (by unfold clampZ; omega)
end Go.Proofs.Ytakhdkfcnanglaa.Win
