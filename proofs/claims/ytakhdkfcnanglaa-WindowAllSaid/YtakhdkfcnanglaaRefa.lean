/- The document's source: what it holds, and its Read (layer 3). -/
import Derived.Test.YtakhdkfcnanglaaPlay
namespace Go.Proofs.Ytakhdkfcnanglaa.Ref
open Go.RowKit
open Go.Proofs.Ytakhdkfcnanglaa.Obj Go.Proofs.Ytakhdkfcnanglaa.New Go.Proofs.Ytakhdkfcnanglaa.Play
set_option linter.unusedVariables false

/-- The document's source at block r: data d from a on, the steps st0, calls, over. -/
structure Rsc (w : World) (r : Nat) (A : Option Addr) (cap : Nat) (st0 : List (Int × Int)) (d : ByteArray) (a calls : Nat) (over : Int) : Prop where
  c0 : w.cell? ⟨r, 0, none⟩ = some (.string d)
  c1 : w.cell? ⟨r, 1, none⟩ = some (.slice A st0.length cap)
  c2 : w.cell? ⟨r, 2, none⟩ = some (.int .i64 a)
  c3 : w.cell? ⟨r, 3, none⟩ = some (.int .i64 calls)
  c4 : w.cell? ⟨r, 4, none⟩ = some (.int .i64 over)
  fr : ∀ j, j < 5 → w.frozen? ⟨r, j, none⟩ = false
  lb : r < w.heap.size
theorem Rsc.keep {S : Nat → Prop} {w w' : World} {r : Nat} {A : Option Addr} {cap : Nat} {st0 : List (Int × Int)} {d : ByteArray} {a calls : Nat} {over : Int} (h : Rsc w r A cap st0 d a calls over) (k : Kept S w w') (hb : ¬S r) : Rsc w' r A cap st0 d a calls over := by
  have e := k.block r h.lb hb
  exact ⟨(World.cell?_of_block (w := w) e).trans h.c0, (World.cell?_of_block (w := w) e).trans h.c1, (World.cell?_of_block (w := w) e).trans h.c2, (World.cell?_of_block (w := w) e).trans h.c3, (World.cell?_of_block (w := w) e).trans h.c4,
    fun j hj => (World.frozen?_of_block (w := w) e).trans (h.fr j hj), Nat.lt_of_lt_of_le h.lb k.size⟩
section
variable {w : World} {r : Nat} {A : Option Addr} {cap : Nat} {st0 : List (Int × Int)} {d : ByteArray} {a calls : Nat} {over : Int}
theorem Rsc.drewN (h : Rsc w r A cap st0 d a calls over) (n : Nat) : Rsc (w.drewN n) r A cap st0 d a calls over := ⟨h.c0, h.c1, h.c2, h.c3, h.c4, h.fr, h.lb⟩
theorem Rsc.setAt (h : Rsc w r A cap st0 d a calls over) (v : Int) (x : Nat) (hv : (x : Int) = v) : Rsc (w.setCell ⟨r, 2, none⟩ (.int .i64 v)) r A cap st0 d x calls over := by
  subst hv
  exact ⟨(cs_other (by simp)).trans h.c0, (cs_other (by simp)).trans h.c1, cs_same h.c2, (cs_other (by simp)).trans h.c3, (cs_other (by simp)).trans h.c4, fun j hj => by rw [World.frozen?_setCell]; exact h.fr j hj, by rw [World.size_setCell]; exact h.lb⟩
theorem Rsc.setCalls (h : Rsc w r A cap st0 d a calls over) (v : Nat) : Rsc (w.setCell ⟨r, 3, none⟩ (.int .i64 v)) r A cap st0 d a v over :=
  ⟨(cs_other (by simp)).trans h.c0, (cs_other (by simp)).trans h.c1, (cs_other (by simp)).trans h.c2, cs_same h.c3, (cs_other (by simp)).trans h.c4, fun j hj => by rw [World.frozen?_setCell]; exact h.fr j hj, by rw [World.size_setCell]; exact h.lb⟩
theorem Rsc.setOver (h : Rsc w r A cap st0 d a calls over) (v : Int) : Rsc (w.setCell ⟨r, 4, none⟩ (.int .i64 v)) r A cap st0 d a calls v :=
  ⟨(cs_other (by simp)).trans h.c0, (cs_other (by simp)).trans h.c1, (cs_other (by simp)).trans h.c2, (cs_other (by simp)).trans h.c3, cs_same h.c4, fun j hj => by rw [World.frozen?_setCell]; exact h.fr j hj, by rw [World.size_setCell]; exact h.lb⟩
end

theorem ref_over (r : Nat) (A : Option Addr) (cap : Nat) (st0 : List (Int × Int)) (d : ByteArray) (a calls : Nat) (over n : Int) (w : World) (h : Rsc w r A cap st0 d a calls over) (hc : calls ≤ 1000000) (ho : (over == 0) = false) :
    Calls Try.prog 18 #[.pointer (some ⟨r, 0, none⟩), .int .i64 n] w fun e w' => e = .returned (.tuple #[.string ⟨#[]⟩, .int .i64 over]) ∧ Rsc w' r A cap st0 d a (calls + 1) over ∧ Kept (· = r) w w' := by
  have c3 := h.c3
  have c4 := h.c4
  have f3 := h.fr 3 (by omega)
  have S := h.setCalls (calls + 1)
  have K := Lib.hid (Kept.setIn (b := r) (o := 3) (s := none) (u := .int .i64 ((calls + 1 : Nat) : Int)) (Kept.refl (· = r) w))
  rw [show ((calls + 1 : Nat) : Int) = (calls : Int) + 1 from by omega] at S K
  have S := Lib.hid S
  go_enter Try.func18, Try.ntmps18
  go_wp2_with fail
  go_quiet (fail)
  go_wp2
  go_ret2
  exact ⟨rfl, S.out.drewN _, K.out.drewN _⟩

theorem getD_drop (st : List (Int × Int)) (k : Nat) (h : k < st.length) : st.drop k = st.getD k (0, 0) :: st.drop (k + 1) := by
  rw [List.drop_eq_getElem_cons h]
  congr 1
  simp [List.getD, h]
/-- how the number is cut to size -/
def Way (n m : Int) (l c : Nat) : Prop :=
  (m < n ∧ (l : Int) < m ∧ c = l) ∨ (m < n ∧ ¬(l : Int) < m ∧ m < 0 ∧ c = 0) ∨ (m < n ∧ ¬(l : Int) < m ∧ m = c) ∨ (¬m < n ∧ (l : Int) < n ∧ c = l) ∨ (¬m < n ∧ ¬(l : Int) < n ∧ n < 0 ∧ c = 0) ∨ (¬m < n ∧ ¬(l : Int) < n ∧ n = c)
theorem way_came (n m : Int) (l : Nat) : Way n m l (came n m l) := by unfold Way came; omega
def Kind (k o : Int) (a c D : Nat) : Prop :=
  (k = 2 ∧ o = 2) ∨ (k = 1 ∧ (a : Int) + c = D ∧ o = 1) ∨ (k = 1 ∧ ¬(a : Int) + c = D ∧ o = 0) ∨ (¬k = 2 ∧ ¬k = 1 ∧ o = 0)

set_option maxHeartbeats 4000000 in
theorem ref_step (r g o0 : Nat) (cap : Nat) (st0 : List (Int × Int)) (d : ByteArray) (a calls l c : Nat) (n m k o' : Int) (w : World) (h : Rsc w r (some ⟨g, o0, none⟩) cap st0 d a calls 0) (hc : calls < st0.length) (hd : d.size ≤ 1000000) (hll : a + l = d.size) (hcl : c ≤ l) (hl : st0.length ≤ 1000000)
    (z0 : w.cell? ⟨g, o0 + calls * 2, none⟩ = some (.int .i64 m)) (z1 : w.cell? ⟨g, o0 + calls * 2 + 1, none⟩ = some (.int .i64 k)) (hgr : g ≠ r) (W : Way n m l c) (V : Kind k o' a c d.size) :
    Calls Try.prog 18 #[.pointer (some ⟨r, 0, none⟩), .int .i64 n] w fun e w' => e = .returned (.tuple #[.string (d.extract a (a + c)), .int .i64 o']) ∧ Rsc w' r (some ⟨g, o0, none⟩) cap st0 d (a + c) (calls + 1) o' ∧ Kept (· = r) w w' := by
  have c0 := h.c0
  have c1 := h.c1
  have c2 := h.c2
  have c3 := h.c3
  have c4 := h.c4
  have f2 := h.fr 2 (by omega)
  have f3 := h.fr 3 (by omega)
  have f4 := h.fr 4 (by omega)
  have S := h.setCalls (calls + 1)
  have K := Lib.hid (Kept.setIn (b := r) (o := 3) (s := none) (u := .int .i64 ((calls + 1 : Nat) : Int)) (Kept.refl (· = r) w))
  rw [show ((calls + 1 : Nat) : Int) = (calls : Int) + 1 from by omega] at S K
  have S := Lib.hid S
  have el : (d.size : Int) - a = l := by omega
  have t1 : (calls : Int) < st0.length := by omega
  have HL := Lib.hid hll
  clear h hll
  unfold Way at W
  unfold Kind at V
  have HCL := Lib.hid hcl
  clear hcl
  rcases W with ⟨w1, w2, hE⟩ | ⟨w1, w2, w3, hE⟩ | ⟨w1, w2, hE⟩ | ⟨w1, w2, hE⟩ | ⟨w1, w2, w3, hE⟩ | ⟨w1, w2, hE⟩
  · have HE := Lib.hid hE
    clear hE
    go_enter Try.func18, Try.ntmps18
    go_wp2_with fail
    go_quiet (fail)
    try rw [el]
    go_wp2_with fail
    obtain rfl := HE.out
    have hcl := HCL.out
    have hla := Nat.le_of_eq HL.out
    go_quiet (fail)
    rcases V with ⟨rfl, rfl⟩ | ⟨rfl, hq, rfl⟩ | ⟨rfl, hq, rfl⟩ | ⟨k2, k1, rfl⟩
    · skip
      go_wp2_with fail
      go_quiet (fail)
      go_wp2_with fail
      go_quiet (fail)
      go_wp2
      refine bodyPost_ret (v := .tuple #[.string (d.extract a (a + c)), .int .i64 2]) (by simp [results, Try.results18, go_sem]) rfl ⟨rfl, ?_, ?_⟩
      · first | exact ((((S.out.drewN _).setAt _ _ (by have := HL.out; omega)).setOver 2).drewN _).drewN _ | exact (((S.out.drewN _).setAt _ _ (by have := HL.out; omega)).setOver 2).drewN _
      · first | exact ((((K.out.drewN _).setIn (b := r)).setIn (b := r)).drewN _).drewN _ | exact (((K.out.drewN _).setIn (b := r)).setIn (b := r)).drewN _
    · have HQ := Lib.hid hq
      clear hq
      go_wp2_with fail
      have hq : (((a : Int) + c) == (d.size : Int)) = true := by have := HQ.out; have := HL.out; simp; omega
      go_quiet (fail)
      go_wp2_with fail
      go_quiet (fail)
      go_wp2
      refine bodyPost_ret (v := .tuple #[.string (d.extract a (a + c)), .int .i64 1]) (by simp [results, Try.results18, go_sem]) rfl ⟨rfl, ?_, ?_⟩
      · first | exact (((((S.out.drewN _).setAt _ _ (by have := HL.out; omega)).drewN _).setOver 1).drewN _).drewN _ | exact ((((S.out.drewN _).setAt _ _ (by have := HL.out; omega)).drewN _).setOver 1).drewN _
      · first | exact (((((K.out.drewN _).setIn (b := r)).drewN _).setIn (b := r)).drewN _).drewN _ | exact ((((K.out.drewN _).setIn (b := r)).drewN _).setIn (b := r)).drewN _
    · have HQ := Lib.hid hq
      clear hq
      go_wp2_with fail
      have hq : (((a : Int) + c) == (d.size : Int)) = false := by have := HQ.out; have := HL.out; simp; omega
      go_quiet (fail)
      go_wp2_with fail
      go_quiet (fail)
      go_wp2
      refine bodyPost_ret (v := .tuple #[.string (d.extract a (a + c)), .int .i64 0]) (by simp [results, Try.results18, go_sem]) rfl ⟨rfl, ?_, ?_⟩
      · first | exact (((S.out.drewN _).setAt _ _ (by have := HL.out; omega)).drewN _).drewN _ | exact ((S.out.drewN _).setAt _ _ (by have := HL.out; omega)).drewN _
      · first | exact (((K.out.drewN _).setIn (b := r)).drewN _).drewN _ | exact ((K.out.drewN _).setIn (b := r)).drewN _
    · skip
      go_wp2_with fail
      go_quiet (fail)
      go_wp2_with fail
      go_quiet (fail)
      go_wp2
      refine bodyPost_ret (v := .tuple #[.string (d.extract a (a + c)), .int .i64 0]) (by simp [results, Try.results18, go_sem]) rfl ⟨rfl, ?_, ?_⟩
      · first | exact (((S.out.drewN _).setAt _ _ (by have := HL.out; omega)).drewN _).drewN _ | exact ((S.out.drewN _).setAt _ _ (by have := HL.out; omega)).drewN _
      · first | exact (((K.out.drewN _).setIn (b := r)).drewN _).drewN _ | exact ((K.out.drewN _).setIn (b := r)).drewN _
  · have HE := Lib.hid hE
    clear hE
    go_enter Try.func18, Try.ntmps18
    go_wp2_with fail
    go_quiet (fail)
    try rw [el]
    go_wp2_with fail
    obtain rfl := HE.out
    have hcl := HCL.out
    have hla := Nat.le_of_eq HL.out
    go_quiet (fail)
    rcases V with ⟨rfl, rfl⟩ | ⟨rfl, hq, rfl⟩ | ⟨rfl, hq, rfl⟩ | ⟨k2, k1, rfl⟩
    · skip
      go_wp2_with fail
      go_quiet (fail)
      go_wp2_with fail
      go_quiet (fail)
      go_wp2
      refine bodyPost_ret (v := .tuple #[.string (d.extract a (a + 0)), .int .i64 2]) (by simp [results, Try.results18, go_sem]) rfl ⟨rfl, ?_, ?_⟩
      · first | exact ((((S.out.drewN _).setAt _ _ (by have := HL.out; omega)).setOver 2).drewN _).drewN _ | exact (((S.out.drewN _).setAt _ _ (by have := HL.out; omega)).setOver 2).drewN _
      · first | exact ((((K.out.drewN _).setIn (b := r)).setIn (b := r)).drewN _).drewN _ | exact (((K.out.drewN _).setIn (b := r)).setIn (b := r)).drewN _
    · have HQ := Lib.hid hq
      clear hq
      go_wp2_with fail
      have hq : ((a : Int) == (d.size : Int)) = true := by have := HQ.out; have := HL.out; simp; omega
      go_quiet (fail)
      go_wp2_with fail
      go_quiet (fail)
      go_wp2
      refine bodyPost_ret (v := .tuple #[.string (d.extract a (a + 0)), .int .i64 1]) (by simp [results, Try.results18, go_sem]) rfl ⟨rfl, ?_, ?_⟩
      · first | exact (((((S.out.drewN _).setAt _ _ (by have := HL.out; omega)).drewN _).setOver 1).drewN _).drewN _ | exact ((((S.out.drewN _).setAt _ _ (by have := HL.out; omega)).drewN _).setOver 1).drewN _
      · first | exact (((((K.out.drewN _).setIn (b := r)).drewN _).setIn (b := r)).drewN _).drewN _ | exact ((((K.out.drewN _).setIn (b := r)).drewN _).setIn (b := r)).drewN _
    · have HQ := Lib.hid hq
      clear hq
      go_wp2_with fail
      have hq : ((a : Int) == (d.size : Int)) = false := by have := HQ.out; have := HL.out; simp; omega
      go_quiet (fail)
      go_wp2_with fail
      go_quiet (fail)
      go_wp2
      refine bodyPost_ret (v := .tuple #[.string (d.extract a (a + 0)), .int .i64 0]) (by simp [results, Try.results18, go_sem]) rfl ⟨rfl, ?_, ?_⟩
      · first | exact (((S.out.drewN _).setAt _ _ (by have := HL.out; omega)).drewN _).drewN _ | exact ((S.out.drewN _).setAt _ _ (by have := HL.out; omega)).drewN _
      · first | exact (((K.out.drewN _).setIn (b := r)).drewN _).drewN _ | exact ((K.out.drewN _).setIn (b := r)).drewN _
    · skip
      go_wp2_with fail
      go_quiet (fail)
      go_wp2_with fail
      go_quiet (fail)
      go_wp2
      refine bodyPost_ret (v := .tuple #[.string (d.extract a (a + 0)), .int .i64 0]) (by simp [results, Try.results18, go_sem]) rfl ⟨rfl, ?_, ?_⟩
      · first | exact (((S.out.drewN _).setAt _ _ (by have := HL.out; omega)).drewN _).drewN _ | exact ((S.out.drewN _).setAt _ _ (by have := HL.out; omega)).drewN _
      · first | exact (((K.out.drewN _).setIn (b := r)).drewN _).drewN _ | exact ((K.out.drewN _).setIn (b := r)).drewN _
  · have HE := Lib.hid hE
    clear hE
    obtain rfl := HE.out
    go_enter Try.func18, Try.ntmps18
    go_wp2_with fail
    go_quiet (fail)
    try rw [el]
    go_wp2_with fail
    have hcl := HCL.out
    have hla := Nat.le_of_eq HL.out
    go_quiet (fail)
    rcases V with ⟨rfl, rfl⟩ | ⟨rfl, hq, rfl⟩ | ⟨rfl, hq, rfl⟩ | ⟨k2, k1, rfl⟩
    · skip
      go_wp2_with fail
      go_quiet (fail)
      go_wp2_with fail
      go_quiet (fail)
      go_wp2
      refine bodyPost_ret (v := .tuple #[.string (d.extract a (a + c)), .int .i64 2]) (by simp [results, Try.results18, go_sem]) rfl ⟨rfl, ?_, ?_⟩
      · first | exact ((((S.out.drewN _).setAt _ _ (by have := HL.out; omega)).setOver 2).drewN _).drewN _ | exact (((S.out.drewN _).setAt _ _ (by have := HL.out; omega)).setOver 2).drewN _
      · first | exact ((((K.out.drewN _).setIn (b := r)).setIn (b := r)).drewN _).drewN _ | exact (((K.out.drewN _).setIn (b := r)).setIn (b := r)).drewN _
    · have HQ := Lib.hid hq
      clear hq
      go_wp2_with fail
      have hq : (((a : Int) + c) == (d.size : Int)) = true := by have := HQ.out; have := HL.out; simp; omega
      go_quiet (fail)
      go_wp2_with fail
      go_quiet (fail)
      go_wp2
      refine bodyPost_ret (v := .tuple #[.string (d.extract a (a + c)), .int .i64 1]) (by simp [results, Try.results18, go_sem]) rfl ⟨rfl, ?_, ?_⟩
      · first | exact (((((S.out.drewN _).setAt _ _ (by have := HL.out; omega)).drewN _).setOver 1).drewN _).drewN _ | exact ((((S.out.drewN _).setAt _ _ (by have := HL.out; omega)).drewN _).setOver 1).drewN _
      · first | exact (((((K.out.drewN _).setIn (b := r)).drewN _).setIn (b := r)).drewN _).drewN _ | exact ((((K.out.drewN _).setIn (b := r)).drewN _).setIn (b := r)).drewN _
    · have HQ := Lib.hid hq
      clear hq
      go_wp2_with fail
      have hq : (((a : Int) + c) == (d.size : Int)) = false := by have := HQ.out; have := HL.out; simp; omega
      go_quiet (fail)
      go_wp2_with fail
      go_quiet (fail)
      go_wp2
      refine bodyPost_ret (v := .tuple #[.string (d.extract a (a + c)), .int .i64 0]) (by simp [results, Try.results18, go_sem]) rfl ⟨rfl, ?_, ?_⟩
      · first | exact (((S.out.drewN _).setAt _ _ (by have := HL.out; omega)).drewN _).drewN _ | exact ((S.out.drewN _).setAt _ _ (by have := HL.out; omega)).drewN _
      · first | exact (((K.out.drewN _).setIn (b := r)).drewN _).drewN _ | exact ((K.out.drewN _).setIn (b := r)).drewN _
    · skip
      go_wp2_with fail
      go_quiet (fail)
      go_wp2_with fail
      go_quiet (fail)
      go_wp2
      refine bodyPost_ret (v := .tuple #[.string (d.extract a (a + c)), .int .i64 0]) (by simp [results, Try.results18, go_sem]) rfl ⟨rfl, ?_, ?_⟩
      · first | exact (((S.out.drewN _).setAt _ _ (by have := HL.out; omega)).drewN _).drewN _ | exact ((S.out.drewN _).setAt _ _ (by have := HL.out; omega)).drewN _
      · first | exact (((K.out.drewN _).setIn (b := r)).drewN _).drewN _ | exact ((K.out.drewN _).setIn (b := r)).drewN _
  · have HE := Lib.hid hE
    clear hE
    go_enter Try.func18, Try.ntmps18
    go_wp2_with fail
    go_quiet (fail)
    try rw [el]
    go_wp2_with fail
    obtain rfl := HE.out
    have hcl := HCL.out
    have hla := Nat.le_of_eq HL.out
    go_quiet (fail)
    rcases V with ⟨rfl, rfl⟩ | ⟨rfl, hq, rfl⟩ | ⟨rfl, hq, rfl⟩ | ⟨k2, k1, rfl⟩
    · skip
      go_wp2_with fail
      go_quiet (fail)
      go_wp2_with fail
      go_quiet (fail)
      go_wp2
      refine bodyPost_ret (v := .tuple #[.string (d.extract a (a + c)), .int .i64 2]) (by simp [results, Try.results18, go_sem]) rfl ⟨rfl, ?_, ?_⟩
      · first | exact ((((S.out.drewN _).setAt _ _ (by have := HL.out; omega)).setOver 2).drewN _).drewN _ | exact (((S.out.drewN _).setAt _ _ (by have := HL.out; omega)).setOver 2).drewN _
      · first | exact ((((K.out.drewN _).setIn (b := r)).setIn (b := r)).drewN _).drewN _ | exact (((K.out.drewN _).setIn (b := r)).setIn (b := r)).drewN _
    · have HQ := Lib.hid hq
      clear hq
      go_wp2_with fail
      have hq : (((a : Int) + c) == (d.size : Int)) = true := by have := HQ.out; have := HL.out; simp; omega
      go_quiet (fail)
      go_wp2_with fail
      go_quiet (fail)
      go_wp2
      refine bodyPost_ret (v := .tuple #[.string (d.extract a (a + c)), .int .i64 1]) (by simp [results, Try.results18, go_sem]) rfl ⟨rfl, ?_, ?_⟩
      · first | exact (((((S.out.drewN _).setAt _ _ (by have := HL.out; omega)).drewN _).setOver 1).drewN _).drewN _ | exact ((((S.out.drewN _).setAt _ _ (by have := HL.out; omega)).drewN _).setOver 1).drewN _
      · first | exact (((((K.out.drewN _).setIn (b := r)).drewN _).setIn (b := r)).drewN _).drewN _ | exact ((((K.out.drewN _).setIn (b := r)).drewN _).setIn (b := r)).drewN _
    · have HQ := Lib.hid hq
      clear hq
      go_wp2_with fail
      have hq : (((a : Int) + c) == (d.size : Int)) = false := by have := HQ.out; have := HL.out; simp; omega
      go_quiet (fail)
      go_wp2_with fail
      go_quiet (fail)
      go_wp2
      refine bodyPost_ret (v := .tuple #[.string (d.extract a (a + c)), .int .i64 0]) (by simp [results, Try.results18, go_sem]) rfl ⟨rfl, ?_, ?_⟩
      · first | exact (((S.out.drewN _).setAt _ _ (by have := HL.out; omega)).drewN _).drewN _ | exact ((S.out.drewN _).setAt _ _ (by have := HL.out; omega)).drewN _
      · first | exact (((K.out.drewN _).setIn (b := r)).drewN _).drewN _ | exact ((K.out.drewN _).setIn (b := r)).drewN _
    · skip
      go_wp2_with fail
      go_quiet (fail)
      go_wp2_with fail
      go_quiet (fail)
      go_wp2
      refine bodyPost_ret (v := .tuple #[.string (d.extract a (a + c)), .int .i64 0]) (by simp [results, Try.results18, go_sem]) rfl ⟨rfl, ?_, ?_⟩
      · first | exact (((S.out.drewN _).setAt _ _ (by have := HL.out; omega)).drewN _).drewN _ | exact ((S.out.drewN _).setAt _ _ (by have := HL.out; omega)).drewN _
      · first | exact (((K.out.drewN _).setIn (b := r)).drewN _).drewN _ | exact ((K.out.drewN _).setIn (b := r)).drewN _
  · have HE := Lib.hid hE
    clear hE
    go_enter Try.func18, Try.ntmps18
    go_wp2_with fail
    go_quiet (fail)
    try rw [el]
    go_wp2_with fail
    obtain rfl := HE.out
    have hcl := HCL.out
    have hla := Nat.le_of_eq HL.out
    go_quiet (fail)
    rcases V with ⟨rfl, rfl⟩ | ⟨rfl, hq, rfl⟩ | ⟨rfl, hq, rfl⟩ | ⟨k2, k1, rfl⟩
    · skip
      go_wp2_with fail
      go_quiet (fail)
      go_wp2_with fail
      go_quiet (fail)
      go_wp2
      refine bodyPost_ret (v := .tuple #[.string (d.extract a (a + 0)), .int .i64 2]) (by simp [results, Try.results18, go_sem]) rfl ⟨rfl, ?_, ?_⟩
      · first | exact ((((S.out.drewN _).setAt _ _ (by have := HL.out; omega)).setOver 2).drewN _).drewN _ | exact (((S.out.drewN _).setAt _ _ (by have := HL.out; omega)).setOver 2).drewN _
      · first | exact ((((K.out.drewN _).setIn (b := r)).setIn (b := r)).drewN _).drewN _ | exact (((K.out.drewN _).setIn (b := r)).setIn (b := r)).drewN _
    · have HQ := Lib.hid hq
      clear hq
      go_wp2_with fail
      have hq : ((a : Int) == (d.size : Int)) = true := by have := HQ.out; have := HL.out; simp; omega
      go_quiet (fail)
      go_wp2_with fail
      go_quiet (fail)
      go_wp2
      refine bodyPost_ret (v := .tuple #[.string (d.extract a (a + 0)), .int .i64 1]) (by simp [results, Try.results18, go_sem]) rfl ⟨rfl, ?_, ?_⟩
      · first | exact (((((S.out.drewN _).setAt _ _ (by have := HL.out; omega)).drewN _).setOver 1).drewN _).drewN _ | exact ((((S.out.drewN _).setAt _ _ (by have := HL.out; omega)).drewN _).setOver 1).drewN _
      · first | exact (((((K.out.drewN _).setIn (b := r)).drewN _).setIn (b := r)).drewN _).drewN _ | exact ((((K.out.drewN _).setIn (b := r)).drewN _).setIn (b := r)).drewN _
    · have HQ := Lib.hid hq
      clear hq
      go_wp2_with fail
      have hq : ((a : Int) == (d.size : Int)) = false := by have := HQ.out; have := HL.out; simp; omega
      go_quiet (fail)
      go_wp2_with fail
      go_quiet (fail)
      go_wp2
      refine bodyPost_ret (v := .tuple #[.string (d.extract a (a + 0)), .int .i64 0]) (by simp [results, Try.results18, go_sem]) rfl ⟨rfl, ?_, ?_⟩
      · first | exact (((S.out.drewN _).setAt _ _ (by have := HL.out; omega)).drewN _).drewN _ | exact ((S.out.drewN _).setAt _ _ (by have := HL.out; omega)).drewN _
      · first | exact (((K.out.drewN _).setIn (b := r)).drewN _).drewN _ | exact ((K.out.drewN _).setIn (b := r)).drewN _
    · skip
      go_wp2_with fail
      go_quiet (fail)
      go_wp2_with fail
      go_quiet (fail)
      go_wp2
      refine bodyPost_ret (v := .tuple #[.string (d.extract a (a + 0)), .int .i64 0]) (by simp [results, Try.results18, go_sem]) rfl ⟨rfl, ?_, ?_⟩
      · first | exact (((S.out.drewN _).setAt _ _ (by have := HL.out; omega)).drewN _).drewN _ | exact ((S.out.drewN _).setAt _ _ (by have := HL.out; omega)).drewN _
      · first | exact (((K.out.drewN _).setIn (b := r)).drewN _).drewN _ | exact ((K.out.drewN _).setIn (b := r)).drewN _
  · have HE := Lib.hid hE
    clear hE
    obtain rfl := HE.out
    go_enter Try.func18, Try.ntmps18
    go_wp2_with fail
    go_quiet (fail)
    try rw [el]
    go_wp2_with fail
    have hcl := HCL.out
    have hla := Nat.le_of_eq HL.out
    go_quiet (fail)
    rcases V with ⟨rfl, rfl⟩ | ⟨rfl, hq, rfl⟩ | ⟨rfl, hq, rfl⟩ | ⟨k2, k1, rfl⟩
    · skip
      go_wp2_with fail
      go_quiet (fail)
      go_wp2_with fail
      go_quiet (fail)
      go_wp2
      refine bodyPost_ret (v := .tuple #[.string (d.extract a (a + c)), .int .i64 2]) (by simp [results, Try.results18, go_sem]) rfl ⟨rfl, ?_, ?_⟩
      · first | exact ((((S.out.drewN _).setAt _ _ (by have := HL.out; omega)).setOver 2).drewN _).drewN _ | exact (((S.out.drewN _).setAt _ _ (by have := HL.out; omega)).setOver 2).drewN _
      · first | exact ((((K.out.drewN _).setIn (b := r)).setIn (b := r)).drewN _).drewN _ | exact (((K.out.drewN _).setIn (b := r)).setIn (b := r)).drewN _
    · have HQ := Lib.hid hq
      clear hq
      go_wp2_with fail
      have hq : (((a : Int) + c) == (d.size : Int)) = true := by have := HQ.out; have := HL.out; simp; omega
      go_quiet (fail)
      go_wp2_with fail
      go_quiet (fail)
      go_wp2
      refine bodyPost_ret (v := .tuple #[.string (d.extract a (a + c)), .int .i64 1]) (by simp [results, Try.results18, go_sem]) rfl ⟨rfl, ?_, ?_⟩
      · first | exact (((((S.out.drewN _).setAt _ _ (by have := HL.out; omega)).drewN _).setOver 1).drewN _).drewN _ | exact ((((S.out.drewN _).setAt _ _ (by have := HL.out; omega)).drewN _).setOver 1).drewN _
      · first | exact (((((K.out.drewN _).setIn (b := r)).drewN _).setIn (b := r)).drewN _).drewN _ | exact ((((K.out.drewN _).setIn (b := r)).drewN _).setIn (b := r)).drewN _
    · have HQ := Lib.hid hq
      clear hq
      go_wp2_with fail
      have hq : (((a : Int) + c) == (d.size : Int)) = false := by have := HQ.out; have := HL.out; simp; omega
      go_quiet (fail)
      go_wp2_with fail
      go_quiet (fail)
      go_wp2
      refine bodyPost_ret (v := .tuple #[.string (d.extract a (a + c)), .int .i64 0]) (by simp [results, Try.results18, go_sem]) rfl ⟨rfl, ?_, ?_⟩
      · first | exact (((S.out.drewN _).setAt _ _ (by have := HL.out; omega)).drewN _).drewN _ | exact ((S.out.drewN _).setAt _ _ (by have := HL.out; omega)).drewN _
      · first | exact (((K.out.drewN _).setIn (b := r)).drewN _).drewN _ | exact ((K.out.drewN _).setIn (b := r)).drewN _
    · skip
      go_wp2_with fail
      go_quiet (fail)
      go_wp2_with fail
      go_quiet (fail)
      go_wp2
      refine bodyPost_ret (v := .tuple #[.string (d.extract a (a + c)), .int .i64 0]) (by simp [results, Try.results18, go_sem]) rfl ⟨rfl, ?_, ?_⟩
      · first | exact (((S.out.drewN _).setAt _ _ (by have := HL.out; omega)).drewN _).drewN _ | exact ((S.out.drewN _).setAt _ _ (by have := HL.out; omega)).drewN _
      · first | exact (((K.out.drewN _).setIn (b := r)).drewN _).drewN _ | exact ((K.out.drewN _).setIn (b := r)).drewN _

end Go.Proofs.Ytakhdkfcnanglaa.Ref
