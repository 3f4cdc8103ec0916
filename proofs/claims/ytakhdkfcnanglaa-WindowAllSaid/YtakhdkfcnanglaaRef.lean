/- The document's source behind its last step; Read as a whole (layer 3). -/
import Derived.Test.YtakhdkfcnanglaaRefa
namespace Go.Proofs.Ytakhdkfcnanglaa.Ref
open Go.RowKit
open Go.Proofs.Ytakhdkfcnanglaa.Obj Go.Proofs.Ytakhdkfcnanglaa.New Go.Proofs.Ytakhdkfcnanglaa.Play
set_option linter.unusedVariables false

set_option maxHeartbeats 4000000 in
theorem ref_end0 (r : Nat) (A : Option Addr) (cap : Nat) (st0 : List (Int × Int)) (d : ByteArray) (calls : Nat) (n : Int) (w : World) (h : Rsc w r A cap st0 d d.size calls 0) (hc : ¬calls < st0.length) (hcm : calls ≤ 1000000) (hd : d.size ≤ 1000000) (hl : st0.length ≤ 1000000) :
    Calls Try.prog 18 #[.pointer (some ⟨r, 0, none⟩), .int .i64 n] w fun e w' => e = .returned (.tuple #[.string (d.extract d.size d.size), .int .i64 1]) ∧ Rsc w' r A cap st0 d d.size (calls + 1) 1 ∧ Kept (· = r) w w' := by
  have c0 := h.c0
  have c1 := h.c1
  have c2 := h.c2
  have c3 := h.c3
  have c4 := h.c4
  have f2 := h.fr 2 (by omega)
  have f3 := h.fr 3 (by omega)
  have f4 := h.fr 4 (by omega)
  have S := h.setCalls (calls + 1)
  have K := Lib.hid (Kept.setIn (b := r) (o := 3) (s := none) (u := .int .i64 ((calls + 1 : Nat) : Int)) (Kept.refl (· = r) w))
  rw [show ((calls + 1 : Nat) : Int) = (calls : Int) + 1 from by omega] at S K
  have S := Lib.hid S
  have t1 : ¬(calls : Int) < st0.length := by omega
  clear h
  rcases (show 0 < n ∨ n < 0 ∨ n = 0 from by omega) with hn | hn | rfl
  all_goals
    go_enter Try.func18, Try.ntmps18
    go_wp2_with fail
    go_quiet (fail)
    go_wp2_with fail
    go_quiet (fail)
    go_wp2_with fail
    go_quiet (fail)
    go_wp2_with fail
    go_quiet (fail)
    go_wp2
    refine bodyPost_ret (v := .tuple #[.string (d.extract d.size d.size), .int .i64 1]) (by simp [results, Try.results18, go_sem]) rfl ⟨rfl, ?_, ?_⟩
    · first | exact (((((S.out.drewN _).setAt _ _ rfl).drewN _).setOver 1).drewN _)
    · first | exact (((((K.out.drewN _).setIn (b := r)).drewN _).setIn (b := r)).drewN _)

set_option maxHeartbeats 4000000 in
theorem ref_endl (r : Nat) (A : Option Addr) (cap : Nat) (st0 : List (Int × Int)) (d : ByteArray) (a calls l c : Nat) (n : Int) (w : World) (h : Rsc w r A cap st0 d a calls 0) (hc : ¬calls < st0.length) (hcm : calls ≤ 1000000) (hd : d.size ≤ 1000000) (hll : a + l = d.size) (h0 : 0 < l) (hcl : c ≤ l) (hl : st0.length ≤ 1000000)
    (W : ((l : Int) < n ∧ c = l) ∨ (¬(l : Int) < n ∧ n < 0 ∧ c = 0) ∨ (¬(l : Int) < n ∧ n = c)) :
    Calls Try.prog 18 #[.pointer (some ⟨r, 0, none⟩), .int .i64 n] w fun e w' => e = .returned (.tuple #[.string (d.extract a (a + c)), .int .i64 0]) ∧ Rsc w' r A cap st0 d (a + c) (calls + 1) 0 ∧ Kept (· = r) w w' := by
  have c0 := h.c0
  have c1 := h.c1
  have c2 := h.c2
  have c3 := h.c3
  have c4 := h.c4
  have f2 := h.fr 2 (by omega)
  have f3 := h.fr 3 (by omega)
  have f4 := h.fr 4 (by omega)
  have S := h.setCalls (calls + 1)
  have K := Lib.hid (Kept.setIn (b := r) (o := 3) (s := none) (u := .int .i64 ((calls + 1 : Nat) : Int)) (Kept.refl (· = r) w))
  rw [show ((calls + 1 : Nat) : Int) = (calls : Int) + 1 from by omega] at S K
  have S := Lib.hid S
  have t1 : ¬(calls : Int) < st0.length := by omega
  have el : (d.size : Int) - a = l := by omega
  have HL := Lib.hid hll
  have HCL := Lib.hid hcl
  clear hcl
  clear h hll
  rcases W with ⟨w1, hE⟩ | ⟨w1, w3, hE⟩ | ⟨w1, hE⟩
  · have HE := Lib.hid hE
    clear hE
    go_enter Try.func18, Try.ntmps18
    go_wp2_with fail
    go_quiet (fail)
    try rw [el]
    go_wp2_with fail
    obtain rfl := HE.out
    have hcl := HCL.out
    have hla := Nat.le_of_eq HL.out
    go_quiet (fail)
    go_wp2_with fail
    go_quiet (fail)
    go_wp2_with fail
    go_quiet (fail)
    go_wp2
    refine bodyPost_ret (v := .tuple #[.string (d.extract a (a + c)), .int .i64 0]) (by simp [results, Try.results18, go_sem]) rfl ⟨rfl, ?_, ?_⟩
    · first | exact (((S.out.drewN _).setAt _ _ (by have := HL.out; omega)).drewN _).drewN _ | exact ((S.out.drewN _).setAt _ _ (by have := HL.out; omega)).drewN _
    · first | exact (((K.out.drewN _).setIn (b := r)).drewN _).drewN _ | exact ((K.out.drewN _).setIn (b := r)).drewN _
  · have HE := Lib.hid hE
    clear hE
    go_enter Try.func18, Try.ntmps18
    go_wp2_with fail
    go_quiet (fail)
    try rw [el]
    go_wp2_with fail
    obtain rfl := HE.out
    have hcl := HCL.out
    have hla := Nat.le_of_eq HL.out
    go_quiet (fail)
    go_wp2_with fail
    go_quiet (fail)
    go_wp2_with fail
    go_quiet (fail)
    go_wp2
    refine bodyPost_ret (v := .tuple #[.string (d.extract a (a + 0)), .int .i64 0]) (by simp [results, Try.results18, go_sem]) rfl ⟨rfl, ?_, ?_⟩
    · first | exact (((S.out.drewN _).setAt _ _ (by have := HL.out; omega)).drewN _).drewN _ | exact ((S.out.drewN _).setAt _ _ (by have := HL.out; omega)).drewN _
    · first | exact (((K.out.drewN _).setIn (b := r)).drewN _).drewN _ | exact ((K.out.drewN _).setIn (b := r)).drewN _
  · have HE := Lib.hid hE
    clear hE
    obtain rfl := HE.out
    go_enter Try.func18, Try.ntmps18
    go_wp2_with fail
    go_quiet (fail)
    try rw [el]
    go_wp2_with fail
    have hcl := HCL.out
    have hla := Nat.le_of_eq HL.out
    go_quiet (fail)
    go_wp2_with fail
    go_quiet (fail)
    go_wp2_with fail
    go_quiet (fail)
    go_wp2
    refine bodyPost_ret (v := .tuple #[.string (d.extract a (a + c)), .int .i64 0]) (by simp [results, Try.results18, go_sem]) rfl ⟨rfl, ?_, ?_⟩
    · first | exact (((S.out.drewN _).setAt _ _ (by have := HL.out; omega)).drewN _).drewN _ | exact ((S.out.drewN _).setAt _ _ (by have := HL.out; omega)).drewN _
    · first | exact (((K.out.drewN _).setIn (b := r)).drewN _).drewN _ | exact ((K.out.drewN _).setIn (b := r)).drewN _

theorem Src.keep' {S : Nat → Prop} {w w' : World} {b g : Nat} {left : ByteArray} {st : List (Int × Int)} {over given calls : Int} (h : Src w b g left st over given calls) (k : Kept S w w') (hb : ¬S b) (hg : st = [] ∨ ¬S g) : Src w' b g left st over given calls := by
  have e := k.block b h.lb hb
  refine ⟨(World.cell?_of_block (w := w) e).trans h.c0, ?_, (World.cell?_of_block (w := w) e).trans h.c2, (World.cell?_of_block (w := w) e).trans h.c3, (World.cell?_of_block (w := w) e).trans h.c4,
    fun j hj => (World.frozen?_of_block (w := w) e).trans (h.fr j hj), h.ne, Nat.lt_of_lt_of_le h.lb k.size, h.lg.imp id (fun q => Nat.lt_of_lt_of_le q k.size)⟩
  obtain ⟨A, cap, h1, h2, h3, h4⟩ := h.c1
  refine ⟨A, cap, (World.cell?_of_block (w := w) e).trans h1, h2, h3, ?_⟩
  rcases h4 with h4 | ⟨o, h4, h5⟩
  · exact .inl h4
  · rcases hg with hg | hg
    · exact .inl hg
    · rcases h.lg with hl | hl
      · exact .inl hl
      · exact .inr ⟨o, h4, h5.keep (k.block g hl hg)⟩

/-- Read. -/
theorem ref_run (r : Nat) (A : Option Addr) (cap : Nat) (st0 : List (Int × Int)) (d : ByteArray) (a calls : Nat) (n : Int) (w : World) (h : Rsc w r A cap st0 d a calls 0) (hc : calls ≤ 1000000) (ha : a ≤ d.size) (hd : d.size ≤ 1000000) (hl : st0.length ≤ 1000000)
    (G : 0 < st0.length → ∃ g o, A = some ⟨g, o, none⟩ ∧ g ≠ r ∧ ∀ i, i < st0.length → w.cell? ⟨g, o + i * 2, none⟩ = some (.int .i64 (st0.getD i (0, 0)).1) ∧ w.cell? ⟨g, o + i * 2 + 1, none⟩ = some (.int .i64 (st0.getD i (0, 0)).2)) :
    Calls Try.prog 18 #[.pointer (some ⟨r, 0, none⟩), .int .i64 n] w fun e w' => e = .returned (.tuple #[.string (d.extract a (a + cn n (st0.drop calls) (d.size - a))), .int .i64 (ov n (st0.drop calls) (d.size - a))]) ∧ Rsc w' r A cap st0 d (a + cn n (st0.drop calls) (d.size - a)) (calls + 1) (ov n (st0.drop calls) (d.size - a)) ∧ Kept (· = r) w w' := by
  by_cases hlt : calls < st0.length
  · obtain ⟨g, o, rfl, hgr, hcell⟩ := G (by omega)
    obtain ⟨z0, z1⟩ := hcell calls hlt
    rw [getD_drop st0 calls hlt]
    generalize st0.getD calls (0, 0) = x at z0 z1 ⊢
    generalize st0.drop (calls + 1) = rest
    refine ref_step r g o cap st0 d a calls (d.size - a) _ n x.1 x.2 _ w h hlt hd (by omega) (cn_le _ _ _) hl z0 z1 hgr (way_came _ _ _) ?_
    have := cn_le n (x :: rest) (d.size - a)
    unfold Kind ov fin
    rw [show top (x :: rest) (d.size - a) = x from rfl]
    by_cases h2 : x.2 = 2
    · rw [if_pos h2]; exact .inl ⟨h2, rfl⟩
    · rw [if_neg h2]
      by_cases h1 : x.2 = 1
      · by_cases h3 : (d.size - a) - cn n (x :: rest) (d.size - a) = 0
        · rw [if_pos ⟨h1, h3⟩]; exact .inr (.inl ⟨h1, by omega, rfl⟩)
        · rw [if_neg (fun h => h3 h.2)]; exact .inr (.inr (.inl ⟨h1, by omega, rfl⟩))
      · rw [if_neg (fun h => h1 h.1)]; exact .inr (.inr (.inr ⟨h2, h1, rfl⟩))
  · rw [List.drop_eq_nil_of_le (by omega)]
    by_cases hz : d.size - a = 0
    · obtain rfl : a = d.size := by omega
      have e1 : cn n [] (d.size - d.size) = 0 := by have := cn_le n [] (d.size - d.size); omega
      have e2 : ov n [] (d.size - d.size) = 1 := by unfold ov; rw [e1, Nat.sub_self]; rfl
      rw [e1, e2]
      exact ref_end0 r A cap st0 d calls n w h hlt hc hd hl
    · have et : top [] (d.size - a) = (((d.size - a : Nat) : Int), 0) := if_neg hz
      have e2 : ov n [] (d.size - a) = 0 := by unfold ov; rw [et]; rfl
      rw [e2]
      refine ref_endl r A cap st0 d a calls (d.size - a) _ n w h hlt hc hd (by omega) (by omega) (cn_le _ _ _) hl ?_
      unfold cn
      rw [et]
      unfold came
      simp only
      omega
end Go.Proofs.Ytakhdkfcnanglaa.Ref
