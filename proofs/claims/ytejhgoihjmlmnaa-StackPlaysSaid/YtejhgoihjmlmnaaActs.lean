/- The calls of a stack, as steps of a plain state; Copy (layer 8). -/
import Derived.Test.YtejhgoihjmlmnaaSums
import Derived.Deep.MidRow
import Derived.Deep.WholeRow
namespace Go.Proofs.Ytejhgoihjmlmnaa.Acts
open Go.RowKit
open Go.Proofs.Ytejhgoihjmlmnaa.Obj
set_option linter.unusedVariables false

/-! ### the pure steps: (f, d): what is left of each, how many are open -/
abbrev PS := (Nat → Int) × Nat
def pEnter (most : Nat) (s : PS) (n : Int) : Int × PS :=
  if n < 0 then (1, s) else if 0 < s.2 ∧ s.1 (s.2 - 1) < n then (5, s) else if s.2 = most then (10, s)
  else if s.2 = 0 then (0, (upd s.1 0 n, 1)) else (0, (upd (upd s.1 (s.2 - 1) (s.1 (s.2 - 1) - n)) s.2 n, s.2 + 1))
def pTake (s : PS) : Int × PS := if s.2 = 0 then (0, s) else if s.1 (s.2 - 1) = 0 then (5, s) else (0, (upd s.1 (s.2 - 1) (s.1 (s.2 - 1) - 1), s.2))
def pLeave (s : PS) : Bool × PS := if s.2 = 0 ∨ 0 < s.1 (s.2 - 1) then (false, s) else (true, (s.1, s.2 - 1))
def pLeft (s : PS) : Int := if s.2 = 0 then -1 else s.1 (s.2 - 1)
def pDo (most : Nat) (s : PS) (a : Int × Int) : Int × PS :=
  if a.1 = 1 then pEnter most s a.2 else if a.1 = 2 then pTake s else if a.1 = 3 then (if (pLeave s).1 then (1, (pLeave s).2) else (pLeft s, s)) else (pLeft s, s)

theorem enter_p (b most : Nat) (s : PS) (n : Int) (w : World) (h : Stk w b s.1 s.2 most) (hn : n ≤ 9223372036854775807) :
    Calls Try.prog 10 #[.pointer (some ⟨b, 0, none⟩), .int .i64 n] w fun e w' => e = .returned (.int .i64 (pEnter most s n).1) ∧ Stk w' b (pEnter most s n).2.1 (pEnter most s n).2.2 most ∧ Kept (· = b) w w' := by
  obtain ⟨f, d⟩ := s
  simp only at h
  unfold pEnter
  by_cases h0 : n < 0
  · rw [if_pos h0]
    refine (enter_neg b n w h0).mono ?_
    rintro e w' ⟨rfl, rfl⟩
    exact ⟨rfl, h, Kept.refl _ _⟩
  · rw [if_neg h0]
    cases d with
    | zero =>
      rw [if_neg (by simp)]
      by_cases hm : 0 = most
      · subst hm
        rw [if_pos rfl]
        exact (enter_full0 b f n w h (by omega)).mono fun e w' ⟨he, hs, hk⟩ => ⟨he, hs, hk⟩
      · rw [if_neg hm, if_pos rfl]
        exact (enter_first b most f n w h (by omega) hn (by omega)).mono fun e w' ⟨he, hs, hk⟩ => ⟨he, hs, hk⟩
    | succ k =>
      simp only [Nat.add_sub_cancel]
      by_cases hf : f k < n
      · rw [if_pos ⟨by omega, hf⟩]
        exact (enter_great b k most f n w h (by omega) hf).mono fun e w' ⟨he, hs, hk⟩ => ⟨he, hs, hk⟩
      · rw [if_neg (fun h => hf h.2)]
        by_cases hm : k + 1 = most
        · subst hm
          rw [if_pos rfl]
          exact (enter_full b k f n w h (by omega) (by omega)).mono fun e w' ⟨he, hs, hk⟩ => ⟨he, hs, hk⟩
        · rw [if_neg hm, if_neg (by omega)]
          have := h.dm
          exact (enter_deep b k most f n w h (by omega) (by omega) (by omega)).mono fun e w' ⟨he, hs, hk⟩ => ⟨he, hs, hk⟩
theorem take_p (b most : Nat) (s : PS) (w : World) (h : Stk w b s.1 s.2 most) :
    Calls Try.prog 11 #[.pointer (some ⟨b, 0, none⟩)] w fun e w' => e = .returned (.int .i64 (pTake s).1) ∧ Stk w' b (pTake s).2.1 (pTake s).2.2 most ∧ Kept (· = b) w w' := by
  obtain ⟨f, d⟩ := s
  simp only at h
  unfold pTake
  cases d with
  | zero =>
    rw [if_pos rfl]
    exact (take_none b most f w h).mono fun e w' ⟨he, hs, hk⟩ => ⟨he, hs, hk⟩
  | succ k =>
    rw [if_neg (by simp)]
    simp only [Nat.add_sub_cancel]
    by_cases h0 : f k = 0
    · rw [if_pos h0]
      exact (take_over b k most f w h h0).mono fun e w' ⟨he, hs, hk⟩ => ⟨he, hs, hk⟩
    · rw [if_neg h0]
      have := h.lo k (by omega)
      exact (take_some b k most f w h (by omega)).mono fun e w' ⟨he, hs, hk⟩ => ⟨he, hs, hk⟩
theorem leave_p (b most : Nat) (s : PS) (w : World) (h : Stk w b s.1 s.2 most) :
    Calls Try.prog 12 #[.pointer (some ⟨b, 0, none⟩)] w fun e w' => e = .returned (.bool (pLeave s).1) ∧ Stk w' b (pLeave s).2.1 (pLeave s).2.2 most ∧ Kept (· = b) w w' := by
  obtain ⟨f, d⟩ := s
  simp only at h
  unfold pLeave
  cases d with
  | zero =>
    rw [if_pos (by simp)]
    exact (leave_none b most f w h).mono fun e w' ⟨he, hs, hk⟩ => ⟨he, hs, hk⟩
  | succ k =>
    simp only [Nat.add_sub_cancel]
    have := h.lo k (by omega)
    by_cases h0 : 0 < f k
    · rw [if_pos (.inr h0)]
      exact (leave_no b k most f w h h0).mono fun e w' ⟨he, hs, hk⟩ => ⟨he, hs, hk⟩
    · rw [if_neg (by omega)]
      exact (leave_yes b k most f w h (by omega)).mono fun e w' ⟨he, hs, hk⟩ => ⟨he, hs, hk⟩
theorem left_p (b most : Nat) (s : PS) (w : World) (h : Stk w b s.1 s.2 most) :
    Calls Try.prog 13 #[.pointer (some ⟨b, 0, none⟩)] w fun e w' => e = .returned (.int .i64 (pLeft s)) ∧ Stk w' b s.1 s.2 most ∧ Kept (· = b) w w' := by
  obtain ⟨f, d⟩ := s
  simp only at h
  unfold pLeft
  cases d with
  | zero =>
    rw [if_pos rfl]
    exact (left_none b most f w h).mono fun e w' ⟨he, hs, hk⟩ => ⟨he, hs, hk⟩
  | succ k =>
    rw [if_neg (by simp)]
    exact (left_some b k most f w h).mono fun e w' ⟨he, hs, hk⟩ => ⟨he, hs, hk⟩

/-! ### Copy -/
theorem wpList_store_new {P : Program} {ops : Array Oper} {rest : List Oper} {op : Oper} {a : Act} {Q : Exit → Act → World → Prop} (w : World) (hgd : op.guard = none) (ty : TypeId) (x y : Operand) (ho : op.op = .store ty x y)
    (c c' : Array Value) (hx : a.eval x = .pointer (some ⟨w.heap.size, 0, none⟩)) (hy : a.eval y = .agg c') (hi : (P.info? ty).map (·.size) = some c'.size) (hs : c.size = c'.size) (h1 : c'.all (·.oneCell') = true)
    (h : wpList P ops Q rest (a.put op.dst undef) (w.alloc (.cells c' ty))) : wpList P ops Q (op :: rest) a (w.alloc (.cells c ty)) :=
  wpList_plain hgd fun K hK => by
    unfold Oper.wp execOp
    simp only [ho, hx, hy, Instr.storeAt, Instr.sureAddr, Sem.run_bind, Sem.run_pure, Result.andThen_ok, run_storeVar_new w ty c c' hi hs h1]
    exact hK _ _ h
/-- the cells of a stack -/
def cellsOf (f : Nat → Int) (d most : Nat) : Array Value := (Array.ofFn fun i : Fin 66 => if i.val < 64 then .int .i64 (f i.val) else if i.val = 64 then .int .i64 d else .int .i64 most)
theorem cellsOf_size (f : Nat → Int) (d most : Nat) : (cellsOf f d most).size = 66 := by simp [cellsOf]
theorem cellsOf_at (f : Nat → Int) (d most : Nat) (j : Nat) (hj : j < 66) : (cellsOf f d most)[j]? = some (if j < 64 then .int .i64 (f j) else if j = 64 then .int .i64 d else .int .i64 most) := by
  simp [cellsOf, hj]
theorem Stk.range {w : World} {b d most : Nat} {f : Nat → Int} (h : Stk w b f d most) : w.rangeAt b 0 (cellsOf f d most).toList := by
  intro j v hv
  rw [Array.getElem?_toList] at hv
  have hj : j < 66 := by have := (Array.getElem?_eq_some_iff.1 hv).1; rwa [cellsOf_size] at this
  rw [cellsOf_at f d most j hj] at hv
  rw [Nat.zero_add, ← hv]
  by_cases h1 : j < 64
  · rw [if_pos h1]; exact h.cell j h1
  · rw [if_neg h1]
    by_cases h2 : j = 64
    · rw [if_pos h2, h2]; exact h.cd
    · rw [if_neg h2, show j = 65 from by omega]; exact h.cm
theorem cellsOf_one (f : Nat → Int) (d most : Nat) : (cellsOf f d most).all (·.oneCell') = true := by
  rw [Array.all_eq_true]
  intro i hi
  have hi' : i < 66 := by simpa [cellsOf_size] using hi
  have := cellsOf_at f d most i hi'
  rw [Array.getElem?_eq_getElem hi] at this
  rw [Option.some.inj this]
  split
  · rfl
  · split <;> rfl
theorem stk_copied {w0 : World} {b0 d most : Nat} {f : Nat → Int} (h : Stk w0 b0 f d most) (w : World) : Stk (w.alloc (.cells (cellsOf f d most) 46)) w.heap.size f d most where
  cell j hj := by rw [World.cell?_alloc_new, cellsOf_at f d most j (by omega), if_pos hj]
  cd := by rw [World.cell?_alloc_new, cellsOf_at f d most 64 (by omega)]; rfl
  cm := by rw [World.cell?_alloc_new, cellsOf_at f d most 65 (by omega)]; rfl
  free j hj := by simp
  dm := h.dm
  m64 := h.m64
  lo := h.lo
  hi := h.hi
  lt := by simp
theorem size46 : (Try.prog.info? 46).map (·.size) = some 66 := by kernel_rfl

set_option maxHeartbeats 400000 in
theorem copy_c (b d most : Nat) (f : Nat → Int) (w : World) (h : Stk w b f d most) :
    Calls Try.prog 19 #[.pointer (some ⟨b, 0, none⟩)] w fun e w' => e = .returned (.pointer (some ⟨w.heap.size, 0, none⟩)) ∧ Stk w' b f d most ∧ Stk w' w.heap.size f d most ∧ Kept (fun _ => False) w w' := by
  have hz := zero46
  have hr := Stk.range h
  have hcs := cellsOf_size f d most
  have h1 := cellsOf_one f d most
  have S1 := stk_copied h w
  have K1 : Kept (fun _ => False) w (w.alloc (.cells (cellsOf f d most) 46)) := (Kept.refl _ w).alloc _
  have S2 := h.keep K1 (fun h => h)
  clear h
  generalize cellsOf f d most = cs at hr hcs h1 S1 K1 S2
  have HC := Lib.hid hcs
  have HR := Lib.hid hr
  have H1 := Lib.hid h1
  clear hcs hr h1
  go_enter Try.func19, Try.ntmps19
  go_wp2_with (first
    | (refine wpList_load_mid rfl 46 (.tmp 5) rfl b 0 rfl cs.toList _ HR.out Try.underlying46 rfl (by rw [Array.length_toList, HC.out]; exact size46) ?_)
    | (refine wpList_store_new w rfl 46 (.tmp 3) (.tmp 6) rfl zs cs rfl rfl (by rw [HC.out]; exact size46) (by rw [HC.out, zs_size]) H1.out ?_))
  all_goals go_wp2
  go_ret
  exact ⟨rfl, S2, S1, K1⟩

/-! ### do -/
set_option maxHeartbeats 1000000 in
theorem do_c (b most : Nat) (s : PS) (k n : Int) (w : World) (h : Stk w b s.1 s.2 most) (hn : n ≤ 9223372036854775807) :
    Calls Try.prog 21 #[.pointer (some ⟨b, 0, none⟩), .agg #[.int .i64 k, .int .i64 n]] w fun e w' => e = .returned (.int .i64 (pDo most s (k, n)).1) ∧ Stk w' b (pDo most s (k, n)).2.1 (pDo most s (k, n)).2.2 most ∧ Kept (· = b) w w' := by
  have lb := h.lt
  have h1 := h.keep ((Kept.refl (fun _ => False) w).alloc (.cells #[.int .i64 k, .int .i64 n] 37)) (fun h => h)
  have K1 := Lib.hid ((Kept.refl (· = b) w).alloc (.cells #[.int .i64 k, .int .i64 n] 37))
  clear h
  unfold pDo
  by_cases k1 : k = 1
  · subst k1
    simp only [if_true]
    go_enter Try.func21, Try.ntmps21
    go_wp2_with fail
    refine (enter_p b most s n _ h1 hn).mono ?_
    rintro e w1 ⟨rfl, S1, K2⟩
    have K3 := Lib.hid (K1.out.trans K2)
    clear K2
    go_wp2_with fail
    go_ret
    exact ⟨rfl, S1, K3.out⟩
  · rw [if_neg k1]
    by_cases k2 : k = 2
    · subst k2
      simp only [if_true]
      go_enter Try.func21, Try.ntmps21
      go_wp2_with fail
      refine (take_p b most s _ h1).mono ?_
      rintro e w1 ⟨rfl, S1, K2⟩
      have K3 := Lib.hid (K1.out.trans K2)
      clear K2
      go_wp2_with fail
      go_ret
      exact ⟨rfl, S1, K3.out⟩
    · rw [if_neg k2]
      by_cases k3 : k = 3
      · subst k3
        simp only [if_true]
        have hp : pLeave s = (false, s) ∨ (pLeave s).1 = true := by
          unfold pLeave
          split
          · exact .inl rfl
          · exact .inr rfl
        rcases hp with hp | hp
        · rw [hp]
          simp only [Bool.false_eq_true, if_false]
          go_enter Try.func21, Try.ntmps21
          go_wp2_with fail
          refine (leave_p b most s _ h1).mono ?_
          rw [hp]
          rintro e w1 ⟨rfl, S1, K2⟩
          have K3 := Lib.hid (K1.out.trans K2)
          clear K2 hp
          go_wp2_with fail
          refine (left_p b most s _ S1).mono ?_
          rintro e w2 ⟨rfl, S2, K4⟩
          have K5 := Lib.hid (K3.out.trans K4)
          clear K4 S1 K3
          go_wp2_with fail
          go_ret
          exact ⟨rfl, S2, K5.out⟩
        · rw [hp]
          simp only [if_true]
          go_enter Try.func21, Try.ntmps21
          go_wp2_with fail
          refine (leave_p b most s _ h1).mono ?_
          rw [hp]
          rintro e w1 ⟨rfl, S1, K2⟩
          have K3 := Lib.hid (K1.out.trans K2)
          clear K2 hp
          go_wp2_with fail
          go_ret
          exact ⟨rfl, S1, K3.out⟩
      · rw [if_neg k3]
        go_enter Try.func21, Try.ntmps21
        go_wp2_with fail
        refine (left_p b most s _ h1).mono ?_
        rintro e w1 ⟨rfl, S1, K2⟩
        have K3 := Lib.hid (K1.out.trans K2)
        clear K2
        go_wp2_with fail
        go_ret
        exact ⟨rfl, S1, K3.out⟩

/-! ### acts that came in -/
/-- Acts that a slice holds: two whole numbers each. -/
structure Given (w : World) (A : Option Addr) (st : List (Int × Int)) (cap : Nat) : Prop where
  le : st.length ≤ cap
  most : cap ≤ 9223372036854775807
  at_ : (A = none ∧ st = [] ∧ cap = 0) ∨ ∃ a, A = some a ∧ (st = [] ∨ ∃ g o, a = ⟨g, o, none⟩ ∧ g < w.heap.size ∧ ∀ i, i < st.length → w.cell? ⟨g, o + i * 2, none⟩ = some (.int .i64 (st.getD i (0, 0)).1) ∧ w.cell? ⟨g, o + i * 2 + 1, none⟩ = some (.int .i64 (st.getD i (0, 0)).2))
  wf : ∀ i, i < st.length → -9223372036854775808 ≤ (st.getD i (0, 0)).2 ∧ (st.getD i (0, 0)).2 ≤ 9223372036854775807
theorem Given.none_ (w : World) : Given w none [] 0 := ⟨by simp, by omega, .inl ⟨rfl, rfl, rfl⟩, fun i hi => by simp at hi⟩
theorem add_plain (g o j : Nat) : (⟨g, o, none⟩ : Addr).add j = ⟨g, o + j, none⟩ := by unfold Addr.add; split <;> simp_all
theorem Given.of_pairs {w : World} {a : Addr} {st : List (Int × Int)} {cap : Nat} (hl : st.length ≤ cap) (hm : cap ≤ 9223372036854775807)
    (h : ∀ i, i < st.length → w.cell? (a.add (i * 2)) = some (.int .i64 (st.getD i (0, 0)).1) ∧ w.cell? (a.add (i * 2 + 1)) = some (.int .i64 (st.getD i (0, 0)).2))
    (wf : ∀ i, i < st.length → (Lit.int .i64 (st.getD i (0, 0)).1).wf = true ∧ (Lit.int .i64 (st.getD i (0, 0)).2).wf = true) : Given w (some a) st cap := by
  refine ⟨hl, hm, .inr ⟨a, rfl, ?_⟩, fun i hi => ?_⟩
  · cases st with
    | nil => exact .inl rfl
    | cons x st =>
      obtain ⟨g, o, sp⟩ := a
      have h0 := (h 0 (by simp)).1
      have hsp : sp = none := by simpa [Addr.add] using World.cell?_spot h0
      subst hsp
      refine .inr ⟨g, o, rfl, ?_, fun i hi => ?_⟩
      · have := World.block_lt_of_cell? w _ h0
        simpa [Addr.add] using this
      · have := h i hi
        rwa [add_plain, add_plain] at this
  · have := (wf i hi).2
    simpa [Lit.wf, IntKind.min, IntKind.max, IntKind.signed, IntKind.bits] using this
theorem Given.plain {w : World} {A : Option Addr} {st : List (Int × Int)} {cap : Nat} (h : Given w A st cap) (hp : 0 < st.length) :
    ∃ g o, A = some ⟨g, o, none⟩ ∧ g < w.heap.size ∧ ∀ i, i < st.length → w.cell? ⟨g, o + i * 2, none⟩ = some (.int .i64 (st.getD i (0, 0)).1) ∧ w.cell? ⟨g, o + i * 2 + 1, none⟩ = some (.int .i64 (st.getD i (0, 0)).2) := by
  rcases h.at_ with ⟨_, rfl, _⟩ | ⟨a, rfl, rfl | ⟨g, o, rfl, h1, h2⟩⟩
  · simp at hp
  · simp at hp
  · exact ⟨g, o, rfl, h1, h2⟩
end Go.Proofs.Ytejhgoihjmlmnaa.Acts
