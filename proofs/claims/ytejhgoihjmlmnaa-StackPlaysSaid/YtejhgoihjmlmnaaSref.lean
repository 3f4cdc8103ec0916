/- The document's stack: what it holds, and its methods (layer 8). -/
import Derived.Test.YtejhgoihjmlmnaaCopies
import Derived.Deep.AppendLies
import Derived.Deep.RegionLaw
namespace Go.Proofs.Ytejhgoihjmlmnaa.Sref
open Go.RowKit
open Go.Proofs.Ytejhgoihjmlmnaa.Obj Go.Proofs.Ytejhgoihjmlmnaa.Acts Go.Proofs.Ytejhgoihjmlmnaa.Copies
set_option linter.unusedVariables false

/-- whole numbers, as values -/
def vals (f : Nat → Int) (d : Nat) : List Value := (List.range d).map fun j => .int .i64 (f j)
theorem vals_length (f : Nat → Int) (d : Nat) : (vals f d).length = d * 1 := by simp [vals]
theorem vals_one (f : Nat → Int) (d : Nat) : ∀ u ∈ vals f d, u.oneCell' = true := by
  intro u hu
  simp only [vals, List.mem_map] at hu
  obtain ⟨x, _, rfl⟩ := hu
  rfl
theorem vals_get (f : Nat → Int) (d j : Nat) (u : Value) (h : (vals f d)[j]? = some u) : j < d ∧ u = .int .i64 (f j) := by
  have hj : j < d := by have := (List.getElem?_eq_some_iff.1 h).1; simpa [vals] using this
  refine ⟨hj, ?_⟩
  simp [vals, hj] at h
  exact h.symm
theorem vals_at (f : Nat → Int) (d j : Nat) (hj : j < d) : (vals f d)[j]? = some (.int .i64 (f j)) := by simp [vals, hj]
theorem vals_succ (f : Nat → Int) (d : Nat) : vals f (d + 1) = vals f d ++ [.int .i64 (f d)] := by simp [vals, List.range_succ]

/-- where the numbers lie -/
def Lies (w : World) (A : Option Addr) (d cap g : Nat) (f : Nat → Int) : Prop :=
  (A = none ∧ d = 0 ∧ cap = 0) ∨ ∃ a, A = some a ∧ (d = 0 ∨ a = ⟨g, 0, none⟩ ∧ ∀ j, j < d → w.cell? ⟨g, j, none⟩ = some (.int .i64 (f j)))
/-- The document's stack at block r, its numbers in block g. -/
structure Rsk (w : World) (r g most : Nat) (f : Nat → Int) (d : Nat) : Prop where
  c0 : w.cell? ⟨r, 0, none⟩ = some (.int .i64 most)
  c1 : ∃ (A : Option Addr) (cap : Nat), w.cell? ⟨r, 1, none⟩ = some (.slice A d cap) ∧ d ≤ cap ∧ cap ≤ 9223372036854775807 ∧
    Lies w A d cap g f
  f0 : w.frozen? ⟨r, 0, none⟩ = false
  f1 : w.frozen? ⟨r, 1, none⟩ = false
  ne : d = 0 ∨ g ≠ r
  lb : r < w.heap.size
  lg : d = 0 ∨ g < w.heap.size
theorem Rsk.keep {S : Nat → Prop} {w w' : World} {r g most d : Nat} {f : Nat → Int} (h : Rsk w r g most f d) (k : Kept S w w') (hr : ¬S r) (hg : d = 0 ∨ ¬S g) : Rsk w' r g most f d := by
  have e := k.block r h.lb hr
  refine ⟨(World.cell?_of_block (w := w) e).trans h.c0, ?_, (World.frozen?_of_block (w := w) e).trans h.f0, (World.frozen?_of_block (w := w) e).trans h.f1, h.ne, Nat.lt_of_lt_of_le h.lb k.size, h.lg.imp id (fun q => Nat.lt_of_lt_of_le q k.size)⟩
  obtain ⟨A, cap, h1, h2, h3, h4⟩ := h.c1
  refine ⟨A, cap, (World.cell?_of_block (w := w) e).trans h1, h2, h3, h4.imp id (fun ⟨a, ha, hc⟩ => ⟨a, ha, ?_⟩)⟩
  rcases hc with hc | ⟨hc, hd⟩
  · exact .inl hc
  · rcases hg with hg | hg
    · exact .inl hg
    · rcases h.lg with hl | hl
      · exact .inl hl
      · exact .inr ⟨hc, fun j hj => (World.cell?_of_block (w := w) (a := ⟨g, j, none⟩) (k.block g hl hg)).trans (hd j hj)⟩
theorem Rsk.drewN {w : World} {r g most d : Nat} {f : Nat → Int} (h : Rsk w r g most f d) (n : Nat) : Rsk (w.drewN n) r g most f d := ⟨h.c0, h.c1, h.f0, h.f1, h.ne, h.lb, h.lg⟩
/-- the numbers are in another block now -/
theorem Rsk.put {w w1 w2 : World} {r g g' most d d' : Nat} {f f' : Nat → Int} (h : Rsk w r g most f d) (K : Kept (fun _ => False) w w1) (cap : Nat) (hw : w2 = w1.setCell ⟨r, 1, none⟩ (.slice (some ⟨g', 0, none⟩) d' cap)) (hc : d' ≤ cap) (hm : cap ≤ 9223372036854775807)
    (hv : ∀ j, j < d' → w1.cell? ⟨g', j, none⟩ = some (.int .i64 (f' j))) (hg : w.heap.size ≤ g') (hgs : g' < w1.heap.size) : Rsk w2 r g' most f' d' := by
  subst hw
  have e := K.block r h.lb (fun h => h)
  have hlb := h.lb
  obtain ⟨A, cap0, h1, _⟩ := h.c1
  refine ⟨(cs_other (by simp)).trans ((World.cell?_of_block (w := w) e).trans h.c0), ⟨_, cap, cs_same ((World.cell?_of_block (w := w) e).trans h1), hc, hm, .inr ⟨_, rfl, .inr ⟨rfl, fun j hj => (cs_other (by simp <;> omega)).trans (hv j hj)⟩⟩⟩, ?_, ?_, .inr (by omega), ?_, .inr ?_⟩
  · rw [World.frozen?_setCell]; exact (World.frozen?_of_block (w := w) e).trans h.f0
  · rw [World.frozen?_setCell]; exact (World.frozen?_of_block (w := w) e).trans h.f1
  · rw [World.size_setCell]; exact Nat.lt_of_lt_of_le hlb K.size
  · rw [World.size_setCell]; exact hgs

theorem rlast_none (r g most : Nat) (f : Nat → Int) (w : World) (h : Rsk w r g most f 0) :
    Calls Try.prog 20 #[.pointer (some ⟨r, 0, none⟩)] w fun e w' => e = .returned (.int .i64 (-1)) ∧ ∃ n, w' = w.drewN n := by
  obtain ⟨A, cap, c1, _⟩ := h.c1
  go_enter Try.func20, Try.ntmps20
  go_wp2
  go_ret
  exact ⟨rfl, 0, rfl⟩
theorem rlast_some (r g most k : Nat) (f : Nat → Int) (w : World) (h : Rsk w r g most f (k + 1)) (hk : k < 64) :
    Calls Try.prog 20 #[.pointer (some ⟨r, 0, none⟩)] w fun e w' => e = .returned (.int .i64 (f k)) ∧ ∃ n, w' = w.drewN n := by
  obtain ⟨A, cap, c1, h2, h3, ⟨_, h4, _⟩ | ⟨a, rfl, h4 | ⟨rfl, h4⟩⟩⟩ := h.c1
  · simp at h4
  · simp at h4
  · have z := h4 k (by omega)
    rw [show ((k + 1 : Nat)) = k + 1 from rfl] at c1
    clear h4
    go_enter Try.func20, Try.ntmps20
    go_wp2_with fail
    go_quiet (fail)
    go_wp2
    go_ret
    exact ⟨rfl, _, rfl⟩
theorem rlast_p (r g most : Nat) (s : PS) (w : World) (h : Rsk w r g most s.1 s.2) (hd : s.2 ≤ 64) :
    Calls Try.prog 20 #[.pointer (some ⟨r, 0, none⟩)] w fun e w' => e = .returned (.int .i64 (pLeft s)) ∧ ∃ n, w' = w.drewN n := by
  obtain ⟨f, d⟩ := s
  unfold pLeft
  cases d with
  | zero => exact rlast_none r g most f w h
  | succ k => exact rlast_some r g most k f w h hd

/-- a new row -/
def IsRow (w w' : World) (d : Nat) (v : Value) : Prop := ∃ g' cap', v = .slice (some ⟨g', 0, none⟩) d cap' ∧ w.heap.size ≤ g' ∧ g' < w'.heap.size
theorem IsRow.out {w w' : World} {d : Nat} {v : Value} (h : IsRow w w' d v) : ∃ g' cap', v = .slice (some ⟨g', 0, none⟩) d cap' ∧ w.heap.size ≤ g' ∧ g' < w'.heap.size := h
/-- 'append([]int{}, s.Left..)' -/
theorem run_copyI (A : Option Addr) (d cap g : Nat) (f : Nat → Int) (w : World) (hA : Lies w A d cap g f) (hd : d ≤ 1000) (t : TypeId) (dr : Nat) :
    ∃ v w', (Builtin.append_ #[22, 22] t #[.slice (some ⟨w.heap.size, 0, none⟩) 0 0, .slice A d cap]).run Try.prog ((w.drewN dr).alloc (.cells #[] 3)) = .ok v w' ∧ w'.ownsRow w.heap.size 3 1 v d (vals f d) ∧ Kept (fun _ => False) w w' ∧ w.heap.size < w'.heap.size ∧ (∃ g' cap', v = .slice (some ⟨g', 0, none⟩) d cap' ∧ w.heap.size ≤ g' ∧ g' < w'.heap.size) := by
  obtain ⟨i0, hi, hz0, hz1, hz2⟩ := info_parts info3
  have hown := World.ownsRow_lit (base := w.heap.size) (e := 3) (size := 1) (w.drewN dr) #[] 0 (Nat.le_refl _) (by simp [maxLen]) (by simp)
  have K0 : Kept (fun _ => False) w ((w.drewN dr).alloc (.cells #[] 3)) := ((Kept.refl _ w).drewN dr).alloc _
  have hsz : w.heap.size < ((w.drewN dr).alloc (.cells #[] 3)).heap.size := by show w.heap.size < (w.heap.push _).size; simp
  rcases hA with ⟨rfl, rfl, rfl⟩ | ⟨a, rfl, ha⟩
  · exact ⟨_, _, run_append_owned_none ((w.drewN dr).alloc (.cells #[] 3)) w.heap.size 22 t 3 i0 1 Try.underlying22 hi _ 0 [] hown, by simpa [vals] using hown, K0, hsz, _, _, rfl, Nat.le_refl _, hsz⟩
  · have hcc : ∀ j u, (vals f d)[j]? = some u → ((w.drewN dr).alloc (.cells #[] 3)).cell? (a.add j) = some u := fun j u hj => by
      obtain ⟨hj2, rfl⟩ := vals_get f d j u hj
      rcases ha with ha | ⟨rfl, ha⟩
      · omega
      · rw [add_plain, Nat.zero_add]
        have hc := ha j hj2
        exact (World.cell?_of_block (w := w) (a := ⟨g, j, none⟩) (K0.block g (World.block_lt_of_cell? w _ hc) (fun h => h))).trans hc
    obtain ⟨v', w', hr, ho, hg, hn⟩ := run_append_own ((w.drewN dr).alloc (.cells #[] 3)) (P := Try.prog) w.heap.size 22 t 3 i0 _ 1 8 Try.underlying22 hi hz0 hz1 hz2 rfl (by decide) _ 0 [] hown a d cap (vals f d) (vals_length f d) hcc (vals_one f d) (by unfold maxLen; omega) (by omega) (by simp)
    rw [Nat.zero_add, List.nil_append] at ho
    refine ⟨v', w', hr, ho, ?_, Nat.lt_of_lt_of_le hsz hg.size, ?_⟩
    rotate_left
    · rcases ho.2 with ⟨h1, _⟩ | ⟨g', cap', cur, h1, h2, h3, _⟩
      · simp [h1] at hn
      · exact ⟨g', cap', h1, h2, (Array.getElem?_eq_some_iff.1 h3).1⟩
    exact ⟨hg.os.trans K0.os, hg.tape.trans K0.tape, hg.output.trans K0.output, Nat.le_trans K0.size hg.size, fun i hi' _ => (hg.block i (Nat.lt_of_lt_of_le hi' K0.size) (by simp [Value.ownBlock]; omega)).trans (K0.block i hi' (fun h => h))⟩
theorem wp_copyI {o : Oper} {a : Act} {K : Act → World → Prop} {Q : Exit → Act → World → Prop} (s x : Operand)
    (ho : o.op = .call { callee := .builtin .append, args := #[s, x], argTypes := #[22, 22] }) (A : Option Addr) (d cap g : Nat) (f : Nat → Int) (w : World) (hA : Lies w A d cap g f) (hd : d ≤ 1000) (dr : Nat)
    (hs : a.eval s = .slice (some ⟨w.heap.size, 0, none⟩) 0 0) (hx : a.eval x = .slice A d cap)
    (h : ∀ v w', w'.ownsRow w.heap.size 3 1 v d (vals f d) → Kept (fun _ => False) w w' → w.heap.size < w'.heap.size → IsRow w w' d v → K (a.put o.dst v) w') : o.wp Try.prog a ((w.drewN dr).alloc (.cells #[] 3)) K Q := by
  obtain ⟨v, w', hrun, h1, h2, h3, h4⟩ := run_copyI A d cap g f w hA hd o.type dr
  unfold Oper.wp execOp
  simp only [ho, resolve, invoke, builtin, Sem.run_bind, Sem.run_pure, Result.andThen_ok, List.map_toArray, List.map_cons, List.map_nil, hs, hx, hrun]
  exact h v w' h1 h2 h3 h4
theorem wpList_copyI {ops : Array Oper} {rest : List Oper} {o : Oper} {a : Act} {Q : Exit → Act → World → Prop} (hgd : o.guard = none) (s x : Operand)
    (ho : o.op = .call { callee := .builtin .append, args := #[s, x], argTypes := #[22, 22] }) (A : Option Addr) (d cap g : Nat) (f : Nat → Int) (w : World) (hA : Lies w A d cap g f) (hd : d ≤ 1000)
    (hs : a.eval s = .slice (some ⟨w.heap.size, 0, none⟩) 0 0) (hx : a.eval x = .slice A d cap)
    (h : ∀ v w', w'.ownsRow w.heap.size 3 1 v d (vals f d) → Kept (fun _ => False) w w' → w.heap.size < w'.heap.size → IsRow w w' d v → wpList Try.prog ops Q rest (a.put o.dst v) w') : wpList Try.prog ops Q (o :: rest) a (w.alloc (.cells #[] 3)) :=
  wpList_plain hgd fun K hK => wp_copyI s x ho A d cap g f w hA hd 0 hs hx fun v w' h1 h2 h3 h4 => hK _ _ (h v w' h1 h2 h3 h4)

set_option maxHeartbeats 400000 in
theorem rset_c (r g most k : Nat) (f : Nat → Int) (n : Int) (w : World) (h : Rsk w r g most f (k + 1)) (hk : k < 64) :
    Calls Try.prog 22 #[.pointer (some ⟨r, 0, none⟩), .int .i64 n] w fun e w' => e = .returned (.tuple #[]) ∧ (∃ g', Rsk w' r g' most (upd f k n) (k + 1) ∧ w.heap.size ≤ g') ∧ Kept (· = r) w w' := by
  have H := Lib.hid h
  obtain ⟨A, cap, c1, h2, h3, h4⟩ := h.c1
  have f1 := h.f1
  have lb := h.lb
  clear h
  have H4 := Lib.hid h4
  clear h4
  go_enter Try.func22, Try.ntmps22
  go_wp2_with (at_builtin; refine wpList_copyI rfl (.tmp 5) (.tmp 9) rfl A (k + 1) cap g f w H4.out ?c1 rfl rfl ?_)
  case c1 => omega
  intro v w1 ho hk1 hs1 hv
  obtain ⟨g', cap', rfl, hg', hgs⟩ := hv.out
  have z := ho.cellAt k (by omega)
  rw [show (vals f (k + 1))[k]? = some (.int .i64 (f k)) from by simp [vals]] at z
  have zf := ho.frozenAt k
  have c1' : w1.cell? ⟨r, 1, none⟩ = some (.slice A (k + 1) cap) := (World.cell?_of_block (w := w) (a := ⟨r, 1, none⟩) (hk1.block r lb (fun h => h))).trans c1
  have f1' : w1.frozen? ⟨r, 1, none⟩ = false := (World.frozen?_of_block (w := w) (a := ⟨r, 1, none⟩) (hk1.block r lb (fun h => h))).trans f1
  have HO := Lib.hid ho
  have HK := Lib.hid hk1
  have hne : g' ≠ r := by omega
  clear ho hk1 c1 f1
  go_wp2_with fail
  go_end0
  refine ⟨rfl, ⟨g', ?_, hg'⟩, ?_⟩
  · have K2 : Kept (fun _ => False) w (w1.setCell ⟨g', k, none⟩ (.int .i64 n)) :=
      ⟨HK.out.os, HK.out.tape, HK.out.output, by rw [World.size_setCell]; exact HK.out.size, fun i hi _ => (Below.heap_setCell _ _ _ _ (by show i ≠ g'; omega)).trans (HK.out.block i hi (fun h => h))⟩
    obtain ⟨_, hh⟩ := HO.out
    rcases hh with ⟨hh, _⟩ | ⟨g2, cap2, cur, hv, _, _, hle, hmm, _⟩
    · simp at hh
    · simp only [Value.slice.injEq, Option.some.injEq, Addr.mk.injEq, and_true, true_and] at hv
      obtain ⟨rfl, rfl⟩ := hv
      refine H.out.put K2 cap' rfl hle (by unfold maxLen at hmm; omega) (fun j hj => ?_) hg' (by rw [World.size_setCell]; exact hgs)
      by_cases hjk : j = k
      · subst hjk
        rw [cs_same z]
        simp [upd]
      · rw [cs_other (by simp <;> omega)]
        have := HO.out.cellAt j (by omega)
        rw [show (vals f (k + 1))[j]? = some (.int .i64 (f j)) from by simp [vals, hj]] at this
        rw [this]
        simp [upd, hjk]
  · exact Kept.setIn ⟨HK.out.os, HK.out.tape, HK.out.output, by rw [World.size_setCell]; exact HK.out.size, fun i hi _ => (Below.heap_setCell _ _ _ _ (by show i ≠ g'; omega)).trans (HK.out.block i hi (fun h => h))⟩

/-! ### Enter -/
theorem dn (w : World) (a b : Nat) : (w.drewN a).drewN b = w.drewN (a + b) := by simp
theorem renter_neg (r : Nat) (n : Int) (w : World) (h : n < 0) :
    Calls Try.prog 16 #[.pointer (some ⟨r, 0, none⟩), .int .i64 n] w fun e w' => e = .returned (.int .i64 1) ∧ w = w' := by
  go_enter Try.func16, Try.ntmps16
  go_wp2
  go_ret
  exact ⟨rfl, rfl⟩
set_option maxHeartbeats 400000 in
theorem renter_great (r g most k : Nat) (f : Nat → Int) (n : Int) (w : World) (h : Rsk w r g most f (k + 1)) (hk : k < 64) (h0 : 0 ≤ n) (hf0 : 0 ≤ f k) (h1 : f k < n) :
    Calls Try.prog 16 #[.pointer (some ⟨r, 0, none⟩), .int .i64 n] w fun e w' => e = .returned (.int .i64 5) ∧ ∃ m, w' = w.drewN m := by
  have t0 : ¬n < 0 := by omega
  go_enter Try.func16, Try.ntmps16
  go_wp2_with fail
  refine (rlast_some r g most k f w h hk).mono ?_
  rintro e w1 ⟨rfl, m, rfl⟩
  go_wp2_with fail
  refine (rlast_some r g most k f _ (h.drewN m) hk).mono ?_
  rintro e w1 ⟨rfl, m2, rfl⟩
  go_wp2_with fail
  go_ret
  exact ⟨rfl, m + m2, by simp⟩
set_option maxHeartbeats 400000 in
theorem renter_full0 (r g : Nat) (f : Nat → Int) (n : Int) (w : World) (h : Rsk w r g 0 f 0) (h0 : 0 ≤ n) :
    Calls Try.prog 16 #[.pointer (some ⟨r, 0, none⟩), .int .i64 n] w fun e w' => e = .returned (.int .i64 10) ∧ ∃ m, w' = w.drewN m := by
  have t0 : ¬n < 0 := by omega
  have c0 : w.cell? ⟨r, 0, none⟩ = some (.int .i64 0) := h.c0
  obtain ⟨A, cap, c1, h2⟩ := h.c1
  clear h2
  go_enter Try.func16, Try.ntmps16
  go_wp2_with fail
  refine (rlast_none r g 0 f w h).mono ?_
  rintro e w1 ⟨rfl, m, rfl⟩
  go_wp2_with fail
  go_quiet (fail)
  go_wp2
  go_ret
  exact ⟨rfl, ⟨_, dn _ _ _⟩⟩
set_option maxHeartbeats 400000 in
theorem renter_full (r g k : Nat) (f : Nat → Int) (n : Int) (w : World) (h : Rsk w r g (k + 1) f (k + 1)) (hk : k < 64) (h0 : 0 ≤ n) (hf0 : 0 ≤ f k) (h1 : n ≤ f k) :
    Calls Try.prog 16 #[.pointer (some ⟨r, 0, none⟩), .int .i64 n] w fun e w' => e = .returned (.int .i64 10) ∧ ∃ m, w' = w.drewN m := by
  have t0 : ¬n < 0 := by omega
  have c0 : w.cell? ⟨r, 0, none⟩ = some (.int .i64 ((k : Int) + 1)) := h.c0
  obtain ⟨A, cap, c1, h2⟩ := h.c1
  clear h2
  go_enter Try.func16, Try.ntmps16
  go_wp2_with fail
  refine (rlast_some r g (k + 1) k f w h hk).mono ?_
  rintro e w1 ⟨rfl, m, rfl⟩
  go_wp2_with fail
  refine (rlast_some r g (k + 1) k f _ (h.drewN m) hk).mono ?_
  rintro e w1 ⟨rfl, m2, rfl⟩
  have t1 : ¬f k < n := by omega
  go_wp2_with fail
  go_quiet (fail)
  go_wp2
  go_ret
  exact ⟨rfl, ⟨_, dn _ _ _⟩⟩


set_option maxHeartbeats 1000000 in
theorem renter_first (r g most : Nat) (f : Nat → Int) (n : Int) (w : World) (h : Rsk w r g most f 0) (h0 : 0 ≤ n) (hm : 0 < most) :
    Calls Try.prog 16 #[.pointer (some ⟨r, 0, none⟩), .int .i64 n] w fun e w' => e = .returned (.int .i64 0) ∧ (∃ g', Rsk w' r g' most (upd f 0 n) 1 ∧ w.heap.size ≤ g') ∧ Kept (· = r) w w' := by
  have t0 : ¬n < 0 := by omega
  obtain ⟨i0, hi, hz0, hz1, hz2⟩ := info_parts info3
  go_enter Try.func16, Try.ntmps16
  go_wp2_with fail
  refine (rlast_none r g most f w h).mono ?_
  rintro e w1 ⟨rfl, m, rfl⟩
  have H := Lib.hid (h.drewN m)
  have K0 := Lib.hid ((Kept.refl (· = r) w).drewN m)
  have hsz : Hid (w.heap.size ≤ (w.drewN m).heap.size) := Nat.le_refl _
  clear h
  obtain ⟨g2, hg2⟩ : ∃ g2, g2 = g := ⟨_, rfl⟩
  obtain ⟨f2, hf2⟩ : ∃ f2, f2 = f := ⟨_, rfl⟩
  rw [← hg2, ← hf2] at H
  have HF := Lib.hid hf2
  clear hg2 hf2
  generalize (w.drewN m) = w2 at H K0 hsz ⊢
  have c0 := H.out.c0
  have c1 := H.out.c1
  have f1 := H.out.f1
  have lb := H.out.lb
  obtain ⟨A, cap, c1, h2, h3, H4⟩ := c1
  clear h2
  have t1 : ¬(most : Int) ≤ 0 := by omega
  go_wp2_with fail
  go_quiet (fail)
  have f1' : (w2.drewN nq).frozen? ⟨r, 1, none⟩ = false := f1
  have c1' : (w2.drewN nq).cell? ⟨r, 1, none⟩ = some (.slice A 0 cap) := c1
  have K1 := Lib.hid (K0.out.drewN nq)
  have H1 := Lib.hid (H.out.drewN nq)
  have H4' : Lies (w2.drewN nq) A 0 cap g2 f2 := H4
  have hsz' : Hid (w.heap.size ≤ (w2.drewN nq).heap.size) := hsz.out
  have lb' : r < (w2.drewN nq).heap.size := lb
  clear c1 f1 K0 H H4 hsz c0
  generalize (w2.drewN nq) = w3 at f1' c1' K1 H1 H4' hsz' lb' ⊢
  go_wp2_with (at_builtin; refine wpList_copyI rfl (.tmp 39) (.tmp 43) rfl A 0 cap g2 f2 w3 H4' ?c1 rfl rfl ?_)
  case c1 => omega
  intro v w4 ho hk1 hs1 hv
  obtain ⟨gv, capv, rfl, hgv, hgvs⟩ := hv.out
  have c2' : w4.cell? ⟨r, 1, none⟩ = some (.slice A 0 cap) := (World.cell?_of_block (w := w3) (a := ⟨r, 1, none⟩) (hk1.block r lb' (fun h => h))).trans c1'
  have f2' : w4.frozen? ⟨r, 1, none⟩ = false := (World.frozen?_of_block (w := w3) (a := ⟨r, 1, none⟩) (hk1.block r lb' (fun h => h))).trans f1'
  have lb2 : r < w4.heap.size := Nat.lt_of_lt_of_le lb' hk1.size
  have ho1 := ho.alloc (.cells #[.int .i64 n] 3)
  have hb1 : w3.heap.size ≤ (w4.alloc (.cells #[.int .i64 n] 3)).heap.size := by rw [World.size_alloc]; omega
  have HK := Lib.hid (hk1.alloc (.cells #[.int .i64 n] 3))
  clear ho hk1 c1' f1' hgv hgvs
  go_wp2_with (at_builtin; refine wpList_append_own _ rfl (.tmp 44) (.tmp 46) 22 rfl w3.heap.size 3 i0 _ 1 8 Try.underlying22 hi hz0 hz1 hz2 rfl (by decide) _ 0 _ rfl ho1 ⟨w4.heap.size, 0, none⟩ 1 1 [.int .i64 n] rfl rfl ?c1 ?c2 ?c3 ?c4 ?c5 ?_)
  case c1 =>
    intro z u hz
    match z, hz with
    | 0, hz => simp at hz; subst hz; simp [Addr.add]
  case c2 => intro u hu; simp at hu; subst hu; rfl
  case c3 => unfold maxLen; omega
  case c4 => omega
  case c5 => simp at hb1 ⊢; omega
  intro v' w5 ho2 hg2 _
  have KG := kept_grown ho1 hg2
  have hg2s := hg2.size
  have ho3 : w5.ownsRow w3.heap.size 3 1 v' (0 + 1) (vals (upd f2 0 n) (0 + 1)) := by
    rw [vals_succ, show vals (upd f2 0 n) 0 = vals f2 0 from by unfold vals; refine List.map_congr_left fun j hj => ?_; have := List.mem_range.1 hj; simp [upd]; omega, show upd f2 0 n 0 = n from by simp [upd]]
    exact ho2
  clear ho2 hg2 ho1
  obtain ⟨g', cap', rfl, hg', hgs⟩ := ho3.form (by omega)
  have K5 : Kept (fun _ => False) w3 w5 := ⟨KG.os.trans HK.out.os, KG.tape.trans HK.out.tape, KG.output.trans HK.out.output, Nat.le_trans HK.out.size KG.size,
    fun i hi' _ => (KG.block i (Nat.lt_of_lt_of_le hi' HK.out.size) (by show ¬w3.heap.size ≤ i; omega)).trans (HK.out.block i hi' (fun h => h))⟩
  have c3' : w5.cell? ⟨r, 1, none⟩ = some (.slice A 0 cap) := (World.cell?_of_block (w := w4) (a := ⟨r, 1, none⟩) ((KG.block r (by rw [World.size_alloc]; omega) (by show ¬w3.heap.size ≤ r; omega)).trans (Below.heap_alloc _ _ _ lb2))).trans c2'
  have f3' : w5.frozen? ⟨r, 1, none⟩ = false := (World.frozen?_of_block (w := w4) (a := ⟨r, 1, none⟩) ((KG.block r (by rw [World.size_alloc]; omega) (by show ¬w3.heap.size ≤ r; omega)).trans (Below.heap_alloc _ _ _ lb2))).trans f2'
  have HO := Lib.hid ho3
  have HK5 := Lib.hid K5
  clear ho3 K5 KG c2' f2' hb1 hg2s
  go_wp2
  go_ret
  refine ⟨rfl, ⟨g', ?_, by have := hsz'.out; omega⟩, K1.out.trans (Kept.setIn (HK5.out.mono (fun _ h => h.elim)))⟩
  obtain ⟨_, hh⟩ := HO.out
  rcases hh with ⟨hh, _⟩ | ⟨g3, cap3, cur, hv, _, _, hle, hmm, _⟩
  · simp at hh
  · simp only [Value.slice.injEq, Option.some.injEq, Addr.mk.injEq, and_true, true_and] at hv
    obtain ⟨rfl, rfl⟩ := hv
    obtain rfl := HF.out
    refine H1.out.put HK5.out cap' rfl hle (by unfold maxLen at hmm; omega) (fun j hj => ?_) hg' hgs
    have := HO.out.cellAt j (by omega)
    rw [vals_at _ _ _ hj] at this
    exact this

set_option maxHeartbeats 1000000 in
theorem renter_deep (r g most k : Nat) (f : Nat → Int) (n : Int) (w : World) (h : Rsk w r g most f (k + 1)) (hk : k < 64) (h0 : 0 ≤ n) (hf0 : 0 ≤ f k) (hf1 : f k ≤ 9223372036854775807) (h1 : n ≤ f k) (hm : k + 1 < most) :
    Calls Try.prog 16 #[.pointer (some ⟨r, 0, none⟩), .int .i64 n] w fun e w' => e = .returned (.int .i64 0) ∧ (∃ g', Rsk w' r g' most (upd (upd f k (f k - n)) (k + 1) n) (k + 1 + 1) ∧ w.heap.size ≤ g') ∧ Kept (· = r) w w' := by
  have t0 : ¬n < 0 := by omega
  obtain ⟨i0, hi, hz0, hz1, hz2⟩ := info_parts info3
  go_enter Try.func16, Try.ntmps16
  go_wp2_with fail
  refine (rlast_some r g most k f w h hk).mono ?_
  rintro e w1 ⟨rfl, m, rfl⟩
  go_wp2_with fail
  refine (rlast_some r g most k f _ (h.drewN m) hk).mono ?_
  rintro e w1 ⟨rfl, m2, rfl⟩
  have t1 : ¬f k < n := by omega
  have t2 : ¬(most : Int) ≤ (k : Int) + 1 := by omega
  have hA := (h.drewN m).drewN m2
  have KA := Lib.hid (((Kept.refl (· = r) w).drewN m).drewN m2)
  have hsA : Hid (w.heap.size ≤ ((w.drewN m).drewN m2).heap.size) := Nat.le_refl _
  simp only [dn] at hA KA hsA ⊢
  generalize (w.drewN (m + m2)) = wA at hA KA hsA ⊢
  have c0 : wA.cell? ⟨r, 0, none⟩ = some (.int .i64 most) := hA.c0
  obtain ⟨AA, capA, c1, x2, x3, _⟩ := hA.c1
  rw [show ((k + 1 : Nat)) = k + 1 from rfl] at c1
  have HA := Lib.hid hA
  clear hA h x2 x3
  go_wp2_with fail
  go_quiet (fail)
  go_wp2_with fail
  refine (rlast_some r g most k f _ (HA.out.drewN nq) hk).mono ?_
  rintro e w1 ⟨rfl, m3, rfl⟩
  go_wp2_with fail
  refine (rset_c r g most k f (f k - n) _ (HA.out.drewN _) hk).mono ?_
  rintro e w2 ⟨rfl, ⟨g2, H, hg2⟩, K2⟩
  have K0 := Lib.hid ((KA.out.drewN (nq + m3)).trans K2)
  have hsz : Hid (w.heap.size ≤ w2.heap.size) := K0.out.size
  have hgw : Hid (w.heap.size ≤ g2) := Nat.le_trans hsA.out (by exact hg2)
  obtain ⟨f2, hf2⟩ : ∃ f2, f2 = upd f k (f k - n) := ⟨_, rfl⟩
  rw [← hf2] at H
  have HF := Lib.hid hf2
  clear hf2 K2 hg2 c0 c1 HA KA hsA
  have H := Lib.hid H
  have c0 := H.out.c0
  have c1 := H.out.c1
  have f1 := H.out.f1
  have lb := H.out.lb
  obtain ⟨A, cap, c1, h2, h3, H4⟩ := c1
  clear h2
  have K1 := K0
  have H1 := H
  have hsz' := hsz
  obtain ⟨w3, hw3⟩ : ∃ w3, w3 = w2 := ⟨_, rfl⟩
  subst hw3
  have f1' := f1
  have c1' := c1
  have H4' := H4
  have lb' := lb
  clear f1 c1 H4 c0 hsz H K0
  go_wp2_with (at_builtin; refine wpList_copyI rfl (.tmp 39) (.tmp 43) rfl A (k + 1) cap g2 f2 w3 H4' ?c1 rfl rfl ?_)
  case c1 => omega
  intro v w4 ho hk1 hs1 hv
  obtain ⟨gv, capv, rfl, hgv, hgvs⟩ := hv.out
  have c2' : w4.cell? ⟨r, 1, none⟩ = some (.slice A (k + 1) cap) := (World.cell?_of_block (w := w3) (a := ⟨r, 1, none⟩) (hk1.block r lb' (fun h => h))).trans c1'
  have f2' : w4.frozen? ⟨r, 1, none⟩ = false := (World.frozen?_of_block (w := w3) (a := ⟨r, 1, none⟩) (hk1.block r lb' (fun h => h))).trans f1'
  have lb2 : r < w4.heap.size := Nat.lt_of_lt_of_le lb' hk1.size
  have ho1 := ho.alloc (.cells #[.int .i64 n] 3)
  have hb1 : w3.heap.size ≤ (w4.alloc (.cells #[.int .i64 n] 3)).heap.size := by rw [World.size_alloc]; omega
  have HK := Lib.hid (hk1.alloc (.cells #[.int .i64 n] 3))
  clear ho hk1 c1' f1' hgv hgvs
  go_wp2_with (at_builtin; refine wpList_append_own _ rfl (.tmp 44) (.tmp 46) 22 rfl w3.heap.size 3 i0 _ 1 8 Try.underlying22 hi hz0 hz1 hz2 rfl (by decide) _ (k + 1) _ rfl ho1 ⟨w4.heap.size, 0, none⟩ 1 1 [.int .i64 n] rfl rfl ?c1 ?c2 ?c3 ?c4 ?c5 ?_)
  case c1 =>
    intro z u hz
    match z, hz with
    | 0, hz => simp at hz; subst hz; simp [Addr.add]
  case c2 => intro u hu; simp at hu; subst hu; rfl
  case c3 => unfold maxLen; omega
  case c4 => omega
  case c5 => simp at hb1 ⊢; omega
  intro v' w5 ho2 hg2 _
  have KG := kept_grown ho1 hg2
  have hg2s := hg2.size
  have ho3 : w5.ownsRow w3.heap.size 3 1 v' ((k + 1) + 1) (vals (upd f2 (k + 1) n) ((k + 1) + 1)) := by
    rw [vals_succ, show vals (upd f2 (k + 1) n) (k + 1) = vals f2 (k + 1) from by unfold vals; refine List.map_congr_left fun j hj => ?_; have := List.mem_range.1 hj; simp [upd]; omega, show upd f2 (k + 1) n (k + 1) = n from by simp [upd]]
    exact ho2
  clear ho2 hg2 ho1
  obtain ⟨g', cap', rfl, hg', hgs⟩ := ho3.form (by omega)
  have K5 : Kept (fun _ => False) w3 w5 := ⟨KG.os.trans HK.out.os, KG.tape.trans HK.out.tape, KG.output.trans HK.out.output, Nat.le_trans HK.out.size KG.size,
    fun i hi' _ => (KG.block i (Nat.lt_of_lt_of_le hi' HK.out.size) (by show ¬w3.heap.size ≤ i; omega)).trans (HK.out.block i hi' (fun h => h))⟩
  have c3' : w5.cell? ⟨r, 1, none⟩ = some (.slice A (k + 1) cap) := (World.cell?_of_block (w := w4) (a := ⟨r, 1, none⟩) ((KG.block r (by rw [World.size_alloc]; omega) (by show ¬w3.heap.size ≤ r; omega)).trans (Below.heap_alloc _ _ _ lb2))).trans c2'
  have f3' : w5.frozen? ⟨r, 1, none⟩ = false := (World.frozen?_of_block (w := w4) (a := ⟨r, 1, none⟩) ((KG.block r (by rw [World.size_alloc]; omega) (by show ¬w3.heap.size ≤ r; omega)).trans (Below.heap_alloc _ _ _ lb2))).trans f2'
  have HO := Lib.hid ho3
  have HK5 := Lib.hid K5
  clear ho3 K5 KG c2' f2' hb1 hg2s
  go_wp2
  go_ret
  refine ⟨rfl, ⟨g', ?_, by have := hsz'.out; omega⟩, K1.out.trans (Kept.setIn (HK5.out.mono (fun _ h => h.elim)))⟩
  obtain ⟨_, hh⟩ := HO.out
  rcases hh with ⟨hh, _⟩ | ⟨g3, cap3, cur, hv, _, _, hle, hmm, _⟩
  · simp at hh
  · simp only [Value.slice.injEq, Option.some.injEq, Addr.mk.injEq, and_true, true_and] at hv
    obtain ⟨rfl, rfl⟩ := hv
    obtain rfl := HF.out
    refine H1.out.put HK5.out cap' rfl hle (by unfold maxLen at hmm; omega) (fun j hj => ?_) hg' hgs
    have := HO.out.cellAt j (by omega)
    rw [vals_at _ _ _ hj] at this
    exact this

theorem renter_p (r g most : Nat) (s : PS) (n : Int) (w : World) (h : Rsk w r g most s.1 s.2) (hd : s.2 ≤ most) (hm : most ≤ 64) (lo : ∀ j, j < s.2 → 0 ≤ s.1 j) (hi : ∀ j, j < s.2 → s.1 j ≤ 9223372036854775807) :
    Calls Try.prog 16 #[.pointer (some ⟨r, 0, none⟩), .int .i64 n] w fun e w' => e = .returned (.int .i64 (pEnter most s n).1) ∧ (∃ g', Rsk w' r g' most (pEnter most s n).2.1 (pEnter most s n).2.2 ∧ (g' = g ∨ w.heap.size ≤ g')) ∧ Kept (· = r) w w' := by
  obtain ⟨f, d⟩ := s
  simp only at h hd lo hi
  unfold pEnter
  by_cases h0 : n < 0
  · rw [if_pos h0]
    refine (renter_neg r n w h0).mono ?_
    rintro e w' ⟨rfl, rfl⟩
    exact ⟨rfl, ⟨g, h, .inl rfl⟩, Kept.refl _ _⟩
  · rw [if_neg h0]
    cases d with
    | zero =>
      rw [if_neg (by simp)]
      by_cases hm0 : 0 = most
      · subst hm0
        rw [if_pos rfl]
        refine (renter_full0 r g f n w h (by omega)).mono ?_
        rintro e w' ⟨rfl, m, rfl⟩
        exact ⟨rfl, ⟨g, h.drewN m, .inl rfl⟩, (Kept.refl _ _).drewN m⟩
      · rw [if_neg hm0, if_pos rfl]
        exact (renter_first r g most f n w h (by omega) (by omega)).mono fun e w' ⟨he, ⟨g', hs, hg⟩, hk⟩ => ⟨he, ⟨g', hs, .inr hg⟩, hk⟩
    | succ k =>
      simp only [Nat.add_sub_cancel]
      have l0 := lo k (by omega)
      have l1 := hi k (by omega)
      by_cases hf : f k < n
      · rw [if_pos ⟨by omega, hf⟩]
        refine (renter_great r g most k f n w h (by omega) (by omega) l0 hf).mono ?_
        rintro e w' ⟨rfl, m, rfl⟩
        exact ⟨rfl, ⟨g, h.drewN m, .inl rfl⟩, (Kept.refl _ _).drewN m⟩
      · rw [if_neg (fun h => hf h.2)]
        by_cases hm0 : k + 1 = most
        · subst hm0
          rw [if_pos rfl]
          refine (renter_full r g k f n w h (by omega) (by omega) l0 (by omega)).mono ?_
          rintro e w' ⟨rfl, m, rfl⟩
          exact ⟨rfl, ⟨g, h.drewN m, .inl rfl⟩, (Kept.refl _ _).drewN m⟩
        · rw [if_neg hm0, if_neg (by omega)]
          exact (renter_deep r g most k f n w h (by omega) (by omega) l0 l1 (by omega) (by omega)).mono fun e w' ⟨he, ⟨g', hs, hg⟩, hk⟩ => ⟨he, ⟨g', hs, .inr hg⟩, hk⟩

/-! ### Take -/
set_option maxHeartbeats 400000 in
theorem rtake_p (r g most : Nat) (s : PS) (w : World) (h : Rsk w r g most s.1 s.2) (hd : s.2 ≤ 64) (lo : ∀ j, j < s.2 → 0 ≤ s.1 j) (hi : ∀ j, j < s.2 → s.1 j ≤ 9223372036854775807) :
    Calls Try.prog 17 #[.pointer (some ⟨r, 0, none⟩)] w fun e w' => e = .returned (.int .i64 (pTake s).1) ∧ (∃ g', Rsk w' r g' most (pTake s).2.1 (pTake s).2.2 ∧ (g' = g ∨ w.heap.size ≤ g')) ∧ Kept (· = r) w w' := by
  obtain ⟨f, d⟩ := s
  simp only at h hd lo hi
  unfold pTake
  cases d with
  | zero =>
    rw [if_pos rfl]
    go_enter Try.func17, Try.ntmps17
    go_wp2_with fail
    refine (rlast_none r g most f w h).mono ?_
    rintro e w1 ⟨rfl, m, rfl⟩
    go_wp2_with fail
    refine (rlast_none r g most f _ (h.drewN m)).mono ?_
    rintro e w1 ⟨rfl, m2, rfl⟩
    go_wp2_with fail
    go_ret
    first
      | exact ⟨rfl, ⟨g, (h.drewN m).drewN m2, .inl rfl⟩, ((Kept.refl _ _).drewN m).drewN m2⟩
      | exact ⟨rfl, ⟨g, h.drewN _, .inl rfl⟩, (Kept.refl _ _).drewN _⟩
  | succ k =>
    rw [if_neg (by simp)]
    simp only [Nat.add_sub_cancel]
    have l0 := lo k (by omega)
    have l1 := hi k (by omega)
    clear lo hi
    by_cases h0 : f k = 0
    · rw [if_pos h0]
      go_enter Try.func17, Try.ntmps17
      go_wp2_with fail
      refine (rlast_some r g most k f w h (by omega)).mono ?_
      rw [h0]
      rintro e w1 ⟨rfl, m, rfl⟩
      go_wp2_with fail
      go_ret
      exact ⟨rfl, ⟨g, h.drewN m, .inl rfl⟩, (Kept.refl _ _).drewN m⟩
    · rw [if_neg h0]
      have h0' : (f k == 0) = false := by simpa using h0
      have h1 : 0 < f k := by omega
      go_enter Try.func17, Try.ntmps17
      go_wp2_with fail
      refine (rlast_some r g most k f w h (by omega)).mono ?_
      rintro e w1 ⟨rfl, m, rfl⟩
      go_wp2_with fail
      refine (rlast_some r g most k f _ (h.drewN m) (by omega)).mono ?_
      rintro e w1 ⟨rfl, m2, rfl⟩
      go_wp2_with fail
      refine (rlast_some r g most k f _ (h.drewN (m + m2)) (by omega)).mono ?_
      rintro e w1 ⟨rfl, m3, rfl⟩
      go_wp2_with fail
      refine (rset_c r g most k f (f k - 1) _ (h.drewN _) (by omega)).mono ?_
      rintro e w2 ⟨rfl, ⟨g2, H, hg2⟩, K2⟩
      have K3 := Lib.hid (((Kept.refl (· = r) w).drewN (m + m2 + m3)).trans K2)
      have hg3 : Hid (w.heap.size ≤ g2) := by exact hg2
      clear K2 hg2
      go_wp2_with fail
      go_ret
      exact ⟨rfl, ⟨g2, H, .inr hg3.out⟩, K3.out⟩

/-! ### Leave -/
theorem step_copyI {ops : Array Oper} {o : Oper} {a : Act} {K : Act → World → Prop} {Q : Exit → Act → World → Prop} {E : Prop} (hgd : o.guard = none) (s x : Operand)
    (ho : o.op = .call { callee := .builtin .append, args := #[s, x], argTypes := #[22, 22] }) (A : Option Addr) (d cap g : Nat) (f : Nat → Int) (w : World) (hA : Lies w A d cap g f) (hd : d ≤ 1000)
    (hs : a.eval s = .slice (some ⟨w.heap.size, 0, none⟩) 0 0) (hx : a.eval x = .slice A d cap)
    (h : ∀ v w', w'.ownsRow w.heap.size 3 1 v d (vals f d) → Kept (fun _ => False) w w' → w.heap.size < w'.heap.size → IsRow w w' d v → K (a.put o.dst v) w') : if Region.wanted o (yielded ops a.tmps) = true then Oper.wp Try.prog o a (w.alloc (.cells #[] 3)).drew K Q else E := by
  have hw : Region.wanted o (yielded ops a.tmps) = true := by simp [Region.wanted, hgd]
  rw [if_pos hw]
  exact wp_copyI s x ho A d cap g f w hA hd 1 hs hx h
set_option maxHeartbeats 1000000 in
theorem rleave_yes (r g most k : Nat) (f : Nat → Int) (w : World) (h : Rsk w r g most f (k + 1)) (hk : k < 64) (h0 : f k = 0) :
    Calls Try.prog 18 #[.pointer (some ⟨r, 0, none⟩)] w fun e w' => e = .returned (.bool true) ∧ (∃ g', Rsk w' r g' most f k ∧ w.heap.size ≤ g') ∧ Kept (· = r) w w' := by
  go_enter Try.func18, Try.ntmps18
  go_wp2_with fail
  refine (rlast_some r g most k f w h hk).mono ?_
  rw [h0]
  rintro e w1 ⟨rfl, m, rfl⟩
  have H := Lib.hid (h.drewN m)
  have K0 := Lib.hid ((Kept.refl (· = r) w).drewN m)
  have hsz : Hid (w.heap.size ≤ (w.drewN m).heap.size) := Nat.le_refl _
  clear h h0
  generalize (w.drewN m) = w2 at H K0 hsz ⊢
  have f1 := H.out.f1
  have lb := H.out.lb
  obtain ⟨A, cap, c1, h2, h3, ⟨_, h4, _⟩ | ⟨a, rfl, h4 | ⟨rfl, h4⟩⟩⟩ := H.out.c1
  · simp at h4
  · simp at h4
  have H4 : Lies w2 (some ⟨g, 0, none⟩) k cap g f := .inr ⟨_, rfl, .inr ⟨rfl, fun j hj => h4 j (by omega)⟩⟩
  rw [show ((k + 1 : Nat)) = k + 1 from rfl] at c1
  clear h4
  have hw : IntKind.i64.wrap (k : Int) = k := by rw [IntKind.wrap_i64]; omega
  have hkc : (k : Int) ≤ cap := by omega
  go_wp2_with fail
  go_region_law (refine step_copyI rfl (.tmp 7) (.tmp 18) rfl (some ⟨g, 0, none⟩) k cap g f w2 H4 (by omega) (by simp [Act.eval, Act.put]) (by simp [Act.eval, Act.put]) ?_; intro v w3 ho hk3 hs3 hv; obtain ⟨g3, cap3, rfl, hg3, hg3s⟩ := hv.out; have c2 : w3.cell? ⟨r, 1, none⟩ = some (.slice (some ⟨g, 0, none⟩) (k + 1) cap) := (World.cell?_of_block (w := w2) (a := ⟨r, 1, none⟩) (hk3.block r lb (fun h => h))).trans c1; have f2 : w3.frozen? ⟨r, 1, none⟩ = false := (World.frozen?_of_block (w := w2) (a := ⟨r, 1, none⟩) (hk3.block r lb (fun h => h))).trans f1; have HO := Lib.hid ho; have HK := Lib.hid hk3; clear ho hk3)
  all_goals
    go_wp2
    go_ret
    refine ⟨rfl, ⟨g3, ?_, by have := hsz.out; omega⟩, K0.out.trans (Kept.setIn (HK.out.mono (fun _ h => h.elim)))⟩
    obtain ⟨_, hh⟩ := HO.out
    rcases hh with ⟨hh, _⟩ | ⟨g4, cap4, cur, hv, _, _, hle, hmm, _⟩
    · simp at hh
    · simp only [Value.slice.injEq, Option.some.injEq, Addr.mk.injEq, and_true, true_and] at hv
      obtain ⟨rfl, rfl⟩ := hv
      refine H.out.put HK.out cap3 rfl hle (by unfold maxLen at hmm; omega) (fun j hj => ?_) hg3 hg3s
      have := HO.out.cellAt j (by omega)
      rw [vals_at _ _ _ hj] at this
      exact this
theorem rleave_p (r g most : Nat) (s : PS) (w : World) (h : Rsk w r g most s.1 s.2) (hd : s.2 ≤ 64) (lo : ∀ j, j < s.2 → 0 ≤ s.1 j) :
    Calls Try.prog 18 #[.pointer (some ⟨r, 0, none⟩)] w fun e w' => e = .returned (.bool (pLeave s).1) ∧ (∃ g', Rsk w' r g' most (pLeave s).2.1 (pLeave s).2.2 ∧ (g' = g ∨ w.heap.size ≤ g')) ∧ Kept (· = r) w w' := by
  obtain ⟨f, d⟩ := s
  simp only at h hd lo
  unfold pLeave
  cases d with
  | zero =>
    rw [if_pos (by simp)]
    go_enter Try.func18, Try.ntmps18
    go_wp2_with fail
    refine (rlast_none r g most f w h).mono ?_
    rintro e w1 ⟨rfl, m, rfl⟩
    go_wp2_with fail
    go_ret
    exact ⟨rfl, ⟨g, h.drewN _, .inl rfl⟩, (Kept.refl _ _).drewN _⟩
  | succ k =>
    simp only [Nat.add_sub_cancel]
    have l0 := lo k (by omega)
    clear lo
    by_cases h0 : 0 < f k
    · rw [if_pos (.inr h0)]
      have h0' : (f k == 0) = false := by simp; omega
      go_enter Try.func18, Try.ntmps18
      go_wp2_with fail
      refine (rlast_some r g most k f w h (by omega)).mono ?_
      rintro e w1 ⟨rfl, m, rfl⟩
      go_wp2_with fail
      go_ret
      exact ⟨rfl, ⟨g, h.drewN _, .inl rfl⟩, (Kept.refl _ _).drewN _⟩
    · rw [if_neg (by omega)]
      exact (rleave_yes r g most k f w h (by omega) (by omega)).mono fun e w' ⟨he, ⟨g', hs, hg⟩, hk⟩ => ⟨he, ⟨g', hs, .inr hg⟩, hk⟩

/-! ### New -/
theorem rnew_c (d : Int) (w : World) :
    Calls Try.prog 15 #[.int .i64 d] w fun e w' => e = .returned (.pointer (some ⟨w.heap.size, 0, none⟩)) ∧ (∀ f, Rsk w' w.heap.size 0 (clamp d) f 0) ∧ Kept (fun _ => False) w w' := by
  have mk : ∀ m : Nat, ∀ f, Rsk (w.alloc (.cells #[.int .i64 m, .slice none 0 0] 41)) w.heap.size 0 m f 0 := fun m f =>
    ⟨World.cell?_alloc_new _ _ _ _, ⟨none, 0, World.cell?_alloc_new _ _ _ _, by omega, by omega, .inl ⟨rfl, rfl, rfl⟩⟩, by simp, by simp, .inl rfl, by simp, .inl rfl⟩
  rcases Int.lt_or_le d 0 with h | h
  · go_enter Try.func15, Try.ntmps15
    go_wp2
    go_ret
    refine ⟨rfl, fun f => ?_, (Kept.refl _ w).alloc _⟩
    have e : clamp d = 0 := by unfold clamp; rw [if_pos h]
    rw [e]
    exact mk 0 f
  · rcases Int.lt_or_le 64 d with h2 | h2
    · have h3 : ¬d < 64 := by omega
      go_enter Try.func15, Try.ntmps15
      go_wp2
      go_ret
      refine ⟨rfl, fun f => ?_, (Kept.refl _ w).alloc _⟩
      have e : clamp d = 64 := by unfold clamp; rw [if_neg (by omega), if_pos h2]
      rw [e]
      exact mk 64 f
    · obtain ⟨m, rfl⟩ : ∃ m : Nat, d = m := ⟨d.toNat, by omega⟩
      go_enter Try.func15, Try.ntmps15
      go_wp2
      go_ret
      refine ⟨rfl, fun f => ?_, (Kept.refl _ w).alloc _⟩
      have e : clamp m = m := by unfold clamp; rw [if_neg (by omega), if_neg (by omega)]; omega
      rw [e]
      exact mk m f
end Go.Proofs.Ytejhgoihjmlmnaa.Sref
