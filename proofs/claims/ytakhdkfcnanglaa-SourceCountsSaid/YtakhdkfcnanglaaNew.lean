/- Steps in memory, Clone, New, great (layer 3). -/
import Derived.Test.YtakhdkfcnanglaaObj
import Derived.OwnWalk
import Derived.Lib.LazyBuf
namespace Go.Proofs.Ytakhdkfcnanglaa.New
open Go.RowKit
open Go.Proofs.Ytakhdkfcnanglaa.Obj
set_option linter.unusedVariables false

/-- steps, flat -/
def flat (st : List (Int × Int)) : List Value := st.flatMap fun x => [.int .i64 x.1, .int .i64 x.2]
theorem flat_length (st : List (Int × Int)) : (flat st).length = st.length * 2 := by
  induction st with
  | nil => rfl
  | cons x st ih => simp [flat, List.flatMap_cons] at ih ⊢; omega
theorem flat_one (st : List (Int × Int)) : ∀ u ∈ flat st, u.oneCell' = true := by
  intro u hu
  simp only [flat, List.mem_flatMap] at hu
  obtain ⟨x, _, hx⟩ := hu
  simp at hx
  rcases hx with rfl | rfl <;> rfl
theorem flat_at (st : List (Int × Int)) : ∀ i, i < st.length → (flat st)[2 * i]? = some (.int .i64 (st.getD i (0, 0)).1) ∧ (flat st)[2 * i + 1]? = some (.int .i64 (st.getD i (0, 0)).2) := by
  induction st with
  | nil => intro i hi; simp at hi
  | cons x st ih =>
    intro i hi
    cases i with
    | zero => simp [flat, List.flatMap_cons]
    | succ i =>
      have := ih i (by simpa using hi)
      rw [show 2 * (i + 1) = 2 * i + 1 + 1 from by omega]
      simpa [flat, List.flatMap_cons] using this
/-- Steps that a slice holds. -/
structure Given (w : World) (A : Option Addr) (st : List (Int × Int)) (cap : Nat) : Prop where
  le : st.length ≤ cap
  most : cap ≤ 9223372036854775807
  at_ : (A = none ∧ st = [] ∧ cap = 0) ∨ ∃ a, A = some a ∧ ∀ j u, (flat st)[j]? = some u → w.cell? (a.add j) = some u
theorem Given.keep {S : Nat → Prop} {w w' : World} {A : Option Addr} {st : List (Int × Int)} {cap : Nat} (h : Given w A st cap) (k : Kept S w w') (hS : ∀ i, S i → w.heap.size ≤ i) : Given w' A st cap := by
  refine ⟨h.le, h.most, h.at_.imp id (fun ⟨a, ha, hc⟩ => ⟨a, ha, fun j u hj => ?_⟩)⟩
  have h1 := hc j u hj
  have hlt : (a.add j).block < w.heap.size := World.block_lt_of_cell? w _ h1
  rw [World.cell?_of_block (w := w) (k.block _ hlt (fun e => by have := hS _ e; omega))]
  exact h1
theorem Row.of_flat {w : World} {g : Nat} {st : List (Int × Int)} (h : ∀ j u, (flat st)[j]? = some u → w.cell? ⟨g, j, none⟩ = some u) : Row w g 0 st := by
  intro i hi
  have := flat_at st i hi
  exact ⟨by simpa using h _ _ this.1, by simpa using h _ _ this.2⟩
theorem add_plain (g o j : Nat) : (⟨g, o, none⟩ : Addr).add j = ⟨g, o + j, none⟩ := by unfold Addr.add; split <;> simp_all

/-- What a copied row of steps is. -/
structure Copied (w w' : World) (st : List (Int × Int)) (A : Option Addr) (cap : Nat) : Prop where
  le : st.length ≤ cap
  most : cap ≤ 9223372036854775807
  row : st = [] ∨ ∃ g, A = some ⟨g, 0, none⟩ ∧ Row w' g 0 st ∧ w.heap.size ≤ g ∧ g < w'.heap.size
  kept : Kept (fun _ => False) w w'
theorem info36 : (Try.prog.info? 36).map (fun i => (i.zero, i.size, i.bytes)) = some (some (.agg #[.int .i64 0, .int .i64 0]), 2, 16) := by kernel_rfl
theorem copied_of {w w1 w2 : World} {st : List (Int × Int)} {v : Value} {u : Option Nat} (hk : Kept (fun _ => False) w w1) (hu : ∀ k, u = some k → w.heap.size ≤ k)
    (hown : w2.ownsRow w.heap.size 36 2 v st.length (flat st)) (hg : w1.grownBy w2 u) (hz : w1.heap.size = w.heap.size + 1) (hv : v ≠ .slice none 0 0) : ∃ A cap, v = .slice A st.length cap ∧ Copied w w2 st A cap := by
  obtain ⟨_, hh⟩ := hown
  have K : Kept (fun _ => False) w w2 := ⟨hg.os.trans hk.os, hg.tape.trans hk.tape, hg.output.trans hk.output, Nat.le_trans hk.size hg.size,
    fun k hk1 _ => (hg.block k (by omega) (fun e => by have := hu k e.symm; omega)).trans (hk.block k hk1 (fun h => h))⟩
  rcases hh with ⟨hh, _⟩ | ⟨g, cap, cur, rfl, hb, hgg, hn, hm, hs, ht⟩
  · exact absurd hh hv
  · refine ⟨_, _, rfl, hn, by unfold maxLen at hm; omega, .inr ⟨g, rfl, ?_, hb, (Array.getElem?_eq_some_iff.1 hgg).1⟩, K⟩
    refine Row.of_flat fun j u hj => ?_
    rw [cell_of_row w2 g j cur 36 (0, 0) hgg]
    rw [← ht, List.getElem?_take] at hj
    split at hj
    · simpa using hj
    · simp at hj

set_option maxHeartbeats 400000 in
theorem clone_c (A : Option Addr) (cap : Nat) (st : List (Int × Int)) (w : World) (G : Given w A st cap) (hl : st.length ≤ 1000) :
    Calls Try.prog 30 #[.slice A st.length cap] w fun e w' => ∃ A' cap', e = .returned (.slice A' st.length cap') ∧ Copied w w' st A' cap' := by
  obtain ⟨i0, hi, hz0, hz1, hz2⟩ := info_parts info36
  have hnil := fun wx A n c => run_eql_slice_nil (P := Try.prog) wx 22 36 A n c Try.underlying22
  rcases G.at_ with ⟨rfl, rfl, rfl⟩ | ⟨a, rfl, hc⟩
  · go_enter Try.func30, Try.ntmps30
    go_wp2
    go_ret
    exact ⟨_, _, rfl, by simp, by omega, .inl rfl, Kept.refl _ w⟩
  · have hown := World.ownsRow_lit (base := w.heap.size) (e := 36) (size := 2) w #[] 0 (Nat.le_refl _) (by simp [maxLen]) (by simp)
    have hcc : ∀ j u, (flat st)[j]? = some u → (w.alloc (.cells #[] 36)).cell? (a.add j) = some u := fun j u hj => by
      rw [World.cell?_alloc_lt _ _ _ (World.block_lt_of_cell? w _ (hc j u hj))]; exact hc j u hj
    have hm := G.most
    have hle := G.le
    go_enter Try.func30, Try.ntmps30
    go_wp2_with (at_builtin; refine wpList_append_own _ rfl (.tmp 5) (.tmp 6) 22 rfl w.heap.size 36 i0 _ 2 16 Try.underlying22 hi hz0 hz1 hz2 rfl (by decide) _ 0 [] rfl hown a st.length cap (flat st) rfl (flat_length st) hcc (flat_one st) ?c1 ?c2 ?c3 ?_)
    case c1 => unfold maxLen; omega
    case c2 => omega
    intro v' w' ho hg hn
    obtain ⟨A', cap', rfl, C⟩ := copied_of (Kept.alloc (Kept.refl _ w) _) (by simp [Value.ownBlock]) ho hg (by simp) (by simp [hn])
    clear ho hg hn
    go_wp2
    go_ret
    exact ⟨_, _, rfl, C⟩

set_option maxHeartbeats 400000 in
theorem new_c (d : ByteArray) (A : Option Addr) (cap : Nat) (st : List (Int × Int)) (w : World) (G : Given w A st cap) (hl : st.length ≤ 1000) :
    Calls Try.prog 16 #[.string d, .slice A st.length cap] w fun e w' => ∃ b g, e = .returned (.pointer (some ⟨b, 0, none⟩)) ∧ Src w' b g d st 0 0 0 ∧ Kept (fun _ => False) w w' ∧ w.heap.size ≤ b ∧ (st = [] ∨ w.heap.size ≤ g) := by
  go_enter Try.func16, Try.ntmps16
  go_wp2_with fail
  refine (clone_c A cap st w G hl).mono ?_
  rintro e w1 ⟨A', cap', rfl, C⟩
  go_wp2
  have K := C.kept
  rcases C.row with rfl | ⟨g, rfl, hr, h1, h2⟩
  · go_ret
    refine ⟨_, 0, rfl, ⟨World.cell?_alloc_new _ _ _ _, ⟨A', cap', World.cell?_alloc_new _ _ _ _, C.le, C.most, .inl rfl⟩, World.cell?_alloc_new _ _ _ _, World.cell?_alloc_new _ _ _ _, World.cell?_alloc_new _ _ _ _, ?_, .inl rfl, by simp, .inl rfl⟩, K.alloc _, K.size, .inl (by trivial)⟩
    intro j hj
    simp
  · go_ret
    refine ⟨_, g, rfl, ⟨World.cell?_alloc_new _ _ _ _, ⟨_, cap', World.cell?_alloc_new _ _ _ _, C.le, C.most, .inr ⟨0, rfl, hr.keep (Below.heap_alloc _ _ _ h2)⟩⟩, World.cell?_alloc_new _ _ _ _, World.cell?_alloc_new _ _ _ _, World.cell?_alloc_new _ _ _ _, ?_, .inr (by omega), by simp, .inr (by simp; omega)⟩, K.alloc _, K.size, .inr h1⟩
    intro j hj
    simp

set_option maxHeartbeats 400000 in
/-- 'append([]api.Step{}, steps...)' -/
theorem copy_run (A : Option Addr) (cap : Nat) (st : List (Int × Int)) (w : World) (G : Given w A st cap) (hl : st.length ≤ 1000) (t : TypeId) :
    ∃ A' cap' w', (Builtin.append_ #[22, 22] t #[.slice (some ⟨w.heap.size, 0, none⟩) 0 0, .slice A st.length cap]).run Try.prog (w.alloc (.cells #[] 36)) = .ok (.slice A' st.length cap') w' ∧ Given w' A' st cap' ∧ Kept (fun _ => False) w w' := by
  obtain ⟨i0, hi, hz0, hz1, hz2⟩ := info_parts info36
  have hown := World.ownsRow_lit (base := w.heap.size) (e := 36) (size := 2) w #[] 0 (Nat.le_refl _) (by simp [maxLen]) (by simp)
  rcases G.at_ with ⟨rfl, rfl, rfl⟩ | ⟨a, rfl, hc⟩
  · exact ⟨_, _, _, run_append_owned_none (w.alloc (.cells #[] 36)) w.heap.size 22 t 36 i0 2 Try.underlying22 hi _ 0 [] hown, ⟨by simp, by omega, .inr ⟨_, rfl, fun j u hj => by simp [flat] at hj⟩⟩, Kept.alloc (Kept.refl _ w) _⟩
  · have hcc : ∀ j u, (flat st)[j]? = some u → (w.alloc (.cells #[] 36)).cell? (a.add j) = some u := fun j u hj => by
      rw [World.cell?_alloc_lt _ _ _ (World.block_lt_of_cell? w _ (hc j u hj))]; exact hc j u hj
    obtain ⟨v', w', hr, ho, hg, hn⟩ := run_append_own (w.alloc (.cells #[] 36)) (P := Try.prog) w.heap.size 22 t 36 i0 _ 2 16 Try.underlying22 hi hz0 hz1 hz2 rfl (by decide) _ 0 [] hown a st.length cap (flat st) (flat_length st) hcc (flat_one st) (by unfold maxLen; omega) (by omega) (by simp)
    rw [Nat.zero_add, List.nil_append] at ho
    obtain ⟨A', cap', rfl, C⟩ := copied_of (Kept.alloc (Kept.refl _ w) _) (by simp [Value.ownBlock]) ho hg (by simp) (by simp [hn])
    refine ⟨A', cap', w', hr, ⟨C.le, C.most, ?_⟩, C.kept⟩
    rcases C.row with rfl | ⟨g, rfl, hr, _⟩
    · cases A' with
      | none =>
        rcases ho.2 with ⟨h1, _⟩ | ⟨_, _, _, h1, _⟩
        · exact absurd (hn.1 h1) (by simp)
        · simp at h1
      | some a' => exact .inr ⟨a', rfl, fun j u hj => by simp [flat] at hj⟩
    · obtain ⟨_, hh⟩ := ho
      rcases hh with ⟨hh, _⟩ | ⟨g', cap'', cur, hv, hb, hgg, hn', hm, hs, ht⟩
      · simp at hh
      · simp only [Value.slice.injEq, Option.some.injEq, Addr.mk.injEq, and_true, true_and] at hv
        obtain ⟨rfl, rfl⟩ := hv
        refine .inr ⟨_, rfl, fun j u hj => ?_⟩
        rw [add_plain, Nat.zero_add, cell_of_row w' g j cur 36 (0, 0) hgg]
        rw [← ht, List.getElem?_take] at hj
        split at hj
        · simpa using hj
        · simp at hj

theorem wpList_copy {ops : Array Oper} {rest : List Oper} {o : Oper} {a : Act} {Q : Exit → Act → World → Prop} (hgd : o.guard = none) (s x : Operand)
    (ho : o.op = .call { callee := .builtin .append, args := #[s, x], argTypes := #[22, 22] }) (A : Option Addr) (cap : Nat) (st : List (Int × Int)) (w : World) (G : Given w A st cap) (hl : st.length ≤ 1000)
    (hs : a.eval s = .slice (some ⟨w.heap.size, 0, none⟩) 0 0) (hx : a.eval x = .slice A st.length cap)
    (h : ∀ A' cap' w', Given w' A' st cap' → Kept (fun _ => False) w w' → wpList Try.prog ops Q rest (a.put o.dst (.slice A' st.length cap')) w') : wpList Try.prog ops Q (o :: rest) a (w.alloc (.cells #[] 36)) := by
  refine wpList_plain hgd fun K hK => ?_
  obtain ⟨A', cap', w', hrun, G', K'⟩ := copy_run A cap st w G hl o.type
  unfold Oper.wp
  simp [execOp, ho, resolve, invoke, builtin, hs, hx, hrun, Result.andThen]
  exact hK _ _ (h _ _ _ G' K')

theorem flat_get (st : List (Int × Int)) : ∀ j u, (flat st)[j]? = some u → ∃ i, i < st.length ∧ ((j = i * 2 ∧ u = .int .i64 (st.getD i (0, 0)).1) ∨ (j = i * 2 + 1 ∧ u = .int .i64 (st.getD i (0, 0)).2)) := by
  intro j u h
  have hj : j < (flat st).length := (List.getElem?_eq_some_iff.1 h).1
  rw [flat_length] at hj
  refine ⟨j / 2, by omega, ?_⟩
  have := flat_at st (j / 2) (by omega)
  by_cases hp : j % 2 = 0
  · rw [show 2 * (j / 2) = j from by omega, h] at this
    exact .inl ⟨by omega, Option.some.inj this.1⟩
  · rw [show 2 * (j / 2) + 1 = j from by omega, h] at this
    exact .inr ⟨by omega, Option.some.inj this.2⟩
theorem Given.of_pairs {w : World} {a : Addr} {st : List (Int × Int)} {cap : Nat} (hl : st.length ≤ cap) (hm : cap ≤ 9223372036854775807)
    (h : ∀ i, i < st.length → w.cell? (a.add (i * 2)) = some (.int .i64 (st.getD i (0, 0)).1) ∧ w.cell? (a.add (i * 2 + 1)) = some (.int .i64 (st.getD i (0, 0)).2)) : Given w (some a) st cap := by
  refine ⟨hl, hm, .inr ⟨a, rfl, fun j u hj => ?_⟩⟩
  obtain ⟨i, hi, ⟨rfl, rfl⟩ | ⟨rfl, rfl⟩⟩ := flat_get st j u hj
  · exact (h i hi).1
  · exact (h i hi).2
theorem Given.none_ (w : World) : Given w none [] 0 := ⟨by simp, by omega, .inl ⟨rfl, rfl, rfl⟩⟩
theorem Given.plain {w : World} {A : Option Addr} {st : List (Int × Int)} {cap : Nat} (h : Given w A st cap) (hp : 0 < st.length) :
    ∃ g o, A = some ⟨g, o, none⟩ ∧ g < w.heap.size ∧ ∀ i, i < st.length → w.cell? ⟨g, o + i * 2, none⟩ = some (.int .i64 (st.getD i (0, 0)).1) ∧ w.cell? ⟨g, o + i * 2 + 1, none⟩ = some (.int .i64 (st.getD i (0, 0)).2) := by
  rcases h.at_ with ⟨_, rfl, _⟩ | ⟨⟨g, o, sp⟩, rfl, hc⟩
  · simp at hp
  · have h0 := hc 0 _ (flat_at st 0 hp).1
    have hsp : sp = none := by simpa [Addr.add] using World.cell?_spot h0
    subst hsp
    refine ⟨g, o, rfl, ?_, fun i hi => ?_⟩
    · have := World.block_lt_of_cell? w _ h0
      simpa [Addr.add] using this
    · have := flat_at st i hi
      have h1 := hc _ _ this.1
      have h2 := hc _ _ this.2
      rw [add_plain] at h1 h2
      rw [Nat.mul_comm i 2]
      exact ⟨h1, h2⟩
end Go.Proofs.Ytakhdkfcnanglaa.New
