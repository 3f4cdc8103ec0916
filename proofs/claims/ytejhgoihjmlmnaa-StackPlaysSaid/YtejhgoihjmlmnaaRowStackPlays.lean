/- The row of StackPlays, over the walk of YtejhgoihjmlmnaaPlays. -/
import Derived.Test.YtejhgoihjmlmnaaRows
import Derived.Test.YtejhgoihjmlmnaaPlays
import Derived.WalkKit
import Derived.ProofKit
import Derived.OpenShut
import Derived.ShutString
import Derived.ChangeOld
import Derived.Below
import Derived.SizedLaws
import Derived.Deep.SlicePairs
namespace Go.Proofs.Ytejhgoihjmlmnaa.stackPlays
open Go.ChangeShapes Go.WideShapes Go.ChangeAt Go.RowKit
open Go.ChangeMaps (open_string shut_string)
set_option linter.unusedVariables false
theorem own : ownKnob Try.prog.godebug = none := by kernel_rfl
theorem laidOut : laidOutB Try.prog = true := by kernel_rfl
set_option maxRecDepth 100000 in
theorem lifted (os : Os) (started : os.Started) (H : Type) (enc : TypeId × Value → H) :
    ReturnsInHanded {} Try.checked os 6 .any (Rows.stackPlaysSpec.pre6 enc Try.prog Try.f6 Rows.stackPlaysRow.domain false) (Rows.stackPlaysSpec.post enc Try.prog Try.f6 false true false false) := by
  refine returnsInHanded_of_change_sized (C := Try.checked) own started (by kernel_rfl) Try.func6
    (ChangeSpec.witness6 (enc := enc) (C := Try.checked) false ⟨#[], #[.int .i64 0, .slice none 0 0], []⟩ 8 (by kernel_rfl) (by kernel_rfl) (by kernel_rfl) (by kernel_rfl)) ?_
  intro W base args ds gs before hval0 hW hcnd hsz0 _
  have hsz : (DataW.weightsEach Try.prog (Try.f6.params.toList ++ Rows.stackPlaysSpec.plain.varTypes Try.prog) (ds ++ gs)).all (· ≤ reachBytes) = true := hsz0
  have hval : ∀ (j : Nat) t v, Try.f6.params[j]? = some t → args[j]? = some v → Value.okWide Try.prog W .any base t v := hval0
  have hW' := hW
  obtain ⟨p, q, hA0, hV, rfl, hfz, hnd⟩ := hW
  have hA : DataW.TrodAll enc Try.prog W 0 (fun _ => true) true Try.f6.params.toList args.toList ds p := hA0
  rw [Try.params6] at hA hval hsz
  obtain ⟨v0, vs0, d0, ds0, p0, q0, hargs, rfl, rfl, h0, r0⟩ := trodAll_cons hA
  obtain ⟨v1, vs1, d1, ds1, p1, q1, rfl, rfl, rfl, h1, r1⟩ := trodAll_cons r0
  obtain ⟨rfl, rfl, rfl⟩ := trodAll_nil r1
  obtain rfl : args = #[v0, v1] := by cases args; simp_all
  obtain ⟨rfl, rfl⟩ := trodVars_none hV
  obtain ⟨a0, rfl, rfl, rfl, w0⟩ := open_int Try.underlying3 (hval 0 3 v0 rfl rfl) h0
  obtain ⟨a1, len1, cap1, rfl⟩ := okWide_slice Try.underlying33 (hval 1 33 v1 rfl rfl)
  have k1 := h1
  have lt1 : ∀ x ∈ p1, x.block < W.heap.size := by obtain ⟨m, hm⟩ := k1; exact DataW.trod_lt m _ _ _ hm
  obtain ⟨y1, st1, e1, w1⟩ : len1 ≤ 9223372036854775807 ∧ ∃ st : List (Int × Int), len1 = st.length ∧ Acts.Given W a1 st cap1 := by
    obtain ⟨fuel, hf⟩ := h1
    rcases Deep.open_slice_pairs Try.underlying33 Try.underlying37 (by kernel_rfl) rfl rfl (by kernel_rfl) (by kernel_rfl) hf with ⟨hcs, _⟩ | ⟨a, len, cap, m, n, V0, V1, D0, D1, P0, P1, hcs, _, hl, hm, hmm, _, hx⟩
    · simp [Value.cells] at hcs
      obtain ⟨rfl, rfl, rfl⟩ := hcs
      exact ⟨by omega, [], rfl, Acts.Given.none_ W⟩
    · simp [Value.cells] at hcs
      obtain ⟨rfl, rfl, rfl⟩ := hcs
      have hm' := hm
      unfold maxLen at hm'
      have each : ∀ i, i < len1 → ∃ x : Int × Int, W.cell? (a.add (i * 2)) = some (.int .i64 x.1) ∧ W.cell? (a.add (i * 2 + 1)) = some (.int .i64 x.2) ∧ (Lit.int .i64 x.1).wf = true ∧ (Lit.int .i64 x.2).wf = true := by
        intro i hi
        have him : i < m := by rw [hmm]; split <;> omega
        obtain ⟨h1, h2, h3, h4⟩ := hx i him
        obtain ⟨x0, e0, _, b0⟩ := DataW.trod_int Try.underlying3 h3
        obtain ⟨x1, e1, _, b1⟩ := DataW.trod_int Try.underlying3 h4
        rw [List.cons.inj e0 |>.1] at h1
        rw [List.cons.inj e1 |>.1] at h2
        exact ⟨(x0, x1), h1, h2, b0, b1⟩
      obtain ⟨q, hq⟩ := Deep.choose_lt each
      have eq : ∀ i, i < ((List.range len1).map q).length → i < len1 ∧ ((List.range len1).map q).getD i (0, 0) = q i := fun i hi => by
        have hi' : i < len1 := by simpa using hi
        exact ⟨hi', by simp [List.getD, hi']⟩
      refine ⟨by omega, (List.range len1).map q, by simp, Acts.Given.of_pairs (by simpa using hl) (by omega) (fun i hi => ?_) (fun i hi => ?_)⟩
      · obtain ⟨hi', e⟩ := eq i hi
        rw [e]
        exact ⟨(hq i hi').1, (hq i hi').2.1⟩
      · obtain ⟨hi', e⟩ := eq i hi
        rw [e]
        exact (hq i hi').2.2
  subst e1
  clear hA0 hval0 hsz0 hsz
  refine (Plays.walk a0 a1 cap1 st1 W y1 w1).mono fun e W' ⟨he, bel⟩ => ?_
  subst he
  exact ⟨_, rfl, _, _, _, [], _, [], hW', trodAll_mk1 (shut_bool Try.underlying4 _), (trodAll_cons_mk (shut_int Try.underlying3 w0) (trodAll_cons_mk (Below.trod laidOut (by kernel_rfl) (of_decide_eq_true (by kernel_rfl)) k1 bel lt1) trodAll_mk0)), rfl, bel.frame _, fun h => by cases h⟩
theorem over : Rows.stackPlaysRow.holds Try.pinned (OpenSpec.ofChange Rows.stackPlaysSpec) :=
  OpenClaim.holds_of_wide 6 Try.f6 rfl rfl rfl rfl rfl rfl rfl ⟨rfl, rfl, rfl, rfl, rfl⟩ rfl rfl rfl rfl rfl (by kernel_rfl) Try.func6 (by kernel_rfl)
    (of_decide_eq_true (by kernel_rfl)) (by unfold Func.isWrapper; first | (rw [if_pos (by decide +kernel)]; kernel_rfl) | (rw [if_neg (by decide +kernel)]; exact ⟨rfl, rfl⟩))
    (fun os started H enc _ => lifted os started H enc)
end Go.Proofs.Ytejhgoihjmlmnaa.stackPlays
namespace Go.Proofs.Ytejhgoihjmlmnaa
theorem stackPlays_holds : Rows.StackPlaysSaid := stackPlays.over
#print axioms stackPlays_holds
end Go.Proofs.Ytejhgoihjmlmnaa
