/- The row of CapturePlays, over the walk of YtgnmianhbbchgaaPlays. -/
import Derived.Test.YtgnmianhbbchgaaRows
import Derived.Test.YtgnmianhbbchgaaPlays
import Derived.WalkKit
import Derived.ProofKit
import Derived.OpenShut
import Derived.ShutString
import Derived.ChangeOld
import Derived.Below
import Derived.SizedLaws
import Derived.Deep.SlicePairs
namespace Go.Proofs.Ytgnmianhbbchgaa.capturePlays
open Go.ChangeShapes Go.WideShapes Go.ChangeAt Go.RowKit
open Go.ChangeMaps (open_string shut_string)
set_option linter.unusedVariables false
theorem own : ownKnob Try.prog.godebug = none := by kernel_rfl
theorem laidOut : laidOutB Try.prog = true := by kernel_rfl
set_option maxRecDepth 100000 in
theorem lifted (os : Os) (started : os.Started) (H : Type) (enc : TypeId × Value → H) :
    ReturnsInHanded {} Try.checked os 5 .any (Rows.capturePlaysSpec.pre6 enc Try.prog Try.f5 Rows.capturePlaysRow.domain false) (Rows.capturePlaysSpec.post enc Try.prog Try.f5 false true false false) := by
  refine returnsInHanded_of_change_sized (C := Try.checked) own started (by kernel_rfl) Try.func5
    (ChangeSpec.witness6 (enc := enc) (C := Try.checked) false ⟨#[], #[.int .i64 0, .slice none 0 0], []⟩ 8 (by kernel_rfl) (by kernel_rfl) (by kernel_rfl) (by kernel_rfl)) ?_
  intro W base args ds gs before hval0 hW hcnd hsz0 _
  have hsz : (DataW.weightsEach Try.prog (Try.f5.params.toList ++ Rows.capturePlaysSpec.plain.varTypes Try.prog) (ds ++ gs)).all (· ≤ reachBytes) = true := hsz0
  have hval : ∀ (j : Nat) t v, Try.f5.params[j]? = some t → args[j]? = some v → Value.okWide Try.prog W .any base t v := hval0
  have hW' := hW
  obtain ⟨p, q, hA0, hV, rfl, hfz, hnd⟩ := hW
  have hA : DataW.TrodAll enc Try.prog W 0 (fun _ => true) true Try.f5.params.toList args.toList ds p := hA0
  rw [Try.params5] at hA hval hsz
  obtain ⟨v0, vs0, d0, ds0, p0, q0, hargs, rfl, rfl, h0, r0⟩ := trodAll_cons hA
  obtain ⟨v1, vs1, d1, ds1, p1, q1, rfl, rfl, rfl, h1, r1⟩ := trodAll_cons r0
  obtain ⟨rfl, rfl, rfl⟩ := trodAll_nil r1
  obtain rfl : args = #[v0, v1] := by cases args; simp_all
  obtain ⟨rfl, rfl⟩ := trodVars_none hV
  obtain ⟨a0, rfl, rfl, rfl, w0⟩ := open_int Try.underlying3 (hval 0 3 v0 rfl rfl) h0
  obtain ⟨a1, len1, cap1, rfl⟩ := okWide_slice Try.underlying33 (hval 1 33 v1 rfl rfl)
  have k1 := h1
  have lt1 : ∀ x ∈ p1, x.block < W.heap.size := by obtain ⟨m, hm⟩ := k1; exact DataW.trod_lt m _ _ _ hm
  obtain ⟨y1, st1, e1, w1⟩ : len1 ≤ 9223372036854775807 ∧ ∃ st : List Plays.Act3, len1 = st.length ∧ Plays.Given W a1 st cap1 := by
    obtain ⟨fuel, hf⟩ := h1
    rcases Deep.open_slice Try.underlying33 hf with ⟨hcs, _⟩ | ⟨a, len, cap, m, n, D, Pl, hcs, _, hl, hm, hmm, _, hx⟩
    · simp [Value.cells] at hcs
      obtain ⟨rfl, rfl, rfl⟩ := hcs
      exact ⟨by omega, [], rfl, Plays.Given.none_ W⟩
    · simp [Value.cells] at hcs
      obtain ⟨rfl, rfl, rfl⟩ := hcs
      have hm' := hm
      unfold maxLen at hm'
      have ce : Try.prog.cellsOf 37 = 3 := by kernel_rfl
      have c0 : Try.prog.cellsOf 3 = 1 := by kernel_rfl
      have c1 : Try.prog.cellsOf 9 = 1 := by kernel_rfl
      have c2 : Try.prog.cellsOf 5 = 1 := by kernel_rfl
      have each : ∀ i, i < len1 → ∃ x : Plays.Act3, W.cell? (a.add (i * 3)) = some (.int .i64 x.1) ∧ W.cell? (a.add (i * 3 + 1)) = some (.string x.2.1) ∧ W.cell? (a.add (i * 3 + 2)) = some (.int .u8 x.2.2) ∧ x.2.1.size ≤ 9223372036854775807 := by
        intro i hi
        have him : i < m := by rw [hmm]; split <;> omega
        obtain ⟨cs', q1, q2⟩ := hx i him
        rw [ce] at q1
        obtain ⟨_, hlen, hcell⟩ := World.cells?_some q1
        obtain ⟨xs, k', hk', _, _, hxl, hg⟩ := DataW.trod_struct Try.underlying37 q2
        match xs, hxl, cs', hlen with
        | [u0, u1, u2], _, [v0, v1, v2], _ =>
          have g0 := hg 0 _ rfl
          have g1 := hg 1 _ rfl
          have g2 := hg 2 _ rfl
          simp [c0, c1, c2] at g0 g1 g2
          have e0 := hcell 0 (by omega)
          have e1 := hcell 1 (by omega)
          have e2 := hcell 2 (by omega)
          rw [Deep.add_add] at e0 e1 e2
          obtain ⟨x0, b0, _, _⟩ := DataW.trod_int Try.underlying3 g0
          obtain ⟨x1, b1, _, hs1⟩ := DataW.trod_string Try.underlying9 g1
          obtain ⟨x2, b2, _, _⟩ := DataW.trod_int Try.underlying5 g2
          obtain rfl := List.cons.inj b0 |>.1
          obtain rfl := List.cons.inj b1 |>.1
          obtain rfl := List.cons.inj b2 |>.1
          unfold maxLen at hs1
          exact ⟨(x0, x1, x2), by simpa using e0, by simpa using e1, by simpa using e2, by simpa using hs1⟩
      obtain ⟨q, hq⟩ := Deep.choose_lt each
      refine ⟨by omega, (List.range len1).map q, by simp, Plays.Given.of_cells (by simpa using hl) (by omega) (fun i hi => ?_)⟩
      have hi' : i < len1 := by simpa using hi
      have eq : ((List.range len1).map q).getD i (0, ⟨#[]⟩, 0) = q i := by simp [List.getD, hi']
      rw [eq]
      exact hq i hi'
  subst e1
  clear hA0 hval0 hsz0 hsz
  refine (Plays.walk a0 a1 cap1 st1 W y1 w1).mono fun e W' ⟨he, bel⟩ => ?_
  subst he
  exact ⟨_, rfl, _, _, _, [], _, [], hW', trodAll_mk1 (shut_bool Try.underlying4 _), (trodAll_cons_mk (shut_int Try.underlying3 w0) (trodAll_cons_mk (Below.trod laidOut (by kernel_rfl) (of_decide_eq_true (by kernel_rfl)) k1 bel lt1) trodAll_mk0)), rfl, bel.frame _, fun h => by cases h⟩
theorem over : Rows.capturePlaysRow.holds Try.pinned (OpenSpec.ofChange Rows.capturePlaysSpec) :=
  OpenClaim.holds_of_wide 5 Try.f5 rfl rfl rfl rfl rfl rfl rfl ⟨rfl, rfl, rfl, rfl, rfl⟩ rfl rfl rfl rfl rfl (by kernel_rfl) Try.func5 (by kernel_rfl)
    (of_decide_eq_true (by kernel_rfl)) (by unfold Func.isWrapper; first | (rw [if_pos (by decide +kernel)]; kernel_rfl) | (rw [if_neg (by decide +kernel)]; exact ⟨rfl, rfl⟩))
    (fun os started H enc _ => lifted os started H enc)
end Go.Proofs.Ytgnmianhbbchgaa.capturePlays
namespace Go.Proofs.Ytgnmianhbbchgaa
theorem capturePlays_holds : Rows.CapturePlaysSaid := capturePlays.over
#print axioms capturePlays_holds
end Go.Proofs.Ytgnmianhbbchgaa
