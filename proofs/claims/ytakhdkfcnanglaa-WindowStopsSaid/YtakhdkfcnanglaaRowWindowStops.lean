/- For all data, steps and windows: once over a window stays over and reads no more. The row of WindowStops, over the walk of YtakhdkfcnanglaaWStops. No condition. -/
import Derived.Test.YtakhdkfcnanglaaRows
import Derived.Test.YtakhdkfcnanglaaWStops
import Derived.WalkKit
import Derived.ProofKit
import Derived.OpenShut
import Derived.ShutString
import Derived.ChangeOld
import Derived.Below
import Derived.SizedLaws
import Derived.Deep.SlicePairs
namespace Go.Proofs.Ytakhdkfcnanglaa.windowStops
open Go.ChangeShapes Go.WideShapes Go.ChangeAt Go.RowKit
open Go.ChangeMaps (open_string shut_string)
set_option linter.unusedVariables false
theorem own : ownKnob Try.prog.godebug = none := by kernel_rfl
theorem laidOut : laidOutB Try.prog = true := by kernel_rfl
theorem open_arr2 {H : Type} {enc : TypeId × Value → H} {P : Program} {W : World} {r : Reach} {b0 base : Nat} {spare : Nat → Bool} {held : Bool} {t e : TypeId} {v : Value} {d : DataW H} {p : List MemPlace}
    (hu : P.underlying t = some (.array 2 e)) (he : P.underlying e = some (.int .i64)) (ct : P.cellsOf t = 2) (ce : P.cellsOf e = 1) (hv : Value.okWide P W r b0 t v) (h : DataW.Trod enc P W base spare held t v d p) :
    ∃ x y : Int, v = .agg #[.int .i64 x, .int .i64 y] ∧ (Lit.int .i64 x).wf = true ∧ (Lit.int .i64 y).wf = true := by
  simp only [Value.okWide, hu] at hv
  obtain ⟨cs, rfl, hsz, _⟩ := hv
  obtain ⟨c0, c1, rfl⟩ : ∃ c0 c1, cs = #[c0, c1] := by
    rw [ct] at hsz
    match cs, hsz with
    | ⟨[c0, c1]⟩, _ => exact ⟨c0, c1, rfl⟩
  obtain ⟨fuel, hf⟩ := h
  obtain ⟨xs, m, _, _, _, hxl, hg⟩ := DataW.trod_array hu hf
  match xs, hxl with
  | [u0, u1], _ =>
    have g0 := hg 0 (by omega)
    have g1 := hg 1 (by omega)
    simp [ce, Value.cells] at g0 g1
    obtain ⟨z0, b0, _, f0⟩ := DataW.trod_int he g0
    obtain ⟨z1, b1, _, f1⟩ := DataW.trod_int he g1
    exact ⟨z0, z1, by rw [(List.cons.inj b0).1, (List.cons.inj b1).1], f0, f1⟩
set_option maxRecDepth 100000 in
theorem lifted (os : Os) (started : os.Started) (H : Type) (enc : TypeId × Value → H) :
    ReturnsInHanded {} Try.checked os 11 .any (Rows.windowStopsSpec.pre6 enc Try.prog Try.f11 Rows.windowStopsRow.domain false) (Rows.windowStopsSpec.post enc Try.prog Try.f11 false true false false) := by
  refine returnsInHanded_of_change_sized (C := Try.checked) own started (by kernel_rfl) Try.func11
    (ChangeSpec.witness6 (enc := enc) (C := Try.checked) false ⟨#[], #[.agg #[.int .i64 0, .int .i64 0], .string ByteArray.empty, .slice none 0 0], []⟩ 8 (by kernel_rfl) (by kernel_rfl) (by kernel_rfl) (by kernel_rfl)) ?_
  intro W base args ds gs before hval0 hW hcnd hsz0 _
  have hsz : (DataW.weightsEach Try.prog (Try.f11.params.toList ++ Rows.windowStopsSpec.plain.varTypes Try.prog) (ds ++ gs)).all (· ≤ reachBytes) = true := hsz0
  have hval : ∀ (j : Nat) t v, Try.f11.params[j]? = some t → args[j]? = some v → Value.okWide Try.prog W .any base t v := hval0
  have hW' := hW
  obtain ⟨p, q, hA0, hV, rfl, hfz, hnd⟩ := hW
  have hA : DataW.TrodAll enc Try.prog W 0 (fun _ => true) true Try.f11.params.toList args.toList ds p := hA0
  rw [Try.params11] at hA hval hsz
  obtain ⟨v0, vs0, d0, ds0, p0, q0, hargs, rfl, rfl, h0, r0⟩ := trodAll_cons hA
  obtain ⟨v1, vs1, d1, ds1, p1, q1, rfl, rfl, rfl, h1, r1⟩ := trodAll_cons r0
  obtain ⟨v2, vs2, d2, ds2, p2, q2, rfl, rfl, rfl, h2, r2⟩ := trodAll_cons r1
  obtain ⟨rfl, rfl, rfl⟩ := trodAll_nil r2
  obtain rfl : args = #[v0, v1, v2] := by cases args; simp_all
  obtain ⟨rfl, rfl⟩ := trodVars_none hV
  have k0 := h0
  have lt0 : ∀ x ∈ p0, x.block < W.heap.size := by obtain ⟨m, hm⟩ := k0; exact DataW.trod_lt m _ _ _ hm
  obtain ⟨x0, y0, rfl, w0⟩ : ∃ x y : Int, v0 = .agg #[.int .i64 x, .int .i64 y] ∧ (Lit.int .i64 x).wf = true ∧ (Lit.int .i64 y).wf = true := by
    exact open_arr2 Try.underlying46 Try.underlying3 (by kernel_rfl) (by kernel_rfl) (hval 0 46 v0 rfl rfl) h0
  obtain ⟨a1, rfl, rfl, rfl, y1⟩ := open_string Try.underlying9 (hval 1 9 v1 rfl rfl) h1
  have w1 : a1.size ≤ 140737488351232 := by
    have z := sized_string hsz (j := 1) (t := 9) rfl rfl
    rw [Array.length_toList] at z
    exact z
  obtain ⟨a2, len2, cap2, rfl⟩ := okWide_slice Try.underlying22 (hval 2 22 v2 rfl rfl)
  have k2 := h2
  have lt2 : ∀ x ∈ p2, x.block < W.heap.size := by obtain ⟨m, hm⟩ := k2; exact DataW.trod_lt m _ _ _ hm
  obtain ⟨y2, st2, e2, w2⟩ : len2 ≤ 9223372036854775807 ∧ ∃ st : List (Int × Int), len2 = st.length ∧ Go.Proofs.Ytakhdkfcnanglaa.New.Given W a2 st cap2 := by
    obtain ⟨fuel, hf⟩ := h2
    rcases Deep.open_slice_pairs Try.underlying22 Try.underlying36 (by kernel_rfl) rfl rfl (by kernel_rfl) (by kernel_rfl) hf with ⟨hcs, _⟩ | ⟨a, len, cap, m, n, V0, V1, D0, D1, P0, P1, hcs, _, hl, hm, hmm, _, hx⟩
    · simp [Value.cells] at hcs
      obtain ⟨rfl, rfl, rfl⟩ := hcs
      exact ⟨by omega, [], rfl, Go.Proofs.Ytakhdkfcnanglaa.New.Given.none_ W⟩
    · simp [Value.cells] at hcs
      obtain ⟨rfl, rfl, rfl⟩ := hcs
      have hm' := hm
      unfold maxLen at hm'
      have each : ∀ i, i < len2 → ∃ x : Int × Int, W.cell? (a.add (i * 2)) = some (.int .i64 x.1) ∧ W.cell? (a.add (i * 2 + 1)) = some (.int .i64 x.2) ∧ (Lit.int .i64 x.1).wf = true ∧ (Lit.int .i64 x.2).wf = true := by
        intro i hi
        have him : i < m := by rw [hmm]; split <;> omega
        obtain ⟨h1, h2, h3, h4⟩ := hx i him
        obtain ⟨x0, e0, _, b0⟩ := DataW.trod_int Try.underlying3 h3
        obtain ⟨x1, e1, _, b1⟩ := DataW.trod_int Try.underlying3 h4
        rw [List.cons.inj e0 |>.1] at h1
        rw [List.cons.inj e1 |>.1] at h2
        exact ⟨(x0, x1), h1, h2, b0, b1⟩
      obtain ⟨q, hq⟩ := Deep.choose_lt each
      have eq : ∀ i, i < ((List.range len2).map q).length → i < len2 ∧ ((List.range len2).map q).getD i (0, 0) = q i := fun i hi => by
        have hi' : i < len2 := by simpa using hi
        exact ⟨hi', by simp [List.getD, hi']⟩
      refine ⟨by omega, (List.range len2).map q, by simp, Go.Proofs.Ytakhdkfcnanglaa.New.Given.of_pairs (by simpa using hl) (by omega) (fun i hi => ?_)⟩
      · obtain ⟨hi', e⟩ := eq i hi
        rw [e]
        exact ⟨(hq i hi').1, (hq i hi').2.1⟩
  subst e2
  clear hA0 hval0 hsz0 hsz
  refine (Go.Proofs.Ytakhdkfcnanglaa.WStops.walk x0 y0 a1 a2 cap2 st2 W w1 y2 w2).mono fun e W' ⟨he, bel⟩ => ?_
  subst he
  exact ⟨_, rfl, _, _, _, [], _, [], hW', trodAll_mk1 (shut_bool Try.underlying4 _), (trodAll_cons_mk (Below.trod laidOut (by kernel_rfl) (of_decide_eq_true (by kernel_rfl)) k0 bel lt0) (trodAll_cons_mk (shut_string Try.underlying9 y1) (trodAll_cons_mk (Below.trod laidOut (by kernel_rfl) (of_decide_eq_true (by kernel_rfl)) k2 bel lt2) trodAll_mk0))), rfl, bel.frame _, fun h => by cases h⟩
theorem over : Rows.windowStopsRow.holds Try.pinned (OpenSpec.ofChange Rows.windowStopsSpec) :=
  OpenClaim.holds_of_wide 11 Try.f11 rfl rfl rfl rfl rfl rfl rfl ⟨rfl, rfl, rfl, rfl, rfl⟩ rfl rfl rfl rfl rfl (by kernel_rfl) Try.func11 (by kernel_rfl)
    (of_decide_eq_true (by kernel_rfl)) (by unfold Func.isWrapper; first | (rw [if_pos (by decide +kernel)]; kernel_rfl) | (rw [if_neg (by decide +kernel)]; exact ⟨rfl, rfl⟩))
    (fun os started H enc _ => lifted os started H enc)
end Go.Proofs.Ytakhdkfcnanglaa.windowStops
namespace Go.Proofs.Ytakhdkfcnanglaa
theorem windowStops_holds : Rows.WindowStopsSaid := windowStops.over
#print axioms windowStops_holds
end Go.Proofs.Ytakhdkfcnanglaa
