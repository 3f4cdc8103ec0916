/- What the laws share: arcs that came in. -/
import Derived.Test.YtgloehelfdmmaaaLawc
namespace Go.Proofs.Ytgloehelfdmmaaa.Oid
set_option linter.unusedVariables false
open Go.RowKit

theorem wf_u64 {n : Int} (h : (Lit.int .u64 n).wf = true) : 0 ≤ n ∧ n < 18446744073709551616 := by
  simp [Lit.wf, IntKind.min, IntKind.max, IntKind.signed, IntKind.bits] at h
  omega
theorem Arcs.none_ (w : World) : Arcs w none [] 0 := ⟨by simp, by omega, .inl ⟨rfl, rfl, rfl⟩, by simp⟩
theorem Arcs.of_ints {w : World} {a : Addr} {zs : List Int} {len cap : Nat} (hl : len ≤ cap) (hm : cap ≤ 9223372036854775807) (hz : len ≤ zs.length)
    (hc : ∀ i, i < zs.length → w.cell? (a.add i) = some (.int .u64 (zs.getD i 0))) (hw : ∀ n ∈ zs, (Lit.int .u64 n).wf = true) :
    len = ((zs.take len).map Int.toNat).length ∧ Arcs w (some a) ((zs.take len).map Int.toNat) cap := by
  have hlen : ((zs.take len).map Int.toNat).length = len := by
    rw [List.length_map, List.length_take]
    omega
  refine ⟨hlen.symm, by omega, hm, .inr ⟨a, rfl, fun i hi => ?_⟩, fun n hn => ?_⟩
  · rw [hlen] at hi
    have hiz : i < zs.length := by omega
    rw [hc i hiz]
    have e1 : zs.getD i 0 = zs[i] := by simp [List.getD, hiz]
    have e2 : ((zs.take len).map Int.toNat).getD i 0 = (zs[i]).toNat := by
      simp [List.getD, hiz, hi]
    rw [e1, e2]
    have := wf_u64 (hw zs[i] (List.getElem_mem hiz))
    rw [Int.toNat_of_nonneg this.1]
  · rw [List.mem_map] at hn
    obtain ⟨z, hz2, rfl⟩ := hn
    have := wf_u64 (hw z (List.mem_of_mem_take hz2))
    omega
end Go.Proofs.Ytgloehelfdmmaaa.Oid
