/-
  No cell of these rows narrows 'for every input' (looked for: loops, veiled, ifaces, maps, wideKeys, modest, calm, conditions, laid).
  DERIVED. THE GIVEN ROWS OF THIS SEAT. 11 by the template 'for every input the law returns true; each argument reads behind the call as it read before'; 0 by the template 'total and deterministic' (their statements: YtakhdkfcnanglaaTotals.lean).
  GIVEN WITH THE SEED: the statements are not yours to turn. If you find one false, say at which input.
  Laid BY PROGRAM, IN A SANDBOX (cutbox-rows.mjs): the forced cells as the released guide's own fill.sh prints them over the translation 0229b93dde2fa09b… (all of the seat's roots in one cut). By AI agents, Wed Nov 11 2026. No macro, syntax, notation, axiom, sorry.
-/
import Derived.Test.YtakhdkfcnanglaaChecked
import GoSem.Claim
import GoSem.ClaimJoined
import GoSem.ClaimMapViews
import Derived.JoinedTies
import Derived.KernelRfl
namespace Go.Proofs.Ytakhdkfcnanglaa
/- THE CELL 'sum', in the pinned program and in every row, IS THE sha256 OF THE DUMP (.gsa) THAT YtakhdkfcnanglaaProg.lean LOADS. Nothing in Lean hashes anything: it is a label: what it is worth is what the hold of that sum in a sandbox is worth. -/
noncomputable def Try.pinned : Pinned := { name := "ytakhdkfcnanglaa", sum := "0229b93dde2fa09b7ab17c9bfacc10f1a8b5cbd773b046c16f812ab7203dd4c0", checked := Try.checked }
namespace Rows
def none {H : Type} : Left H := { results := [], args := [] }

/-- 'gantletlaw03.SourceReads': WHATEVER THE INPUT: true; the input reads as it did. -/
def sourceReadsSpec : ChangeSpec := { name := "sourceReads", fn := fun _ => fun
  | [d1, d2, d3] => { results := [.lit (.bool true)], args := [d1, d2, d3] }
  | _ => none }
def sourceReadsRow : OpenClaim := { program := "ytakhdkfcnanglaa", sum := "0229b93dde2fa09b7ab17c9bfacc10f1a8b5cbd773b046c16f812ab7203dd4c0", func := "gantlet/gantletlaw03.SourceReads", spec := "sourceReads", inPlace := ["sync/atomic.AddInt64", "sync/atomic.LoadInt64"], apart := false }
def SourceReadsSaid : Prop := sourceReadsRow.holds Try.pinned (OpenSpec.ofChange sourceReadsSpec)

/-- ITS FALSE NEIGHBOUR: 'it returns false'. Refute it at one input. -/
def sourceReadsWrong : ChangeSpec := { name := "sourceReads", fn := fun _ => fun
  | [d1, d2, d3] => { results := [.lit (.bool false)], args := [d1, d2, d3] }
  | _ => none }
def SourceReadsWrongFalsely : Prop := sourceReadsRow.holds Try.pinned (OpenSpec.ofChange sourceReadsWrong)

/-- 'gantletlaw03.SourceAll': WHATEVER THE INPUT: true; the input reads as it did. -/
def sourceAllSpec : ChangeSpec := { name := "sourceAll", fn := fun _ => fun
  | [d1, d2, d3] => { results := [.lit (.bool true)], args := [d1, d2, d3] }
  | _ => none }
def sourceAllRow : OpenClaim := { program := "ytakhdkfcnanglaa", sum := "0229b93dde2fa09b7ab17c9bfacc10f1a8b5cbd773b046c16f812ab7203dd4c0", func := "gantlet/gantletlaw03.SourceAll", spec := "sourceAll", inPlace := ["sync/atomic.AddInt64", "sync/atomic.LoadInt64"], apart := false }
def SourceAllSaid : Prop := sourceAllRow.holds Try.pinned (OpenSpec.ofChange sourceAllSpec)

/-- ITS FALSE NEIGHBOUR: 'it returns false'. Refute it at one input. -/
def sourceAllWrong : ChangeSpec := { name := "sourceAll", fn := fun _ => fun
  | [d1, d2, d3] => { results := [.lit (.bool false)], args := [d1, d2, d3] }
  | _ => none }
def SourceAllWrongFalsely : Prop := sourceAllRow.holds Try.pinned (OpenSpec.ofChange sourceAllWrong)

/-- 'gantletlaw03.SourceEnds': WHATEVER THE INPUT: true; the input reads as it did. -/
def sourceEndsSpec : ChangeSpec := { name := "sourceEnds", fn := fun _ => fun
  | [d1, d2] => { results := [.lit (.bool true)], args := [d1, d2] }
  | _ => none }
def sourceEndsRow : OpenClaim := { program := "ytakhdkfcnanglaa", sum := "0229b93dde2fa09b7ab17c9bfacc10f1a8b5cbd773b046c16f812ab7203dd4c0", func := "gantlet/gantletlaw03.SourceEnds", spec := "sourceEnds", inPlace := ["sync/atomic.AddInt64", "sync/atomic.LoadInt64"], apart := false }
def SourceEndsSaid : Prop := sourceEndsRow.holds Try.pinned (OpenSpec.ofChange sourceEndsSpec)

/-- ITS FALSE NEIGHBOUR: 'it returns false'. Refute it at one input. -/
def sourceEndsWrong : ChangeSpec := { name := "sourceEnds", fn := fun _ => fun
  | [d1, d2] => { results := [.lit (.bool false)], args := [d1, d2] }
  | _ => none }
def SourceEndsWrongFalsely : Prop := sourceEndsRow.holds Try.pinned (OpenSpec.ofChange sourceEndsWrong)

/-- 'gantletlaw03.SourceCounts': WHATEVER THE INPUT: true; the input reads as it did. -/
def sourceCountsSpec : ChangeSpec := { name := "sourceCounts", fn := fun _ => fun
  | [d1, d2, d3] => { results := [.lit (.bool true)], args := [d1, d2, d3] }
  | _ => none }
def sourceCountsRow : OpenClaim := { program := "ytakhdkfcnanglaa", sum := "0229b93dde2fa09b7ab17c9bfacc10f1a8b5cbd773b046c16f812ab7203dd4c0", func := "gantlet/gantletlaw03.SourceCounts", spec := "sourceCounts", inPlace := ["sync/atomic.AddInt64", "sync/atomic.LoadInt64"], apart := false }
def SourceCountsSaid : Prop := sourceCountsRow.holds Try.pinned (OpenSpec.ofChange sourceCountsSpec)

/-- ITS FALSE NEIGHBOUR: 'it returns false'. Refute it at one input. -/
def sourceCountsWrong : ChangeSpec := { name := "sourceCounts", fn := fun _ => fun
  | [d1, d2, d3] => { results := [.lit (.bool false)], args := [d1, d2, d3] }
  | _ => none }
def SourceCountsWrongFalsely : Prop := sourceCountsRow.holds Try.pinned (OpenSpec.ofChange sourceCountsWrong)

/-- 'gantletlaw04.WindowAll': WHATEVER THE INPUT: true; the input reads as it did. -/
def windowAllSpec : ChangeSpec := { name := "windowAll", fn := fun _ => fun
  | [d1, d2, d3] => { results := [.lit (.bool true)], args := [d1, d2, d3] }
  | _ => none }
def windowAllRow : OpenClaim := { program := "ytakhdkfcnanglaa", sum := "0229b93dde2fa09b7ab17c9bfacc10f1a8b5cbd773b046c16f812ab7203dd4c0", func := "gantlet/gantletlaw04.WindowAll", spec := "windowAll", inPlace := ["sync/atomic.AddInt64", "sync/atomic.LoadInt64"], apart := false }
def WindowAllSaid : Prop := windowAllRow.holds Try.pinned (OpenSpec.ofChange windowAllSpec)

/-- ITS FALSE NEIGHBOUR: 'it returns false'. Refute it at one input. -/
def windowAllWrong : ChangeSpec := { name := "windowAll", fn := fun _ => fun
  | [d1, d2, d3] => { results := [.lit (.bool false)], args := [d1, d2, d3] }
  | _ => none }
def WindowAllWrongFalsely : Prop := windowAllRow.holds Try.pinned (OpenSpec.ofChange windowAllWrong)

/-- 'gantletlaw03.SourceSteps': WHATEVER THE INPUT: true; the input reads as it did. -/
def sourceStepsSpec : ChangeSpec := { name := "sourceSteps", fn := fun _ => fun
  | [d1, d2] => { results := [.lit (.bool true)], args := [d1, d2] }
  | _ => none }
def sourceStepsRow : OpenClaim := { program := "ytakhdkfcnanglaa", sum := "0229b93dde2fa09b7ab17c9bfacc10f1a8b5cbd773b046c16f812ab7203dd4c0", func := "gantlet/gantletlaw03.SourceSteps", spec := "sourceSteps", inPlace := ["sync/atomic.AddInt64", "sync/atomic.LoadInt64"], apart := false }
def SourceStepsSaid : Prop := sourceStepsRow.holds Try.pinned (OpenSpec.ofChange sourceStepsSpec)

/-- ITS FALSE NEIGHBOUR: 'it returns false'. Refute it at one input. -/
def sourceStepsWrong : ChangeSpec := { name := "sourceSteps", fn := fun _ => fun
  | [d1, d2] => { results := [.lit (.bool false)], args := [d1, d2] }
  | _ => none }
def SourceStepsWrongFalsely : Prop := sourceStepsRow.holds Try.pinned (OpenSpec.ofChange sourceStepsWrong)

/-- 'gantletlaw04.WindowCalls': WHATEVER THE INPUT: true; the input reads as it did. -/
def windowCallsSpec : ChangeSpec := { name := "windowCalls", fn := fun _ => fun
  | [d1, d2, d3] => { results := [.lit (.bool true)], args := [d1, d2, d3] }
  | _ => none }
def windowCallsRow : OpenClaim := { program := "ytakhdkfcnanglaa", sum := "0229b93dde2fa09b7ab17c9bfacc10f1a8b5cbd773b046c16f812ab7203dd4c0", func := "gantlet/gantletlaw04.WindowCalls", spec := "windowCalls", inPlace := ["sync/atomic.AddInt64", "sync/atomic.LoadInt64"], apart := false }
def WindowCallsSaid : Prop := windowCallsRow.holds Try.pinned (OpenSpec.ofChange windowCallsSpec)

/-- ITS FALSE NEIGHBOUR: 'it returns false'. Refute it at one input. -/
def windowCallsWrong : ChangeSpec := { name := "windowCalls", fn := fun _ => fun
  | [d1, d2, d3] => { results := [.lit (.bool false)], args := [d1, d2, d3] }
  | _ => none }
def WindowCallsWrongFalsely : Prop := windowCallsRow.holds Try.pinned (OpenSpec.ofChange windowCallsWrong)

/-- 'gantletlaw04.WindowGives': WHATEVER THE INPUT: true; the input reads as it did. -/
def windowGivesSpec : ChangeSpec := { name := "windowGives", fn := fun _ => fun
  | [d1, d2, d3] => { results := [.lit (.bool true)], args := [d1, d2, d3] }
  | _ => none }
def windowGivesRow : OpenClaim := { program := "ytakhdkfcnanglaa", sum := "0229b93dde2fa09b7ab17c9bfacc10f1a8b5cbd773b046c16f812ab7203dd4c0", func := "gantlet/gantletlaw04.WindowGives", spec := "windowGives", inPlace := ["sync/atomic.AddInt64", "sync/atomic.LoadInt64"], apart := false }
def WindowGivesSaid : Prop := windowGivesRow.holds Try.pinned (OpenSpec.ofChange windowGivesSpec)

/-- ITS FALSE NEIGHBOUR: 'it returns false'. Refute it at one input. -/
def windowGivesWrong : ChangeSpec := { name := "windowGives", fn := fun _ => fun
  | [d1, d2, d3] => { results := [.lit (.bool false)], args := [d1, d2, d3] }
  | _ => none }
def WindowGivesWrongFalsely : Prop := windowGivesRow.holds Try.pinned (OpenSpec.ofChange windowGivesWrong)

/-- 'gantletlaw04.WindowStops': WHATEVER THE INPUT: true; the input reads as it did. -/
def windowStopsSpec : ChangeSpec := { name := "windowStops", fn := fun _ => fun
  | [d1, d2, d3] => { results := [.lit (.bool true)], args := [d1, d2, d3] }
  | _ => none }
def windowStopsRow : OpenClaim := { program := "ytakhdkfcnanglaa", sum := "0229b93dde2fa09b7ab17c9bfacc10f1a8b5cbd773b046c16f812ab7203dd4c0", func := "gantlet/gantletlaw04.WindowStops", spec := "windowStops", inPlace := ["sync/atomic.AddInt64", "sync/atomic.LoadInt64"], apart := false }
def WindowStopsSaid : Prop := windowStopsRow.holds Try.pinned (OpenSpec.ofChange windowStopsSpec)

/-- ITS FALSE NEIGHBOUR: 'it returns false'. Refute it at one input. -/
def windowStopsWrong : ChangeSpec := { name := "windowStops", fn := fun _ => fun
  | [d1, d2, d3] => { results := [.lit (.bool false)], args := [d1, d2, d3] }
  | _ => none }
def WindowStopsWrongFalsely : Prop := windowStopsRow.holds Try.pinned (OpenSpec.ofChange windowStopsWrong)

/-- 'gantletlaw04.WindowPeeks': WHATEVER THE INPUT: true; the input reads as it did. -/
def windowPeeksSpec : ChangeSpec := { name := "windowPeeks", fn := fun _ => fun
  | [d1, d2, d3] => { results := [.lit (.bool true)], args := [d1, d2, d3] }
  | _ => none }
def windowPeeksRow : OpenClaim := { program := "ytakhdkfcnanglaa", sum := "0229b93dde2fa09b7ab17c9bfacc10f1a8b5cbd773b046c16f812ab7203dd4c0", func := "gantlet/gantletlaw04.WindowPeeks", spec := "windowPeeks", inPlace := ["sync/atomic.AddInt64", "sync/atomic.LoadInt64"], apart := false }
def WindowPeeksSaid : Prop := windowPeeksRow.holds Try.pinned (OpenSpec.ofChange windowPeeksSpec)

/-- ITS FALSE NEIGHBOUR: 'it returns false'. Refute it at one input. -/
def windowPeeksWrong : ChangeSpec := { name := "windowPeeks", fn := fun _ => fun
  | [d1, d2, d3] => { results := [.lit (.bool false)], args := [d1, d2, d3] }
  | _ => none }
def WindowPeeksWrongFalsely : Prop := windowPeeksRow.holds Try.pinned (OpenSpec.ofChange windowPeeksWrong)

/-- 'gantletlaw04.WindowSizes': WHATEVER THE INPUT: true; the input reads as it did. -/
def windowSizesSpec : ChangeSpec := { name := "windowSizes", fn := fun _ => fun
  | [d1, d2] => { results := [.lit (.bool true)], args := [d1, d2] }
  | _ => none }
def windowSizesRow : OpenClaim := { program := "ytakhdkfcnanglaa", sum := "0229b93dde2fa09b7ab17c9bfacc10f1a8b5cbd773b046c16f812ab7203dd4c0", func := "gantlet/gantletlaw04.WindowSizes", spec := "windowSizes", inPlace := ["sync/atomic.AddInt64", "sync/atomic.LoadInt64"], apart := false }
def WindowSizesSaid : Prop := windowSizesRow.holds Try.pinned (OpenSpec.ofChange windowSizesSpec)

/-- ITS FALSE NEIGHBOUR: 'it returns false'. Refute it at one input. -/
def windowSizesWrong : ChangeSpec := { name := "windowSizes", fn := fun _ => fun
  | [d1, d2] => { results := [.lit (.bool false)], args := [d1, d2] }
  | _ => none }
def WindowSizesWrongFalsely : Prop := windowSizesRow.holds Try.pinned (OpenSpec.ofChange windowSizesWrong)

/- THE SECOND FORM. 'bulk': how many values and letters a reading holds, each counted each time it is reached (what is shared counts as often as it is met; a slice's spare places count too). A statement '..UptoSaid' is the law's where the arguments, and the package variables that the reading takes, are together of bulk at most 1048576: NARROWER than '..Said'. Prove '..Said' where nothing that the law and all that it calls make is longer than what came in: it says more and counts as full. Else prove '..UptoSaid'. A law counts once. -/
mutual
def uptoBulk {H : Type} : DataW H → Nat
  | .lit (.string bytes) => bytes.length + 1
  | .lit _ => 1
  | .nil => 1
  | .ptr d => uptoBulk d + 1
  | .slice elems spare => uptoBulkAll elems + uptoBulkAll spare + 1
  | .agg parts => uptoBulkAll parts + 1
  | .iface _ d => uptoBulk d + 1
  | .map entries => uptoBulkEntries entries + 1
  | .held _ => 1
def uptoBulkAll {H : Type} : List (DataW H) → Nat
  | [] => 0
  | d :: r => uptoBulk d + uptoBulkAll r
def uptoBulkEntries {H : Type} : List (Lit × DataW H) → Nat
  | [] => 0
  | x :: r => uptoBulkEntry x + uptoBulkEntries r
def uptoBulkEntry {H : Type} : Lit × DataW H → Nat
  | (.string bytes, d) => bytes.length + uptoBulk d + 1
  | (_, d) => uptoBulk d + 1
 end
def uptoSmall : (H : Type) → List (DataW H) → Bool := fun _ ds => decide (uptoBulkAll ds ≤ 1048576)
def OpenSpec.upto (s : _root_.Go.ChangeSpec) : _root_.Go.OpenSpec := { _root_.Go.OpenSpec.ofChange s with cond := some uptoSmall }

/-- 'gantletlaw03.SourceReads', WHERE WHAT IT READS IS OF BULK AT MOST 1048576: true; the input reads as it did. -/
def sourceReadsUptoRow : OpenClaim := { program := "ytakhdkfcnanglaa", sum := "0229b93dde2fa09b7ab17c9bfacc10f1a8b5cbd773b046c16f812ab7203dd4c0", func := "gantlet/gantletlaw03.SourceReads", spec := "sourceReads", inPlace := ["sync/atomic.AddInt64", "sync/atomic.LoadInt64"], apart := false, narrowed := true }
def SourceReadsUptoSaid : Prop := sourceReadsUptoRow.holds Try.pinned (OpenSpec.upto sourceReadsSpec)

/-- 'gantletlaw03.SourceAll', WHERE WHAT IT READS IS OF BULK AT MOST 1048576: true; the input reads as it did. -/
def sourceAllUptoRow : OpenClaim := { program := "ytakhdkfcnanglaa", sum := "0229b93dde2fa09b7ab17c9bfacc10f1a8b5cbd773b046c16f812ab7203dd4c0", func := "gantlet/gantletlaw03.SourceAll", spec := "sourceAll", inPlace := ["sync/atomic.AddInt64", "sync/atomic.LoadInt64"], apart := false, narrowed := true }
def SourceAllUptoSaid : Prop := sourceAllUptoRow.holds Try.pinned (OpenSpec.upto sourceAllSpec)

/-- 'gantletlaw03.SourceEnds', WHERE WHAT IT READS IS OF BULK AT MOST 1048576: true; the input reads as it did. -/
def sourceEndsUptoRow : OpenClaim := { program := "ytakhdkfcnanglaa", sum := "0229b93dde2fa09b7ab17c9bfacc10f1a8b5cbd773b046c16f812ab7203dd4c0", func := "gantlet/gantletlaw03.SourceEnds", spec := "sourceEnds", inPlace := ["sync/atomic.AddInt64", "sync/atomic.LoadInt64"], apart := false, narrowed := true }
def SourceEndsUptoSaid : Prop := sourceEndsUptoRow.holds Try.pinned (OpenSpec.upto sourceEndsSpec)

/-- 'gantletlaw03.SourceCounts', WHERE WHAT IT READS IS OF BULK AT MOST 1048576: true; the input reads as it did. -/
def sourceCountsUptoRow : OpenClaim := { program := "ytakhdkfcnanglaa", sum := "0229b93dde2fa09b7ab17c9bfacc10f1a8b5cbd773b046c16f812ab7203dd4c0", func := "gantlet/gantletlaw03.SourceCounts", spec := "sourceCounts", inPlace := ["sync/atomic.AddInt64", "sync/atomic.LoadInt64"], apart := false, narrowed := true }
def SourceCountsUptoSaid : Prop := sourceCountsUptoRow.holds Try.pinned (OpenSpec.upto sourceCountsSpec)

/-- 'gantletlaw04.WindowAll', WHERE WHAT IT READS IS OF BULK AT MOST 1048576: true; the input reads as it did. -/
def windowAllUptoRow : OpenClaim := { program := "ytakhdkfcnanglaa", sum := "0229b93dde2fa09b7ab17c9bfacc10f1a8b5cbd773b046c16f812ab7203dd4c0", func := "gantlet/gantletlaw04.WindowAll", spec := "windowAll", inPlace := ["sync/atomic.AddInt64", "sync/atomic.LoadInt64"], apart := false, narrowed := true }
def WindowAllUptoSaid : Prop := windowAllUptoRow.holds Try.pinned (OpenSpec.upto windowAllSpec)

/-- 'gantletlaw03.SourceSteps', WHERE WHAT IT READS IS OF BULK AT MOST 1048576: true; the input reads as it did. -/
def sourceStepsUptoRow : OpenClaim := { program := "ytakhdkfcnanglaa", sum := "0229b93dde2fa09b7ab17c9bfacc10f1a8b5cbd773b046c16f812ab7203dd4c0", func := "gantlet/gantletlaw03.SourceSteps", spec := "sourceSteps", inPlace := ["sync/atomic.AddInt64", "sync/atomic.LoadInt64"], apart := false, narrowed := true }
def SourceStepsUptoSaid : Prop := sourceStepsUptoRow.holds Try.pinned (OpenSpec.upto sourceStepsSpec)

/-- 'gantletlaw04.WindowCalls', WHERE WHAT IT READS IS OF BULK AT MOST 1048576: true; the input reads as it did. -/
def windowCallsUptoRow : OpenClaim := { program := "ytakhdkfcnanglaa", sum := "0229b93dde2fa09b7ab17c9bfacc10f1a8b5cbd773b046c16f812ab7203dd4c0", func := "gantlet/gantletlaw04.WindowCalls", spec := "windowCalls", inPlace := ["sync/atomic.AddInt64", "sync/atomic.LoadInt64"], apart := false, narrowed := true }
def WindowCallsUptoSaid : Prop := windowCallsUptoRow.holds Try.pinned (OpenSpec.upto windowCallsSpec)

/-- 'gantletlaw04.WindowGives', WHERE WHAT IT READS IS OF BULK AT MOST 1048576: true; the input reads as it did. -/
def windowGivesUptoRow : OpenClaim := { program := "ytakhdkfcnanglaa", sum := "0229b93dde2fa09b7ab17c9bfacc10f1a8b5cbd773b046c16f812ab7203dd4c0", func := "gantlet/gantletlaw04.WindowGives", spec := "windowGives", inPlace := ["sync/atomic.AddInt64", "sync/atomic.LoadInt64"], apart := false, narrowed := true }
def WindowGivesUptoSaid : Prop := windowGivesUptoRow.holds Try.pinned (OpenSpec.upto windowGivesSpec)

/-- 'gantletlaw04.WindowStops', WHERE WHAT IT READS IS OF BULK AT MOST 1048576: true; the input reads as it did. -/
def windowStopsUptoRow : OpenClaim := { program := "ytakhdkfcnanglaa", sum := "0229b93dde2fa09b7ab17c9bfacc10f1a8b5cbd773b046c16f812ab7203dd4c0", func := "gantlet/gantletlaw04.WindowStops", spec := "windowStops", inPlace := ["sync/atomic.AddInt64", "sync/atomic.LoadInt64"], apart := false, narrowed := true }
def WindowStopsUptoSaid : Prop := windowStopsUptoRow.holds Try.pinned (OpenSpec.upto windowStopsSpec)

/-- 'gantletlaw04.WindowPeeks', WHERE WHAT IT READS IS OF BULK AT MOST 1048576: true; the input reads as it did. -/
def windowPeeksUptoRow : OpenClaim := { program := "ytakhdkfcnanglaa", sum := "0229b93dde2fa09b7ab17c9bfacc10f1a8b5cbd773b046c16f812ab7203dd4c0", func := "gantlet/gantletlaw04.WindowPeeks", spec := "windowPeeks", inPlace := ["sync/atomic.AddInt64", "sync/atomic.LoadInt64"], apart := false, narrowed := true }
def WindowPeeksUptoSaid : Prop := windowPeeksUptoRow.holds Try.pinned (OpenSpec.upto windowPeeksSpec)

/-- 'gantletlaw04.WindowSizes', WHERE WHAT IT READS IS OF BULK AT MOST 1048576: true; the input reads as it did. -/
def windowSizesUptoRow : OpenClaim := { program := "ytakhdkfcnanglaa", sum := "0229b93dde2fa09b7ab17c9bfacc10f1a8b5cbd773b046c16f812ab7203dd4c0", func := "gantlet/gantletlaw04.WindowSizes", spec := "windowSizes", inPlace := ["sync/atomic.AddInt64", "sync/atomic.LoadInt64"], apart := false, narrowed := true }
def WindowSizesUptoSaid : Prop := windowSizesUptoRow.holds Try.pinned (OpenSpec.upto windowSizesSpec)

end Rows
end Go.Proofs.Ytakhdkfcnanglaa
