/-
  No cell of these rows narrows 'for every input' (looked for: loops, veiled, ifaces, maps, wideKeys, modest, calm, conditions, laid).
  DERIVED. THE GIVEN ROWS OF THIS SEAT. 5 by the template 'for every input the law returns true; each argument reads behind the call as it read before'; 0 by the template 'total and deterministic' (their statements: YtejhgoihjmlmnaaTotals.lean).
  GIVEN WITH THE SEED: the statements are not yours to turn. If you find one false, say at which input.
  Laid BY PROGRAM, IN A SANDBOX (cutbox-rows.mjs): the forced cells as the released guide's own fill.sh prints them over the translation 5be2d8a4335c73f8… (all of the seat's roots in one cut). By AI agents, Wed Nov 11 2026. No macro, syntax, notation, axiom, sorry.
-/
import Derived.Test.YtejhgoihjmlmnaaChecked
import GoSem.Claim
import GoSem.ClaimJoined
import GoSem.ClaimMapViews
import Derived.JoinedTies
import Derived.KernelRfl
namespace Go.Proofs.Ytejhgoihjmlmnaa
/- THE CELL 'sum', in the pinned program and in every row, IS THE sha256 OF THE DUMP (.gsa) THAT YtejhgoihjmlmnaaProg.lean LOADS. Nothing in Lean hashes anything: it is a label: what it is worth is what the hold of that sum in a sandbox is worth. -/
noncomputable def Try.pinned : Pinned := { name := "ytejhgoihjmlmnaa", sum := "5be2d8a4335c73f8b08caf784ee5d6038c9a0a346e6fe4f87a0bac4c5e8fd85c", checked := Try.checked }
namespace Rows
def none {H : Type} : Left H := { results := [], args := [] }

/-- 'gantletlaw08.StackSums': WHATEVER THE INPUT: true; the input reads as it did. -/
def stackSumsSpec : ChangeSpec := { name := "stackSums", fn := fun _ => fun
  | [d1, d2] => { results := [.lit (.bool true)], args := [d1, d2] }
  | _ => none }
def stackSumsRow : OpenClaim := { program := "ytejhgoihjmlmnaa", sum := "5be2d8a4335c73f8b08caf784ee5d6038c9a0a346e6fe4f87a0bac4c5e8fd85c", func := "gantlet/gantletlaw08.StackSums", spec := "stackSums", apart := false }
def StackSumsSaid : Prop := stackSumsRow.holds Try.pinned (OpenSpec.ofChange stackSumsSpec)

/-- ITS FALSE NEIGHBOUR: 'it returns false'. Refute it at one input. -/
def stackSumsWrong : ChangeSpec := { name := "stackSums", fn := fun _ => fun
  | [d1, d2] => { results := [.lit (.bool false)], args := [d1, d2] }
  | _ => none }
def StackSumsWrongFalsely : Prop := stackSumsRow.holds Try.pinned (OpenSpec.ofChange stackSumsWrong)

/-- 'gantletlaw08.StackDepth': WHATEVER THE INPUT: true; the input reads as it did. -/
def stackDepthSpec : ChangeSpec := { name := "stackDepth", fn := fun _ => fun
  | [d] => { results := [.lit (.bool true)], args := [d] }
  | _ => none }
def stackDepthRow : OpenClaim := { program := "ytejhgoihjmlmnaa", sum := "5be2d8a4335c73f8b08caf784ee5d6038c9a0a346e6fe4f87a0bac4c5e8fd85c", func := "gantlet/gantletlaw08.StackDepth", spec := "stackDepth", apart := false }
def StackDepthSaid : Prop := stackDepthRow.holds Try.pinned (OpenSpec.ofChange stackDepthSpec)

/-- ITS FALSE NEIGHBOUR: 'it returns false'. Refute it at one input. -/
def stackDepthWrong : ChangeSpec := { name := "stackDepth", fn := fun _ => fun
  | [d] => { results := [.lit (.bool false)], args := [d] }
  | _ => none }
def StackDepthWrongFalsely : Prop := stackDepthRow.holds Try.pinned (OpenSpec.ofChange stackDepthWrong)

/-- 'gantletlaw08.StackNested': WHATEVER THE INPUT: true; the input reads as it did. -/
def stackNestedSpec : ChangeSpec := { name := "stackNested", fn := fun _ => fun
  | [d1, d2] => { results := [.lit (.bool true)], args := [d1, d2] }
  | _ => none }
def stackNestedRow : OpenClaim := { program := "ytejhgoihjmlmnaa", sum := "5be2d8a4335c73f8b08caf784ee5d6038c9a0a346e6fe4f87a0bac4c5e8fd85c", func := "gantlet/gantletlaw08.StackNested", spec := "stackNested", apart := false }
def StackNestedSaid : Prop := stackNestedRow.holds Try.pinned (OpenSpec.ofChange stackNestedSpec)

/-- ITS FALSE NEIGHBOUR: 'it returns false'. Refute it at one input. -/
def stackNestedWrong : ChangeSpec := { name := "stackNested", fn := fun _ => fun
  | [d1, d2] => { results := [.lit (.bool false)], args := [d1, d2] }
  | _ => none }
def StackNestedWrongFalsely : Prop := stackNestedRow.holds Try.pinned (OpenSpec.ofChange stackNestedWrong)

/-- 'gantletlaw08.StackPlays': WHATEVER THE INPUT: true; the input reads as it did. -/
def stackPlaysSpec : ChangeSpec := { name := "stackPlays", fn := fun _ => fun
  | [d1, d2] => { results := [.lit (.bool true)], args := [d1, d2] }
  | _ => none }
def stackPlaysRow : OpenClaim := { program := "ytejhgoihjmlmnaa", sum := "5be2d8a4335c73f8b08caf784ee5d6038c9a0a346e6fe4f87a0bac4c5e8fd85c", func := "gantlet/gantletlaw08.StackPlays", spec := "stackPlays", apart := false }
def StackPlaysSaid : Prop := stackPlaysRow.holds Try.pinned (OpenSpec.ofChange stackPlaysSpec)

/-- ITS FALSE NEIGHBOUR: 'it returns false'. Refute it at one input. -/
def stackPlaysWrong : ChangeSpec := { name := "stackPlays", fn := fun _ => fun
  | [d1, d2] => { results := [.lit (.bool false)], args := [d1, d2] }
  | _ => none }
def StackPlaysWrongFalsely : Prop := stackPlaysRow.holds Try.pinned (OpenSpec.ofChange stackPlaysWrong)

/-- 'gantletlaw08.StackCopies': WHATEVER THE INPUT: true; the input reads as it did. -/
def stackCopiesSpec : ChangeSpec := { name := "stackCopies", fn := fun _ => fun
  | [d1, d2] => { results := [.lit (.bool true)], args := [d1, d2] }
  | _ => none }
def stackCopiesRow : OpenClaim := { program := "ytejhgoihjmlmnaa", sum := "5be2d8a4335c73f8b08caf784ee5d6038c9a0a346e6fe4f87a0bac4c5e8fd85c", func := "gantlet/gantletlaw08.StackCopies", spec := "stackCopies", apart := false }
def StackCopiesSaid : Prop := stackCopiesRow.holds Try.pinned (OpenSpec.ofChange stackCopiesSpec)

/-- ITS FALSE NEIGHBOUR: 'it returns false'. Refute it at one input. -/
def stackCopiesWrong : ChangeSpec := { name := "stackCopies", fn := fun _ => fun
  | [d1, d2] => { results := [.lit (.bool false)], args := [d1, d2] }
  | _ => none }
def StackCopiesWrongFalsely : Prop := stackCopiesRow.holds Try.pinned (OpenSpec.ofChange stackCopiesWrong)

/- THE SECOND FORM. 'bulk': how many values and letters a reading holds, each counted each time it is reached (what is shared counts as often as it is met; a slice's spare places count too). A statement '..UptoSaid' is the law's where the arguments, and the package variables that the reading takes, are together of bulk at most 1048576: NARROWER than '..Said'. Prove '..Said' where nothing that the law and all that it calls make is longer than what came in: it says more and counts as full. Else prove '..UptoSaid'. A law counts once. -/
mutual
def uptoBulk {H : Type} : DataW H → Nat
  | .lit (.string bytes) => bytes.length + 1
  | .lit _ => 1
  | .nil => 1
  | .ptr d => uptoBulk d + 1
  | .slice elems spare => uptoBulkAll elems + uptoBulkAll spare + 1
  | .agg parts => uptoBulkAll parts + 1
  | .iface _ d => uptoBulk d + 1
  | .map entries => uptoBulkEntries entries + 1
  | .held _ => 1
def uptoBulkAll {H : Type} : List (DataW H) → Nat
  | [] => 0
  | d :: r => uptoBulk d + uptoBulkAll r
def uptoBulkEntries {H : Type} : List (Lit × DataW H) → Nat
  | [] => 0
  | x :: r => uptoBulkEntry x + uptoBulkEntries r
def uptoBulkEntry {H : Type} : Lit × DataW H → Nat
  | (.string bytes, d) => bytes.length + uptoBulk d + 1
  | (_, d) => uptoBulk d + 1
 end
def uptoSmall : (H : Type) → List (DataW H) → Bool := fun _ ds => decide (uptoBulkAll ds ≤ 1048576)
def OpenSpec.upto (s : _root_.Go.ChangeSpec) : _root_.Go.OpenSpec := { _root_.Go.OpenSpec.ofChange s with cond := some uptoSmall }

/-- 'gantletlaw08.StackSums', WHERE WHAT IT READS IS OF BULK AT MOST 1048576: true; the input reads as it did. -/
def stackSumsUptoRow : OpenClaim := { program := "ytejhgoihjmlmnaa", sum := "5be2d8a4335c73f8b08caf784ee5d6038c9a0a346e6fe4f87a0bac4c5e8fd85c", func := "gantlet/gantletlaw08.StackSums", spec := "stackSums", apart := false, narrowed := true }
def StackSumsUptoSaid : Prop := stackSumsUptoRow.holds Try.pinned (OpenSpec.upto stackSumsSpec)

/-- 'gantletlaw08.StackDepth', WHERE WHAT IT READS IS OF BULK AT MOST 1048576: true; the input reads as it did. -/
def stackDepthUptoRow : OpenClaim := { program := "ytejhgoihjmlmnaa", sum := "5be2d8a4335c73f8b08caf784ee5d6038c9a0a346e6fe4f87a0bac4c5e8fd85c", func := "gantlet/gantletlaw08.StackDepth", spec := "stackDepth", apart := false, narrowed := true }
def StackDepthUptoSaid : Prop := stackDepthUptoRow.holds Try.pinned (OpenSpec.upto stackDepthSpec)

/-- 'gantletlaw08.StackNested', WHERE WHAT IT READS IS OF BULK AT MOST 1048576: true; the input reads as it did. -/
def stackNestedUptoRow : OpenClaim := { program := "ytejhgoihjmlmnaa", sum := "5be2d8a4335c73f8b08caf784ee5d6038c9a0a346e6fe4f87a0bac4c5e8fd85c", func := "gantlet/gantletlaw08.StackNested", spec := "stackNested", apart := false, narrowed := true }
def StackNestedUptoSaid : Prop := stackNestedUptoRow.holds Try.pinned (OpenSpec.upto stackNestedSpec)

/-- 'gantletlaw08.StackPlays', WHERE WHAT IT READS IS OF BULK AT MOST 1048576: true; the input reads as it did. -/
def stackPlaysUptoRow : OpenClaim := { program := "ytejhgoihjmlmnaa", sum := "5be2d8a4335c73f8b08caf784ee5d6038c9a0a346e6fe4f87a0bac4c5e8fd85c", func := "gantlet/gantletlaw08.StackPlays", spec := "stackPlays", apart := false, narrowed := true }
def StackPlaysUptoSaid : Prop := stackPlaysUptoRow.holds Try.pinned (OpenSpec.upto stackPlaysSpec)

/-- 'gantletlaw08.StackCopies', WHERE WHAT IT READS IS OF BULK AT MOST 1048576: true; the input reads as it did. -/
def stackCopiesUptoRow : OpenClaim := { program := "ytejhgoihjmlmnaa", sum := "5be2d8a4335c73f8b08caf784ee5d6038c9a0a346e6fe4f87a0bac4c5e8fd85c", func := "gantlet/gantletlaw08.StackCopies", spec := "stackCopies", apart := false, narrowed := true }
def StackCopiesUptoSaid : Prop := stackCopiesUptoRow.holds Try.pinned (OpenSpec.upto stackCopiesSpec)

end Rows
end Go.Proofs.Ytejhgoihjmlmnaa
