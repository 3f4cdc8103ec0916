/-
  No cell of these rows narrows 'for every input' (looked for: loops, veiled, ifaces, maps, wideKeys, modest, calm, conditions, laid).
  DERIVED. THE GIVEN ROWS OF THIS SEAT. 6 by the template 'for every input the law returns true; each argument reads behind the call as it read before'; 0 by the template 'total and deterministic' (their statements: YtcomechollegfaaTotals.lean).
  GIVEN WITH THE SEED: the statements are not yours to turn. If you find one false, say at which input.
  Laid BY PROGRAM, IN A SANDBOX (cutbox-rows.mjs): the forced cells as the released guide's own fill.sh prints them over the translation d32d9ee1acbd67b4… (all of the seat's roots in one cut). By AI agents, Wed Nov 11 2026. No macro, syntax, notation, axiom, sorry.
-/
import Derived.Test.YtcomechollegfaaChecked
import GoSem.Claim
import GoSem.ClaimJoined
import GoSem.ClaimMapViews
import Derived.JoinedTies
import Derived.KernelRfl
namespace Go.Proofs.Ytcomechollegfaa
/- THE CELL 'sum', in the pinned program and in every row, IS THE sha256 OF THE DUMP (.gsa) THAT YtcomechollegfaaProg.lean LOADS. Nothing in Lean hashes anything: it is a label: what it is worth is what the hold of that sum in a sandbox is worth. -/
noncomputable def Try.pinned : Pinned := { name := "ytcomechollegfaa", sum := "d32d9ee1acbd67b40f7ca3b3fa318e8ebd179971440385ffe309f6151f38b7d7", checked := Try.checked }
namespace Rows
def none {H : Type} : Left H := { results := [], args := [] }

/-- 'gantletlaw06.LengthPuts': WHATEVER THE INPUT: true; the input reads as it did. -/
def lengthPutsSpec : ChangeSpec := { name := "lengthPuts", fn := fun _ => fun
  | [d] => { results := [.lit (.bool true)], args := [d] }
  | _ => none }
def lengthPutsRow : OpenClaim := { program := "ytcomechollegfaa", sum := "d32d9ee1acbd67b40f7ca3b3fa318e8ebd179971440385ffe309f6151f38b7d7", func := "gantlet/gantletlaw06.LengthPuts", spec := "lengthPuts", apart := false }
def LengthPutsSaid : Prop := lengthPutsRow.holds Try.pinned (OpenSpec.ofChange lengthPutsSpec)

/-- ITS FALSE NEIGHBOUR: 'it returns false'. Refute it at one input. -/
def lengthPutsWrong : ChangeSpec := { name := "lengthPuts", fn := fun _ => fun
  | [d] => { results := [.lit (.bool false)], args := [d] }
  | _ => none }
def LengthPutsWrongFalsely : Prop := lengthPutsRow.holds Try.pinned (OpenSpec.ofChange lengthPutsWrong)

/-- 'gantletlaw06.LengthGets': WHATEVER THE INPUT: true; the input reads as it did. -/
def lengthGetsSpec : ChangeSpec := { name := "lengthGets", fn := fun _ => fun
  | [d1, d2] => { results := [.lit (.bool true)], args := [d1, d2] }
  | _ => none }
def lengthGetsRow : OpenClaim := { program := "ytcomechollegfaa", sum := "d32d9ee1acbd67b40f7ca3b3fa318e8ebd179971440385ffe309f6151f38b7d7", func := "gantlet/gantletlaw06.LengthGets", spec := "lengthGets", apart := false }
def LengthGetsSaid : Prop := lengthGetsRow.holds Try.pinned (OpenSpec.ofChange lengthGetsSpec)

/-- ITS FALSE NEIGHBOUR: 'it returns false'. Refute it at one input. -/
def lengthGetsWrong : ChangeSpec := { name := "lengthGets", fn := fun _ => fun
  | [d1, d2] => { results := [.lit (.bool false)], args := [d1, d2] }
  | _ => none }
def LengthGetsWrongFalsely : Prop := lengthGetsRow.holds Try.pinned (OpenSpec.ofChange lengthGetsWrong)

/-- 'gantletlaw06.LengthBack': WHATEVER THE INPUT: true; the input reads as it did. -/
def lengthBackSpec : ChangeSpec := { name := "lengthBack", fn := fun _ => fun
  | [d1, d2, d3] => { results := [.lit (.bool true)], args := [d1, d2, d3] }
  | _ => none }
def lengthBackRow : OpenClaim := { program := "ytcomechollegfaa", sum := "d32d9ee1acbd67b40f7ca3b3fa318e8ebd179971440385ffe309f6151f38b7d7", func := "gantlet/gantletlaw06.LengthBack", spec := "lengthBack", apart := false }
def LengthBackSaid : Prop := lengthBackRow.holds Try.pinned (OpenSpec.ofChange lengthBackSpec)

/-- ITS FALSE NEIGHBOUR: 'it returns false'. Refute it at one input. -/
def lengthBackWrong : ChangeSpec := { name := "lengthBack", fn := fun _ => fun
  | [d1, d2, d3] => { results := [.lit (.bool false)], args := [d1, d2, d3] }
  | _ => none }
def LengthBackWrongFalsely : Prop := lengthBackRow.holds Try.pinned (OpenSpec.ofChange lengthBackWrong)

/-- 'gantletlaw06.LengthOne': WHATEVER THE INPUT: true; the input reads as it did. -/
def lengthOneSpec : ChangeSpec := { name := "lengthOne", fn := fun _ => fun
  | [d] => { results := [.lit (.bool true)], args := [d] }
  | _ => none }
def lengthOneRow : OpenClaim := { program := "ytcomechollegfaa", sum := "d32d9ee1acbd67b40f7ca3b3fa318e8ebd179971440385ffe309f6151f38b7d7", func := "gantlet/gantletlaw06.LengthOne", spec := "lengthOne", apart := false }
def LengthOneSaid : Prop := lengthOneRow.holds Try.pinned (OpenSpec.ofChange lengthOneSpec)

/-- ITS FALSE NEIGHBOUR: 'it returns false'. Refute it at one input. -/
def lengthOneWrong : ChangeSpec := { name := "lengthOne", fn := fun _ => fun
  | [d] => { results := [.lit (.bool false)], args := [d] }
  | _ => none }
def LengthOneWrongFalsely : Prop := lengthOneRow.holds Try.pinned (OpenSpec.ofChange lengthOneWrong)

/-- 'gantletlaw06.LengthRise': WHATEVER THE INPUT: true; the input reads as it did. -/
def lengthRiseSpec : ChangeSpec := { name := "lengthRise", fn := fun _ => fun
  | [d1, d2] => { results := [.lit (.bool true)], args := [d1, d2] }
  | _ => none }
def lengthRiseRow : OpenClaim := { program := "ytcomechollegfaa", sum := "d32d9ee1acbd67b40f7ca3b3fa318e8ebd179971440385ffe309f6151f38b7d7", func := "gantlet/gantletlaw06.LengthRise", spec := "lengthRise", apart := false }
def LengthRiseSaid : Prop := lengthRiseRow.holds Try.pinned (OpenSpec.ofChange lengthRiseSpec)

/-- ITS FALSE NEIGHBOUR: 'it returns false'. Refute it at one input. -/
def lengthRiseWrong : ChangeSpec := { name := "lengthRise", fn := fun _ => fun
  | [d1, d2] => { results := [.lit (.bool false)], args := [d1, d2] }
  | _ => none }
def LengthRiseWrongFalsely : Prop := lengthRiseRow.holds Try.pinned (OpenSpec.ofChange lengthRiseWrong)

/-- 'gantletlaw06.LengthSizes': WHATEVER THE INPUT: true; the input reads as it did. -/
def lengthSizesSpec : ChangeSpec := { name := "lengthSizes", fn := fun _ => fun
  | [d] => { results := [.lit (.bool true)], args := [d] }
  | _ => none }
def lengthSizesRow : OpenClaim := { program := "ytcomechollegfaa", sum := "d32d9ee1acbd67b40f7ca3b3fa318e8ebd179971440385ffe309f6151f38b7d7", func := "gantlet/gantletlaw06.LengthSizes", spec := "lengthSizes", apart := false }
def LengthSizesSaid : Prop := lengthSizesRow.holds Try.pinned (OpenSpec.ofChange lengthSizesSpec)

/-- ITS FALSE NEIGHBOUR: 'it returns false'. Refute it at one input. -/
def lengthSizesWrong : ChangeSpec := { name := "lengthSizes", fn := fun _ => fun
  | [d] => { results := [.lit (.bool false)], args := [d] }
  | _ => none }
def LengthSizesWrongFalsely : Prop := lengthSizesRow.holds Try.pinned (OpenSpec.ofChange lengthSizesWrong)

/- THE SECOND FORM. 'bulk': how many values and letters a reading holds, each counted each time it is reached (what is shared counts as often as it is met; a slice's spare places count too). A statement '..UptoSaid' is the law's where the arguments, and the package variables that the reading takes, are together of bulk at most 1048576: NARROWER than '..Said'. Prove '..Said' where nothing that the law and all that it calls make is longer than what came in: it says more and counts as full. Else prove '..UptoSaid'. A law counts once. -/
mutual
def uptoBulk {H : Type} : DataW H → Nat
  | .lit (.string bytes) => bytes.length + 1
  | .lit _ => 1
  | .nil => 1
  | .ptr d => uptoBulk d + 1
  | .slice elems spare => uptoBulkAll elems + uptoBulkAll spare + 1
  | .agg parts => uptoBulkAll parts + 1
  | .iface _ d => uptoBulk d + 1
  | .map entries => uptoBulkEntries entries + 1
  | .held _ => 1
def uptoBulkAll {H : Type} : List (DataW H) → Nat
  | [] => 0
  | d :: r => uptoBulk d + uptoBulkAll r
def uptoBulkEntries {H : Type} : List (Lit × DataW H) → Nat
  | [] => 0
  | x :: r => uptoBulkEntry x + uptoBulkEntries r
def uptoBulkEntry {H : Type} : Lit × DataW H → Nat
  | (.string bytes, d) => bytes.length + uptoBulk d + 1
  | (_, d) => uptoBulk d + 1
 end
def uptoSmall : (H : Type) → List (DataW H) → Bool := fun _ ds => decide (uptoBulkAll ds ≤ 1048576)
def OpenSpec.upto (s : _root_.Go.ChangeSpec) : _root_.Go.OpenSpec := { _root_.Go.OpenSpec.ofChange s with cond := some uptoSmall }

/-- 'gantletlaw06.LengthPuts', WHERE WHAT IT READS IS OF BULK AT MOST 1048576: true; the input reads as it did. -/
def lengthPutsUptoRow : OpenClaim := { program := "ytcomechollegfaa", sum := "d32d9ee1acbd67b40f7ca3b3fa318e8ebd179971440385ffe309f6151f38b7d7", func := "gantlet/gantletlaw06.LengthPuts", spec := "lengthPuts", apart := false, narrowed := true }
def LengthPutsUptoSaid : Prop := lengthPutsUptoRow.holds Try.pinned (OpenSpec.upto lengthPutsSpec)

/-- 'gantletlaw06.LengthGets', WHERE WHAT IT READS IS OF BULK AT MOST 1048576: true; the input reads as it did. -/
def lengthGetsUptoRow : OpenClaim := { program := "ytcomechollegfaa", sum := "d32d9ee1acbd67b40f7ca3b3fa318e8ebd179971440385ffe309f6151f38b7d7", func := "gantlet/gantletlaw06.LengthGets", spec := "lengthGets", apart := false, narrowed := true }
def LengthGetsUptoSaid : Prop := lengthGetsUptoRow.holds Try.pinned (OpenSpec.upto lengthGetsSpec)

/-- 'gantletlaw06.LengthBack', WHERE WHAT IT READS IS OF BULK AT MOST 1048576: true; the input reads as it did. -/
def lengthBackUptoRow : OpenClaim := { program := "ytcomechollegfaa", sum := "d32d9ee1acbd67b40f7ca3b3fa318e8ebd179971440385ffe309f6151f38b7d7", func := "gantlet/gantletlaw06.LengthBack", spec := "lengthBack", apart := false, narrowed := true }
def LengthBackUptoSaid : Prop := lengthBackUptoRow.holds Try.pinned (OpenSpec.upto lengthBackSpec)

/-- 'gantletlaw06.LengthOne', WHERE WHAT IT READS IS OF BULK AT MOST 1048576: true; the input reads as it did. -/
def lengthOneUptoRow : OpenClaim := { program := "ytcomechollegfaa", sum := "d32d9ee1acbd67b40f7ca3b3fa318e8ebd179971440385ffe309f6151f38b7d7", func := "gantlet/gantletlaw06.LengthOne", spec := "lengthOne", apart := false, narrowed := true }
def LengthOneUptoSaid : Prop := lengthOneUptoRow.holds Try.pinned (OpenSpec.upto lengthOneSpec)

/-- 'gantletlaw06.LengthRise', WHERE WHAT IT READS IS OF BULK AT MOST 1048576: true; the input reads as it did. -/
def lengthRiseUptoRow : OpenClaim := { program := "ytcomechollegfaa", sum := "d32d9ee1acbd67b40f7ca3b3fa318e8ebd179971440385ffe309f6151f38b7d7", func := "gantlet/gantletlaw06.LengthRise", spec := "lengthRise", apart := false, narrowed := true }
def LengthRiseUptoSaid : Prop := lengthRiseUptoRow.holds Try.pinned (OpenSpec.upto lengthRiseSpec)

/-- 'gantletlaw06.LengthSizes', WHERE WHAT IT READS IS OF BULK AT MOST 1048576: true; the input reads as it did. -/
def lengthSizesUptoRow : OpenClaim := { program := "ytcomechollegfaa", sum := "d32d9ee1acbd67b40f7ca3b3fa318e8ebd179971440385ffe309f6151f38b7d7", func := "gantlet/gantletlaw06.LengthSizes", spec := "lengthSizes", apart := false, narrowed := true }
def LengthSizesUptoSaid : Prop := lengthSizesUptoRow.holds Try.pinned (OpenSpec.upto lengthSizesSpec)

end Rows
end Go.Proofs.Ytcomechollegfaa
