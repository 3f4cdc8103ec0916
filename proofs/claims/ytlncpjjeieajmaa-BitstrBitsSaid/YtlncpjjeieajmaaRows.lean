/-
  No cell of these rows narrows 'for every input' (looked for: loops, veiled, ifaces, maps, wideKeys, modest, calm, conditions, laid).
  DERIVED. THE GIVEN ROWS OF THIS SEAT. 6 by the template 'for every input the law returns true; each argument reads behind the call as it read before'; 0 by the template 'total and deterministic' (their statements: YtlncpjjeieajmaaTotals.lean).
  GIVEN WITH THE SEED: the statements are not yours to turn. If you find one false, say at which input.
  Laid BY PROGRAM, IN A SANDBOX (cutbox-rows.mjs): the forced cells as the released guide's own fill.sh prints them over the translation 72528cbf8194ac8b… (all of the seat's roots in one cut). By AI agents, Wed Nov 11 2026. No macro, syntax, notation, axiom, sorry.
-/
import Derived.Test.YtlncpjjeieajmaaChecked
import GoSem.Claim
import GoSem.ClaimJoined
import GoSem.ClaimMapViews
import Derived.JoinedTies
import Derived.KernelRfl
namespace Go.Proofs.Ytlncpjjeieajmaa
/- THE CELL 'sum', in the pinned program and in every row, IS THE sha256 OF THE DUMP (.gsa) THAT YtlncpjjeieajmaaProg.lean LOADS. Nothing in Lean hashes anything: it is a label: what it is worth is what the hold of that sum in a sandbox is worth. -/
noncomputable def Try.pinned : Pinned := { name := "ytlncpjjeieajmaa", sum := "72528cbf8194ac8b2c1eae999e4dae79221ff3a631dbe8b7268a6947f46950f7", checked := Try.checked }
namespace Rows
def none {H : Type} : Left H := { results := [], args := [] }

/-- 'gantletlaw12.BitstrChecks': WHATEVER THE INPUT: true; the input reads as it did. -/
def bitstrChecksSpec : ChangeSpec := { name := "bitstrChecks", fn := fun _ => fun
  | [d1, d2] => { results := [.lit (.bool true)], args := [d1, d2] }
  | _ => none }
def bitstrChecksRow : OpenClaim := { program := "ytlncpjjeieajmaa", sum := "72528cbf8194ac8b2c1eae999e4dae79221ff3a631dbe8b7268a6947f46950f7", func := "gantlet/gantletlaw12.BitstrChecks", spec := "bitstrChecks", apart := false }
def BitstrChecksSaid : Prop := bitstrChecksRow.holds Try.pinned (OpenSpec.ofChange bitstrChecksSpec)

/-- ITS FALSE NEIGHBOUR: 'it returns false'. Refute it at one input. -/
def bitstrChecksWrong : ChangeSpec := { name := "bitstrChecks", fn := fun _ => fun
  | [d1, d2] => { results := [.lit (.bool false)], args := [d1, d2] }
  | _ => none }
def BitstrChecksWrongFalsely : Prop := bitstrChecksRow.holds Try.pinned (OpenSpec.ofChange bitstrChecksWrong)

/-- 'gantletlaw12.BitstrPuts': WHATEVER THE INPUT: true; the input reads as it did. -/
def bitstrPutsSpec : ChangeSpec := { name := "bitstrPuts", fn := fun _ => fun
  | [d1, d2, d3] => { results := [.lit (.bool true)], args := [d1, d2, d3] }
  | _ => none }
def bitstrPutsRow : OpenClaim := { program := "ytlncpjjeieajmaa", sum := "72528cbf8194ac8b2c1eae999e4dae79221ff3a631dbe8b7268a6947f46950f7", func := "gantlet/gantletlaw12.BitstrPuts", spec := "bitstrPuts", apart := false }
def BitstrPutsSaid : Prop := bitstrPutsRow.holds Try.pinned (OpenSpec.ofChange bitstrPutsSpec)

/-- ITS FALSE NEIGHBOUR: 'it returns false'. Refute it at one input. -/
def bitstrPutsWrong : ChangeSpec := { name := "bitstrPuts", fn := fun _ => fun
  | [d1, d2, d3] => { results := [.lit (.bool false)], args := [d1, d2, d3] }
  | _ => none }
def BitstrPutsWrongFalsely : Prop := bitstrPutsRow.holds Try.pinned (OpenSpec.ofChange bitstrPutsWrong)

/-- 'gantletlaw12.BitstrBits': WHATEVER THE INPUT: true; the input reads as it did. -/
def bitstrBitsSpec : ChangeSpec := { name := "bitstrBits", fn := fun _ => fun
  | [d1, d2] => { results := [.lit (.bool true)], args := [d1, d2] }
  | _ => none }
def bitstrBitsRow : OpenClaim := { program := "ytlncpjjeieajmaa", sum := "72528cbf8194ac8b2c1eae999e4dae79221ff3a631dbe8b7268a6947f46950f7", func := "gantlet/gantletlaw12.BitstrBits", spec := "bitstrBits", apart := false }
def BitstrBitsSaid : Prop := bitstrBitsRow.holds Try.pinned (OpenSpec.ofChange bitstrBitsSpec)

/-- ITS FALSE NEIGHBOUR: 'it returns false'. Refute it at one input. -/
def bitstrBitsWrong : ChangeSpec := { name := "bitstrBits", fn := fun _ => fun
  | [d1, d2] => { results := [.lit (.bool false)], args := [d1, d2] }
  | _ => none }
def BitstrBitsWrongFalsely : Prop := bitstrBitsRow.holds Try.pinned (OpenSpec.ofChange bitstrBitsWrong)

/-- 'gantletlaw12.BitstrBack': WHATEVER THE INPUT: true; the input reads as it did. -/
def bitstrBackSpec : ChangeSpec := { name := "bitstrBack", fn := fun _ => fun
  | [d1, d2] => { results := [.lit (.bool true)], args := [d1, d2] }
  | _ => none }
def bitstrBackRow : OpenClaim := { program := "ytlncpjjeieajmaa", sum := "72528cbf8194ac8b2c1eae999e4dae79221ff3a631dbe8b7268a6947f46950f7", func := "gantlet/gantletlaw12.BitstrBack", spec := "bitstrBack", apart := false }
def BitstrBackSaid : Prop := bitstrBackRow.holds Try.pinned (OpenSpec.ofChange bitstrBackSpec)

/-- ITS FALSE NEIGHBOUR: 'it returns false'. Refute it at one input. -/
def bitstrBackWrong : ChangeSpec := { name := "bitstrBack", fn := fun _ => fun
  | [d1, d2] => { results := [.lit (.bool false)], args := [d1, d2] }
  | _ => none }
def BitstrBackWrongFalsely : Prop := bitstrBackRow.holds Try.pinned (OpenSpec.ofChange bitstrBackWrong)

/-- 'gantletlaw12.BitstrOne': WHATEVER THE INPUT: true; the input reads as it did. -/
def bitstrOneSpec : ChangeSpec := { name := "bitstrOne", fn := fun _ => fun
  | [d] => { results := [.lit (.bool true)], args := [d] }
  | _ => none }
def bitstrOneRow : OpenClaim := { program := "ytlncpjjeieajmaa", sum := "72528cbf8194ac8b2c1eae999e4dae79221ff3a631dbe8b7268a6947f46950f7", func := "gantlet/gantletlaw12.BitstrOne", spec := "bitstrOne", apart := false }
def BitstrOneSaid : Prop := bitstrOneRow.holds Try.pinned (OpenSpec.ofChange bitstrOneSpec)

/-- ITS FALSE NEIGHBOUR: 'it returns false'. Refute it at one input. -/
def bitstrOneWrong : ChangeSpec := { name := "bitstrOne", fn := fun _ => fun
  | [d] => { results := [.lit (.bool false)], args := [d] }
  | _ => none }
def BitstrOneWrongFalsely : Prop := bitstrOneRow.holds Try.pinned (OpenSpec.ofChange bitstrOneWrong)

/-- 'gantletlaw12.BitstrWhole': WHATEVER THE INPUT: true; the input reads as it did. -/
def bitstrWholeSpec : ChangeSpec := { name := "bitstrWhole", fn := fun _ => fun
  | [d1, d2] => { results := [.lit (.bool true)], args := [d1, d2] }
  | _ => none }
def bitstrWholeRow : OpenClaim := { program := "ytlncpjjeieajmaa", sum := "72528cbf8194ac8b2c1eae999e4dae79221ff3a631dbe8b7268a6947f46950f7", func := "gantlet/gantletlaw12.BitstrWhole", spec := "bitstrWhole", apart := false }
def BitstrWholeSaid : Prop := bitstrWholeRow.holds Try.pinned (OpenSpec.ofChange bitstrWholeSpec)

/-- ITS FALSE NEIGHBOUR: 'it returns false'. Refute it at one input. -/
def bitstrWholeWrong : ChangeSpec := { name := "bitstrWhole", fn := fun _ => fun
  | [d1, d2] => { results := [.lit (.bool false)], args := [d1, d2] }
  | _ => none }
def BitstrWholeWrongFalsely : Prop := bitstrWholeRow.holds Try.pinned (OpenSpec.ofChange bitstrWholeWrong)

/- THE SECOND FORM. 'bulk': how many values and letters a reading holds, each counted each time it is reached (what is shared counts as often as it is met; a slice's spare places count too). A statement '..UptoSaid' is the law's where the arguments, and the package variables that the reading takes, are together of bulk at most 1048576: NARROWER than '..Said'. Prove '..Said' where nothing that the law and all that it calls make is longer than what came in: it says more and counts as full. Else prove '..UptoSaid'. A law counts once. -/
mutual
def uptoBulk {H : Type} : DataW H → Nat
  | .lit (.string bytes) => bytes.length + 1
  | .lit _ => 1
  | .nil => 1
  | .ptr d => uptoBulk d + 1
  | .slice elems spare => uptoBulkAll elems + uptoBulkAll spare + 1
  | .agg parts => uptoBulkAll parts + 1
  | .iface _ d => uptoBulk d + 1
  | .map entries => uptoBulkEntries entries + 1
  | .held _ => 1
def uptoBulkAll {H : Type} : List (DataW H) → Nat
  | [] => 0
  | d :: r => uptoBulk d + uptoBulkAll r
def uptoBulkEntries {H : Type} : List (Lit × DataW H) → Nat
  | [] => 0
  | x :: r => uptoBulkEntry x + uptoBulkEntries r
def uptoBulkEntry {H : Type} : Lit × DataW H → Nat
  | (.string bytes, d) => bytes.length + uptoBulk d + 1
  | (_, d) => uptoBulk d + 1
 end
def uptoSmall : (H : Type) → List (DataW H) → Bool := fun _ ds => decide (uptoBulkAll ds ≤ 1048576)
def OpenSpec.upto (s : _root_.Go.ChangeSpec) : _root_.Go.OpenSpec := { _root_.Go.OpenSpec.ofChange s with cond := some uptoSmall }

/-- 'gantletlaw12.BitstrChecks', WHERE WHAT IT READS IS OF BULK AT MOST 1048576: true; the input reads as it did. -/
def bitstrChecksUptoRow : OpenClaim := { program := "ytlncpjjeieajmaa", sum := "72528cbf8194ac8b2c1eae999e4dae79221ff3a631dbe8b7268a6947f46950f7", func := "gantlet/gantletlaw12.BitstrChecks", spec := "bitstrChecks", apart := false, narrowed := true }
def BitstrChecksUptoSaid : Prop := bitstrChecksUptoRow.holds Try.pinned (OpenSpec.upto bitstrChecksSpec)

/-- 'gantletlaw12.BitstrPuts', WHERE WHAT IT READS IS OF BULK AT MOST 1048576: true; the input reads as it did. -/
def bitstrPutsUptoRow : OpenClaim := { program := "ytlncpjjeieajmaa", sum := "72528cbf8194ac8b2c1eae999e4dae79221ff3a631dbe8b7268a6947f46950f7", func := "gantlet/gantletlaw12.BitstrPuts", spec := "bitstrPuts", apart := false, narrowed := true }
def BitstrPutsUptoSaid : Prop := bitstrPutsUptoRow.holds Try.pinned (OpenSpec.upto bitstrPutsSpec)

/-- 'gantletlaw12.BitstrBits', WHERE WHAT IT READS IS OF BULK AT MOST 1048576: true; the input reads as it did. -/
def bitstrBitsUptoRow : OpenClaim := { program := "ytlncpjjeieajmaa", sum := "72528cbf8194ac8b2c1eae999e4dae79221ff3a631dbe8b7268a6947f46950f7", func := "gantlet/gantletlaw12.BitstrBits", spec := "bitstrBits", apart := false, narrowed := true }
def BitstrBitsUptoSaid : Prop := bitstrBitsUptoRow.holds Try.pinned (OpenSpec.upto bitstrBitsSpec)

/-- 'gantletlaw12.BitstrBack', WHERE WHAT IT READS IS OF BULK AT MOST 1048576: true; the input reads as it did. -/
def bitstrBackUptoRow : OpenClaim := { program := "ytlncpjjeieajmaa", sum := "72528cbf8194ac8b2c1eae999e4dae79221ff3a631dbe8b7268a6947f46950f7", func := "gantlet/gantletlaw12.BitstrBack", spec := "bitstrBack", apart := false, narrowed := true }
def BitstrBackUptoSaid : Prop := bitstrBackUptoRow.holds Try.pinned (OpenSpec.upto bitstrBackSpec)

/-- 'gantletlaw12.BitstrOne', WHERE WHAT IT READS IS OF BULK AT MOST 1048576: true; the input reads as it did. -/
def bitstrOneUptoRow : OpenClaim := { program := "ytlncpjjeieajmaa", sum := "72528cbf8194ac8b2c1eae999e4dae79221ff3a631dbe8b7268a6947f46950f7", func := "gantlet/gantletlaw12.BitstrOne", spec := "bitstrOne", apart := false, narrowed := true }
def BitstrOneUptoSaid : Prop := bitstrOneUptoRow.holds Try.pinned (OpenSpec.upto bitstrOneSpec)

/-- 'gantletlaw12.BitstrWhole', WHERE WHAT IT READS IS OF BULK AT MOST 1048576: true; the input reads as it did. -/
def bitstrWholeUptoRow : OpenClaim := { program := "ytlncpjjeieajmaa", sum := "72528cbf8194ac8b2c1eae999e4dae79221ff3a631dbe8b7268a6947f46950f7", func := "gantlet/gantletlaw12.BitstrWhole", spec := "bitstrWhole", apart := false, narrowed := true }
def BitstrWholeUptoSaid : Prop := bitstrWholeUptoRow.holds Try.pinned (OpenSpec.upto bitstrWholeSpec)

end Rows
end Go.Proofs.Ytlncpjjeieajmaa
