/-
  No cell of these rows narrows 'for every input' (looked for: loops, veiled, ifaces, maps, wideKeys, modest, calm, conditions, laid).
  DERIVED. THE GIVEN ROWS OF THIS SEAT. 6 by the template 'for every input the law returns true; each argument reads behind the call as it read before'; 0 by the template 'total and deterministic' (their statements: YtgloehelfdmmaaaTotals.lean).
  GIVEN WITH THE SEED: the statements are not yours to turn. If you find one false, say at which input.
  Laid BY PROGRAM, IN A SANDBOX (cutbox-rows.mjs): the forced cells as the released guide's own fill.sh prints them over the translation 541611151c4a3f98… (all of the seat's roots in one cut). By AI agents, Wed Nov 11 2026. No macro, syntax, notation, axiom, sorry.
-/
import Derived.Test.YtgloehelfdmmaaaChecked
import GoSem.Claim
import GoSem.ClaimJoined
import GoSem.ClaimMapViews
import Derived.JoinedTies
import Derived.KernelRfl
namespace Go.Proofs.Ytgloehelfdmmaaa
/- THE CELL 'sum', in the pinned program and in every row, IS THE sha256 OF THE DUMP (.gsa) THAT YtgloehelfdmmaaaProg.lean LOADS. Nothing in Lean hashes anything: it is a label: what it is worth is what the hold of that sum in a sandbox is worth. -/
noncomputable def Try.pinned : Pinned := { name := "ytgloehelfdmmaaa", sum := "541611151c4a3f983852cf8766f53e5741dc6f5d0188a30a9fe1fcdf3ab9217e", checked := Try.checked }
namespace Rows
def none {H : Type} : Left H := { results := [], args := [] }

/-- 'gantletlaw11.OidChecks': WHATEVER THE INPUT: true; the input reads as it did. -/
def oidChecksSpec : ChangeSpec := { name := "oidChecks", fn := fun _ => fun
  | [d1, d2] => { results := [.lit (.bool true)], args := [d1, d2] }
  | _ => none }
def oidChecksRow : OpenClaim := { program := "ytgloehelfdmmaaa", sum := "541611151c4a3f983852cf8766f53e5741dc6f5d0188a30a9fe1fcdf3ab9217e", func := "gantlet/gantletlaw11.OidChecks", spec := "oidChecks", apart := false }
def OidChecksSaid : Prop := oidChecksRow.holds Try.pinned (OpenSpec.ofChange oidChecksSpec)

/-- ITS FALSE NEIGHBOUR: 'it returns false'. Refute it at one input. -/
def oidChecksWrong : ChangeSpec := { name := "oidChecks", fn := fun _ => fun
  | [d1, d2] => { results := [.lit (.bool false)], args := [d1, d2] }
  | _ => none }
def OidChecksWrongFalsely : Prop := oidChecksRow.holds Try.pinned (OpenSpec.ofChange oidChecksWrong)

/-- 'gantletlaw11.OidPuts': WHATEVER THE INPUT: true; the input reads as it did. -/
def oidPutsSpec : ChangeSpec := { name := "oidPuts", fn := fun _ => fun
  | [d1, d2] => { results := [.lit (.bool true)], args := [d1, d2] }
  | _ => none }
def oidPutsRow : OpenClaim := { program := "ytgloehelfdmmaaa", sum := "541611151c4a3f983852cf8766f53e5741dc6f5d0188a30a9fe1fcdf3ab9217e", func := "gantlet/gantletlaw11.OidPuts", spec := "oidPuts", apart := false }
def OidPutsSaid : Prop := oidPutsRow.holds Try.pinned (OpenSpec.ofChange oidPutsSpec)

/-- ITS FALSE NEIGHBOUR: 'it returns false'. Refute it at one input. -/
def oidPutsWrong : ChangeSpec := { name := "oidPuts", fn := fun _ => fun
  | [d1, d2] => { results := [.lit (.bool false)], args := [d1, d2] }
  | _ => none }
def OidPutsWrongFalsely : Prop := oidPutsRow.holds Try.pinned (OpenSpec.ofChange oidPutsWrong)

/-- 'gantletlaw11.OidBack': WHATEVER THE INPUT: true; the input reads as it did. -/
def oidBackSpec : ChangeSpec := { name := "oidBack", fn := fun _ => fun
  | [d] => { results := [.lit (.bool true)], args := [d] }
  | _ => none }
def oidBackRow : OpenClaim := { program := "ytgloehelfdmmaaa", sum := "541611151c4a3f983852cf8766f53e5741dc6f5d0188a30a9fe1fcdf3ab9217e", func := "gantlet/gantletlaw11.OidBack", spec := "oidBack", apart := false }
def OidBackSaid : Prop := oidBackRow.holds Try.pinned (OpenSpec.ofChange oidBackSpec)

/-- ITS FALSE NEIGHBOUR: 'it returns false'. Refute it at one input. -/
def oidBackWrong : ChangeSpec := { name := "oidBack", fn := fun _ => fun
  | [d] => { results := [.lit (.bool false)], args := [d] }
  | _ => none }
def OidBackWrongFalsely : Prop := oidBackRow.holds Try.pinned (OpenSpec.ofChange oidBackWrong)

/-- 'gantletlaw11.OidOne': WHATEVER THE INPUT: true; the input reads as it did. -/
def oidOneSpec : ChangeSpec := { name := "oidOne", fn := fun _ => fun
  | [d] => { results := [.lit (.bool true)], args := [d] }
  | _ => none }
def oidOneRow : OpenClaim := { program := "ytgloehelfdmmaaa", sum := "541611151c4a3f983852cf8766f53e5741dc6f5d0188a30a9fe1fcdf3ab9217e", func := "gantlet/gantletlaw11.OidOne", spec := "oidOne", apart := false }
def OidOneSaid : Prop := oidOneRow.holds Try.pinned (OpenSpec.ofChange oidOneSpec)

/-- ITS FALSE NEIGHBOUR: 'it returns false'. Refute it at one input. -/
def oidOneWrong : ChangeSpec := { name := "oidOne", fn := fun _ => fun
  | [d] => { results := [.lit (.bool false)], args := [d] }
  | _ => none }
def OidOneWrongFalsely : Prop := oidOneRow.holds Try.pinned (OpenSpec.ofChange oidOneWrong)

/-- 'gantletlaw11.OidParts': WHATEVER THE INPUT: true; the input reads as it did. -/
def oidPartsSpec : ChangeSpec := { name := "oidParts", fn := fun _ => fun
  | [d1, d2] => { results := [.lit (.bool true)], args := [d1, d2] }
  | _ => none }
def oidPartsRow : OpenClaim := { program := "ytgloehelfdmmaaa", sum := "541611151c4a3f983852cf8766f53e5741dc6f5d0188a30a9fe1fcdf3ab9217e", func := "gantlet/gantletlaw11.OidParts", spec := "oidParts", apart := false }
def OidPartsSaid : Prop := oidPartsRow.holds Try.pinned (OpenSpec.ofChange oidPartsSpec)

/-- ITS FALSE NEIGHBOUR: 'it returns false'. Refute it at one input. -/
def oidPartsWrong : ChangeSpec := { name := "oidParts", fn := fun _ => fun
  | [d1, d2] => { results := [.lit (.bool false)], args := [d1, d2] }
  | _ => none }
def OidPartsWrongFalsely : Prop := oidPartsRow.holds Try.pinned (OpenSpec.ofChange oidPartsWrong)

/-- 'gantletlaw11.OidFront': WHATEVER THE INPUT: true; the input reads as it did. -/
def oidFrontSpec : ChangeSpec := { name := "oidFront", fn := fun _ => fun
  | [d1, d2] => { results := [.lit (.bool true)], args := [d1, d2] }
  | _ => none }
def oidFrontRow : OpenClaim := { program := "ytgloehelfdmmaaa", sum := "541611151c4a3f983852cf8766f53e5741dc6f5d0188a30a9fe1fcdf3ab9217e", func := "gantlet/gantletlaw11.OidFront", spec := "oidFront", apart := false }
def OidFrontSaid : Prop := oidFrontRow.holds Try.pinned (OpenSpec.ofChange oidFrontSpec)

/-- ITS FALSE NEIGHBOUR: 'it returns false'. Refute it at one input. -/
def oidFrontWrong : ChangeSpec := { name := "oidFront", fn := fun _ => fun
  | [d1, d2] => { results := [.lit (.bool false)], args := [d1, d2] }
  | _ => none }
def OidFrontWrongFalsely : Prop := oidFrontRow.holds Try.pinned (OpenSpec.ofChange oidFrontWrong)

/- THE SECOND FORM. 'bulk': how many values and letters a reading holds, each counted each time it is reached (what is shared counts as often as it is met; a slice's spare places count too). A statement '..UptoSaid' is the law's where the arguments, and the package variables that the reading takes, are together of bulk at most 1048576: NARROWER than '..Said'. Prove '..Said' where nothing that the law and all that it calls make is longer than what came in: it says more and counts as full. Else prove '..UptoSaid'. A law counts once. -/
mutual
def uptoBulk {H : Type} : DataW H → Nat
  | .lit (.string bytes) => bytes.length + 1
  | .lit _ => 1
  | .nil => 1
  | .ptr d => uptoBulk d + 1
  | .slice elems spare => uptoBulkAll elems + uptoBulkAll spare + 1
  | .agg parts => uptoBulkAll parts + 1
  | .iface _ d => uptoBulk d + 1
  | .map entries => uptoBulkEntries entries + 1
  | .held _ => 1
def uptoBulkAll {H : Type} : List (DataW H) → Nat
  | [] => 0
  | d :: r => uptoBulk d + uptoBulkAll r
def uptoBulkEntries {H : Type} : List (Lit × DataW H) → Nat
  | [] => 0
  | x :: r => uptoBulkEntry x + uptoBulkEntries r
def uptoBulkEntry {H : Type} : Lit × DataW H → Nat
  | (.string bytes, d) => bytes.length + uptoBulk d + 1
  | (_, d) => uptoBulk d + 1
 end
def uptoSmall : (H : Type) → List (DataW H) → Bool := fun _ ds => decide (uptoBulkAll ds ≤ 1048576)
def OpenSpec.upto (s : _root_.Go.ChangeSpec) : _root_.Go.OpenSpec := { _root_.Go.OpenSpec.ofChange s with cond := some uptoSmall }

/-- 'gantletlaw11.OidChecks', WHERE WHAT IT READS IS OF BULK AT MOST 1048576: true; the input reads as it did. -/
def oidChecksUptoRow : OpenClaim := { program := "ytgloehelfdmmaaa", sum := "541611151c4a3f983852cf8766f53e5741dc6f5d0188a30a9fe1fcdf3ab9217e", func := "gantlet/gantletlaw11.OidChecks", spec := "oidChecks", apart := false, narrowed := true }
def OidChecksUptoSaid : Prop := oidChecksUptoRow.holds Try.pinned (OpenSpec.upto oidChecksSpec)

/-- 'gantletlaw11.OidPuts', WHERE WHAT IT READS IS OF BULK AT MOST 1048576: true; the input reads as it did. -/
def oidPutsUptoRow : OpenClaim := { program := "ytgloehelfdmmaaa", sum := "541611151c4a3f983852cf8766f53e5741dc6f5d0188a30a9fe1fcdf3ab9217e", func := "gantlet/gantletlaw11.OidPuts", spec := "oidPuts", apart := false, narrowed := true }
def OidPutsUptoSaid : Prop := oidPutsUptoRow.holds Try.pinned (OpenSpec.upto oidPutsSpec)

/-- 'gantletlaw11.OidBack', WHERE WHAT IT READS IS OF BULK AT MOST 1048576: true; the input reads as it did. -/
def oidBackUptoRow : OpenClaim := { program := "ytgloehelfdmmaaa", sum := "541611151c4a3f983852cf8766f53e5741dc6f5d0188a30a9fe1fcdf3ab9217e", func := "gantlet/gantletlaw11.OidBack", spec := "oidBack", apart := false, narrowed := true }
def OidBackUptoSaid : Prop := oidBackUptoRow.holds Try.pinned (OpenSpec.upto oidBackSpec)

/-- 'gantletlaw11.OidOne', WHERE WHAT IT READS IS OF BULK AT MOST 1048576: true; the input reads as it did. -/
def oidOneUptoRow : OpenClaim := { program := "ytgloehelfdmmaaa", sum := "541611151c4a3f983852cf8766f53e5741dc6f5d0188a30a9fe1fcdf3ab9217e", func := "gantlet/gantletlaw11.OidOne", spec := "oidOne", apart := false, narrowed := true }
def OidOneUptoSaid : Prop := oidOneUptoRow.holds Try.pinned (OpenSpec.upto oidOneSpec)

/-- 'gantletlaw11.OidParts', WHERE WHAT IT READS IS OF BULK AT MOST 1048576: true; the input reads as it did. -/
def oidPartsUptoRow : OpenClaim := { program := "ytgloehelfdmmaaa", sum := "541611151c4a3f983852cf8766f53e5741dc6f5d0188a30a9fe1fcdf3ab9217e", func := "gantlet/gantletlaw11.OidParts", spec := "oidParts", apart := false, narrowed := true }
def OidPartsUptoSaid : Prop := oidPartsUptoRow.holds Try.pinned (OpenSpec.upto oidPartsSpec)

/-- 'gantletlaw11.OidFront', WHERE WHAT IT READS IS OF BULK AT MOST 1048576: true; the input reads as it did. -/
def oidFrontUptoRow : OpenClaim := { program := "ytgloehelfdmmaaa", sum := "541611151c4a3f983852cf8766f53e5741dc6f5d0188a30a9fe1fcdf3ab9217e", func := "gantlet/gantletlaw11.OidFront", spec := "oidFront", apart := false, narrowed := true }
def OidFrontUptoSaid : Prop := oidFrontUptoRow.holds Try.pinned (OpenSpec.upto oidFrontSpec)

end Rows
end Go.Proofs.Ytgloehelfdmmaaa
