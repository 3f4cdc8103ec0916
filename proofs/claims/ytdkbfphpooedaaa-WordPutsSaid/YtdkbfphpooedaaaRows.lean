/-
  No cell of these rows narrows 'for every input' (looked for: loops, veiled, ifaces, maps, wideKeys, modest, calm, conditions, laid).
  DERIVED. THE GIVEN ROWS OF THIS SEAT. 8 by the template 'for every input the law returns true; each argument reads behind the call as it read before'; 0 by the template 'total and deterministic' (their statements: YtdkbfphpooedaaaTotals.lean).
  GIVEN WITH THE SEED: the statements are not yours to turn. If you find one false, say at which input.
  Laid BY PROGRAM, IN A SANDBOX (cutbox-rows.mjs): the forced cells as the released guide's own fill.sh prints them over the translation 9bb19d7c07887457… (all of the seat's roots in one cut). By AI agents, Wed Nov 11 2026. No macro, syntax, notation, axiom, sorry.
-/
import Derived.Test.YtdkbfphpooedaaaChecked
import GoSem.Claim
import GoSem.ClaimJoined
import GoSem.ClaimMapViews
import Derived.JoinedTies
import Derived.KernelRfl
namespace Go.Proofs.Ytdkbfphpooedaaa
/- THE CELL 'sum', in the pinned program and in every row, IS THE sha256 OF THE DUMP (.gsa) THAT YtdkbfphpooedaaaProg.lean LOADS. Nothing in Lean hashes anything: it is a label: what it is worth is what the hold of that sum in a sandbox is worth. -/
noncomputable def Try.pinned : Pinned := { name := "ytdkbfphpooedaaa", sum := "9bb19d7c078874575c7b88bb7cee7343bc6270c54f80cb10599de00b7d3770f9", checked := Try.checked }
namespace Rows
def none {H : Type} : Left H := { results := [], args := [] }

/-- 'gantletlaw01.WordPuts': WHATEVER THE INPUT: true; the input reads as it did. -/
def wordPutsSpec : ChangeSpec := { name := "wordPuts", fn := fun _ => fun
  | [d1, d2, d3] => { results := [.lit (.bool true)], args := [d1, d2, d3] }
  | _ => none }
def wordPutsRow : OpenClaim := { program := "ytdkbfphpooedaaa", sum := "9bb19d7c078874575c7b88bb7cee7343bc6270c54f80cb10599de00b7d3770f9", func := "gantlet/gantletlaw01.WordPuts", spec := "wordPuts", apart := false }
def WordPutsSaid : Prop := wordPutsRow.holds Try.pinned (OpenSpec.ofChange wordPutsSpec)

/-- ITS FALSE NEIGHBOUR: 'it returns false'. Refute it at one input. -/
def wordPutsWrong : ChangeSpec := { name := "wordPuts", fn := fun _ => fun
  | [d1, d2, d3] => { results := [.lit (.bool false)], args := [d1, d2, d3] }
  | _ => none }
def WordPutsWrongFalsely : Prop := wordPutsRow.holds Try.pinned (OpenSpec.ofChange wordPutsWrong)

/-- 'gantletlaw01.WordTurns': WHATEVER THE INPUT: true; the input reads as it did. -/
def wordTurnsSpec : ChangeSpec := { name := "wordTurns", fn := fun _ => fun
  | [d1, d2] => { results := [.lit (.bool true)], args := [d1, d2] }
  | _ => none }
def wordTurnsRow : OpenClaim := { program := "ytdkbfphpooedaaa", sum := "9bb19d7c078874575c7b88bb7cee7343bc6270c54f80cb10599de00b7d3770f9", func := "gantlet/gantletlaw01.WordTurns", spec := "wordTurns", apart := false }
def WordTurnsSaid : Prop := wordTurnsRow.holds Try.pinned (OpenSpec.ofChange wordTurnsSpec)

/-- ITS FALSE NEIGHBOUR: 'it returns false'. Refute it at one input. -/
def wordTurnsWrong : ChangeSpec := { name := "wordTurns", fn := fun _ => fun
  | [d1, d2] => { results := [.lit (.bool false)], args := [d1, d2] }
  | _ => none }
def WordTurnsWrongFalsely : Prop := wordTurnsRow.holds Try.pinned (OpenSpec.ofChange wordTurnsWrong)

/-- 'gantletlaw01.WordBack': WHATEVER THE INPUT: true; the input reads as it did. -/
def wordBackSpec : ChangeSpec := { name := "wordBack", fn := fun _ => fun
  | [d1, d2] => { results := [.lit (.bool true)], args := [d1, d2] }
  | _ => none }
def wordBackRow : OpenClaim := { program := "ytdkbfphpooedaaa", sum := "9bb19d7c078874575c7b88bb7cee7343bc6270c54f80cb10599de00b7d3770f9", func := "gantlet/gantletlaw01.WordBack", spec := "wordBack", apart := false }
def WordBackSaid : Prop := wordBackRow.holds Try.pinned (OpenSpec.ofChange wordBackSpec)

/-- ITS FALSE NEIGHBOUR: 'it returns false'. Refute it at one input. -/
def wordBackWrong : ChangeSpec := { name := "wordBack", fn := fun _ => fun
  | [d1, d2] => { results := [.lit (.bool false)], args := [d1, d2] }
  | _ => none }
def WordBackWrongFalsely : Prop := wordBackRow.holds Try.pinned (OpenSpec.ofChange wordBackWrong)

/-- 'gantletlaw01.WordMixes': WHATEVER THE INPUT: true; the input reads as it did. -/
def wordMixesSpec : ChangeSpec := { name := "wordMixes", fn := fun _ => fun
  | [d1, d2, d3] => { results := [.lit (.bool true)], args := [d1, d2, d3] }
  | _ => none }
def wordMixesRow : OpenClaim := { program := "ytdkbfphpooedaaa", sum := "9bb19d7c078874575c7b88bb7cee7343bc6270c54f80cb10599de00b7d3770f9", func := "gantlet/gantletlaw01.WordMixes", spec := "wordMixes", apart := false }
def WordMixesSaid : Prop := wordMixesRow.holds Try.pinned (OpenSpec.ofChange wordMixesSpec)

/-- ITS FALSE NEIGHBOUR: 'it returns false'. Refute it at one input. -/
def wordMixesWrong : ChangeSpec := { name := "wordMixes", fn := fun _ => fun
  | [d1, d2, d3] => { results := [.lit (.bool false)], args := [d1, d2, d3] }
  | _ => none }
def WordMixesWrongFalsely : Prop := wordMixesRow.holds Try.pinned (OpenSpec.ofChange wordMixesWrong)

/-- 'gantletlaw01.WordRoots': WHATEVER THE INPUT: true; the input reads as it did. -/
def wordRootsSpec : ChangeSpec := { name := "wordRoots", fn := fun _ => fun
  | [d1, d2] => { results := [.lit (.bool true)], args := [d1, d2] }
  | _ => none }
def wordRootsRow : OpenClaim := { program := "ytdkbfphpooedaaa", sum := "9bb19d7c078874575c7b88bb7cee7343bc6270c54f80cb10599de00b7d3770f9", func := "gantlet/gantletlaw01.WordRoots", spec := "wordRoots", apart := false }
def WordRootsSaid : Prop := wordRootsRow.holds Try.pinned (OpenSpec.ofChange wordRootsSpec)

/-- ITS FALSE NEIGHBOUR: 'it returns false'. Refute it at one input. -/
def wordRootsWrong : ChangeSpec := { name := "wordRoots", fn := fun _ => fun
  | [d1, d2] => { results := [.lit (.bool false)], args := [d1, d2] }
  | _ => none }
def WordRootsWrongFalsely : Prop := wordRootsRow.holds Try.pinned (OpenSpec.ofChange wordRootsWrong)

/-- 'gantletlaw01.WordPrimes': WHATEVER THE INPUT: true; the input reads as it did. -/
def wordPrimesSpec : ChangeSpec := { name := "wordPrimes", fn := fun _ => fun
  | [d] => { results := [.lit (.bool true)], args := [d] }
  | _ => none }
def wordPrimesRow : OpenClaim := { program := "ytdkbfphpooedaaa", sum := "9bb19d7c078874575c7b88bb7cee7343bc6270c54f80cb10599de00b7d3770f9", func := "gantlet/gantletlaw01.WordPrimes", spec := "wordPrimes", apart := false }
def WordPrimesSaid : Prop := wordPrimesRow.holds Try.pinned (OpenSpec.ofChange wordPrimesSpec)

/-- ITS FALSE NEIGHBOUR: 'it returns false'. Refute it at one input. -/
def wordPrimesWrong : ChangeSpec := { name := "wordPrimes", fn := fun _ => fun
  | [d] => { results := [.lit (.bool false)], args := [d] }
  | _ => none }
def WordPrimesWrongFalsely : Prop := wordPrimesRow.holds Try.pinned (OpenSpec.ofChange wordPrimesWrong)

/-- 'gantletlaw01.WordHalves': WHATEVER THE INPUT: true; the input reads as it did. -/
def wordHalvesSpec : ChangeSpec := { name := "wordHalves", fn := fun _ => fun
  | [d] => { results := [.lit (.bool true)], args := [d] }
  | _ => none }
def wordHalvesRow : OpenClaim := { program := "ytdkbfphpooedaaa", sum := "9bb19d7c078874575c7b88bb7cee7343bc6270c54f80cb10599de00b7d3770f9", func := "gantlet/gantletlaw01.WordHalves", spec := "wordHalves", apart := false }
def WordHalvesSaid : Prop := wordHalvesRow.holds Try.pinned (OpenSpec.ofChange wordHalvesSpec)

/-- ITS FALSE NEIGHBOUR: 'it returns false'. Refute it at one input. -/
def wordHalvesWrong : ChangeSpec := { name := "wordHalves", fn := fun _ => fun
  | [d] => { results := [.lit (.bool false)], args := [d] }
  | _ => none }
def WordHalvesWrongFalsely : Prop := wordHalvesRow.holds Try.pinned (OpenSpec.ofChange wordHalvesWrong)

/-- 'gantletlaw01.WordRise': WHATEVER THE INPUT: true; the input reads as it did. -/
def wordRiseSpec : ChangeSpec := { name := "wordRise", fn := fun _ => fun
  | [d1, d2, d3] => { results := [.lit (.bool true)], args := [d1, d2, d3] }
  | _ => none }
def wordRiseRow : OpenClaim := { program := "ytdkbfphpooedaaa", sum := "9bb19d7c078874575c7b88bb7cee7343bc6270c54f80cb10599de00b7d3770f9", func := "gantlet/gantletlaw01.WordRise", spec := "wordRise", apart := false }
def WordRiseSaid : Prop := wordRiseRow.holds Try.pinned (OpenSpec.ofChange wordRiseSpec)

/-- ITS FALSE NEIGHBOUR: 'it returns false'. Refute it at one input. -/
def wordRiseWrong : ChangeSpec := { name := "wordRise", fn := fun _ => fun
  | [d1, d2, d3] => { results := [.lit (.bool false)], args := [d1, d2, d3] }
  | _ => none }
def WordRiseWrongFalsely : Prop := wordRiseRow.holds Try.pinned (OpenSpec.ofChange wordRiseWrong)

/- THE SECOND FORM. 'bulk': how many values and letters a reading holds, each counted each time it is reached (what is shared counts as often as it is met; a slice's spare places count too). A statement '..UptoSaid' is the law's where the arguments, and the package variables that the reading takes, are together of bulk at most 1048576: NARROWER than '..Said'. Prove '..Said' where nothing that the law and all that it calls make is longer than what came in: it says more and counts as full. Else prove '..UptoSaid'. A law counts once. -/
mutual
def uptoBulk {H : Type} : DataW H → Nat
  | .lit (.string bytes) => bytes.length + 1
  | .lit _ => 1
  | .nil => 1
  | .ptr d => uptoBulk d + 1
  | .slice elems spare => uptoBulkAll elems + uptoBulkAll spare + 1
  | .agg parts => uptoBulkAll parts + 1
  | .iface _ d => uptoBulk d + 1
  | .map entries => uptoBulkEntries entries + 1
  | .held _ => 1
def uptoBulkAll {H : Type} : List (DataW H) → Nat
  | [] => 0
  | d :: r => uptoBulk d + uptoBulkAll r
def uptoBulkEntries {H : Type} : List (Lit × DataW H) → Nat
  | [] => 0
  | x :: r => uptoBulkEntry x + uptoBulkEntries r
def uptoBulkEntry {H : Type} : Lit × DataW H → Nat
  | (.string bytes, d) => bytes.length + uptoBulk d + 1
  | (_, d) => uptoBulk d + 1
 end
def uptoSmall : (H : Type) → List (DataW H) → Bool := fun _ ds => decide (uptoBulkAll ds ≤ 1048576)
def OpenSpec.upto (s : _root_.Go.ChangeSpec) : _root_.Go.OpenSpec := { _root_.Go.OpenSpec.ofChange s with cond := some uptoSmall }

/-- 'gantletlaw01.WordPuts', WHERE WHAT IT READS IS OF BULK AT MOST 1048576: true; the input reads as it did. -/
def wordPutsUptoRow : OpenClaim := { program := "ytdkbfphpooedaaa", sum := "9bb19d7c078874575c7b88bb7cee7343bc6270c54f80cb10599de00b7d3770f9", func := "gantlet/gantletlaw01.WordPuts", spec := "wordPuts", apart := false, narrowed := true }
def WordPutsUptoSaid : Prop := wordPutsUptoRow.holds Try.pinned (OpenSpec.upto wordPutsSpec)

/-- 'gantletlaw01.WordTurns', WHERE WHAT IT READS IS OF BULK AT MOST 1048576: true; the input reads as it did. -/
def wordTurnsUptoRow : OpenClaim := { program := "ytdkbfphpooedaaa", sum := "9bb19d7c078874575c7b88bb7cee7343bc6270c54f80cb10599de00b7d3770f9", func := "gantlet/gantletlaw01.WordTurns", spec := "wordTurns", apart := false, narrowed := true }
def WordTurnsUptoSaid : Prop := wordTurnsUptoRow.holds Try.pinned (OpenSpec.upto wordTurnsSpec)

/-- 'gantletlaw01.WordBack', WHERE WHAT IT READS IS OF BULK AT MOST 1048576: true; the input reads as it did. -/
def wordBackUptoRow : OpenClaim := { program := "ytdkbfphpooedaaa", sum := "9bb19d7c078874575c7b88bb7cee7343bc6270c54f80cb10599de00b7d3770f9", func := "gantlet/gantletlaw01.WordBack", spec := "wordBack", apart := false, narrowed := true }
def WordBackUptoSaid : Prop := wordBackUptoRow.holds Try.pinned (OpenSpec.upto wordBackSpec)

/-- 'gantletlaw01.WordMixes', WHERE WHAT IT READS IS OF BULK AT MOST 1048576: true; the input reads as it did. -/
def wordMixesUptoRow : OpenClaim := { program := "ytdkbfphpooedaaa", sum := "9bb19d7c078874575c7b88bb7cee7343bc6270c54f80cb10599de00b7d3770f9", func := "gantlet/gantletlaw01.WordMixes", spec := "wordMixes", apart := false, narrowed := true }
def WordMixesUptoSaid : Prop := wordMixesUptoRow.holds Try.pinned (OpenSpec.upto wordMixesSpec)

/-- 'gantletlaw01.WordRoots', WHERE WHAT IT READS IS OF BULK AT MOST 1048576: true; the input reads as it did. -/
def wordRootsUptoRow : OpenClaim := { program := "ytdkbfphpooedaaa", sum := "9bb19d7c078874575c7b88bb7cee7343bc6270c54f80cb10599de00b7d3770f9", func := "gantlet/gantletlaw01.WordRoots", spec := "wordRoots", apart := false, narrowed := true }
def WordRootsUptoSaid : Prop := wordRootsUptoRow.holds Try.pinned (OpenSpec.upto wordRootsSpec)

/-- 'gantletlaw01.WordPrimes', WHERE WHAT IT READS IS OF BULK AT MOST 1048576: true; the input reads as it did. -/
def wordPrimesUptoRow : OpenClaim := { program := "ytdkbfphpooedaaa", sum := "9bb19d7c078874575c7b88bb7cee7343bc6270c54f80cb10599de00b7d3770f9", func := "gantlet/gantletlaw01.WordPrimes", spec := "wordPrimes", apart := false, narrowed := true }
def WordPrimesUptoSaid : Prop := wordPrimesUptoRow.holds Try.pinned (OpenSpec.upto wordPrimesSpec)

/-- 'gantletlaw01.WordHalves', WHERE WHAT IT READS IS OF BULK AT MOST 1048576: true; the input reads as it did. -/
def wordHalvesUptoRow : OpenClaim := { program := "ytdkbfphpooedaaa", sum := "9bb19d7c078874575c7b88bb7cee7343bc6270c54f80cb10599de00b7d3770f9", func := "gantlet/gantletlaw01.WordHalves", spec := "wordHalves", apart := false, narrowed := true }
def WordHalvesUptoSaid : Prop := wordHalvesUptoRow.holds Try.pinned (OpenSpec.upto wordHalvesSpec)

/-- 'gantletlaw01.WordRise', WHERE WHAT IT READS IS OF BULK AT MOST 1048576: true; the input reads as it did. -/
def wordRiseUptoRow : OpenClaim := { program := "ytdkbfphpooedaaa", sum := "9bb19d7c078874575c7b88bb7cee7343bc6270c54f80cb10599de00b7d3770f9", func := "gantlet/gantletlaw01.WordRise", spec := "wordRise", apart := false, narrowed := true }
def WordRiseUptoSaid : Prop := wordRiseUptoRow.holds Try.pinned (OpenSpec.upto wordRiseSpec)

end Rows
end Go.Proofs.Ytdkbfphpooedaaa
