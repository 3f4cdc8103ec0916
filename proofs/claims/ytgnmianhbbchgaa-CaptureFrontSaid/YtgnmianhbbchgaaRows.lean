/-
  No cell of these rows narrows 'for every input' (looked for: loops, veiled, ifaces, maps, wideKeys, modest, calm, conditions, laid).
  DERIVED. THE GIVEN ROWS OF THIS SEAT. 4 by the template 'for every input the law returns true; each argument reads behind the call as it read before'; 0 by the template 'total and deterministic' (their statements: YtgnmianhbbchgaaTotals.lean).
  GIVEN WITH THE SEED: the statements are not yours to turn. If you find one false, say at which input.
  Laid BY PROGRAM, IN A SANDBOX (cutbox-rows.mjs): the forced cells as the released guide's own fill.sh prints them over the translation b0c5468751735b4c… (all of the seat's roots in one cut). By AI agents, Wed Nov 11 2026. No macro, syntax, notation, axiom, sorry.
-/
import Derived.Test.YtgnmianhbbchgaaChecked
import GoSem.Claim
import GoSem.ClaimJoined
import GoSem.ClaimMapViews
import Derived.JoinedTies
import Derived.KernelRfl
namespace Go.Proofs.Ytgnmianhbbchgaa
/- THE CELL 'sum', in the pinned program and in every row, IS THE sha256 OF THE DUMP (.gsa) THAT YtgnmianhbbchgaaProg.lean LOADS. Nothing in Lean hashes anything: it is a label: what it is worth is what the hold of that sum in a sandbox is worth. -/
noncomputable def Try.pinned : Pinned := { name := "ytgnmianhbbchgaa", sum := "b0c5468751735b4cad14855fc27c27cce9ab057d7ae7b314938dad122210a8d3", checked := Try.checked }
namespace Rows
def none {H : Type} : Left H := { results := [], args := [] }

/-- 'gantletlaw17.CaptureStops': WHATEVER THE INPUT: true; the input reads as it did. -/
def captureStopsSpec : ChangeSpec := { name := "captureStops", fn := fun _ => fun
  | [d1, d2, d3] => { results := [.lit (.bool true)], args := [d1, d2, d3] }
  | _ => none }
def captureStopsRow : OpenClaim := { program := "ytgnmianhbbchgaa", sum := "b0c5468751735b4cad14855fc27c27cce9ab057d7ae7b314938dad122210a8d3", func := "gantlet/gantletlaw17.CaptureStops", spec := "captureStops", apart := false }
def CaptureStopsSaid : Prop := captureStopsRow.holds Try.pinned (OpenSpec.ofChange captureStopsSpec)

/-- ITS FALSE NEIGHBOUR: 'it returns false'. Refute it at one input. -/
def captureStopsWrong : ChangeSpec := { name := "captureStops", fn := fun _ => fun
  | [d1, d2, d3] => { results := [.lit (.bool false)], args := [d1, d2, d3] }
  | _ => none }
def CaptureStopsWrongFalsely : Prop := captureStopsRow.holds Try.pinned (OpenSpec.ofChange captureStopsWrong)

/-- 'gantletlaw17.CaptureFront': WHATEVER THE INPUT: true; the input reads as it did. -/
def captureFrontSpec : ChangeSpec := { name := "captureFront", fn := fun _ => fun
  | [d1, d2] => { results := [.lit (.bool true)], args := [d1, d2] }
  | _ => none }
def captureFrontRow : OpenClaim := { program := "ytgnmianhbbchgaa", sum := "b0c5468751735b4cad14855fc27c27cce9ab057d7ae7b314938dad122210a8d3", func := "gantlet/gantletlaw17.CaptureFront", spec := "captureFront", apart := false }
def CaptureFrontSaid : Prop := captureFrontRow.holds Try.pinned (OpenSpec.ofChange captureFrontSpec)

/-- ITS FALSE NEIGHBOUR: 'it returns false'. Refute it at one input. -/
def captureFrontWrong : ChangeSpec := { name := "captureFront", fn := fun _ => fun
  | [d1, d2] => { results := [.lit (.bool false)], args := [d1, d2] }
  | _ => none }
def CaptureFrontWrongFalsely : Prop := captureFrontRow.holds Try.pinned (OpenSpec.ofChange captureFrontWrong)

/-- 'gantletlaw17.CapturePlays': WHATEVER THE INPUT: true; the input reads as it did. -/
def capturePlaysSpec : ChangeSpec := { name := "capturePlays", fn := fun _ => fun
  | [d1, d2] => { results := [.lit (.bool true)], args := [d1, d2] }
  | _ => none }
def capturePlaysRow : OpenClaim := { program := "ytgnmianhbbchgaa", sum := "b0c5468751735b4cad14855fc27c27cce9ab057d7ae7b314938dad122210a8d3", func := "gantlet/gantletlaw17.CapturePlays", spec := "capturePlays", apart := false }
def CapturePlaysSaid : Prop := capturePlaysRow.holds Try.pinned (OpenSpec.ofChange capturePlaysSpec)

/-- ITS FALSE NEIGHBOUR: 'it returns false'. Refute it at one input. -/
def capturePlaysWrong : ChangeSpec := { name := "capturePlays", fn := fun _ => fun
  | [d1, d2] => { results := [.lit (.bool false)], args := [d1, d2] }
  | _ => none }
def CapturePlaysWrongFalsely : Prop := capturePlaysRow.holds Try.pinned (OpenSpec.ofChange capturePlaysWrong)

/-- 'gantletlaw17.CaptureParts': WHATEVER THE INPUT: true; the input reads as it did. -/
def capturePartsSpec : ChangeSpec := { name := "captureParts", fn := fun _ => fun
  | [d1, d2, d3] => { results := [.lit (.bool true)], args := [d1, d2, d3] }
  | _ => none }
def capturePartsRow : OpenClaim := { program := "ytgnmianhbbchgaa", sum := "b0c5468751735b4cad14855fc27c27cce9ab057d7ae7b314938dad122210a8d3", func := "gantlet/gantletlaw17.CaptureParts", spec := "captureParts", apart := false }
def CapturePartsSaid : Prop := capturePartsRow.holds Try.pinned (OpenSpec.ofChange capturePartsSpec)

/-- ITS FALSE NEIGHBOUR: 'it returns false'. Refute it at one input. -/
def capturePartsWrong : ChangeSpec := { name := "captureParts", fn := fun _ => fun
  | [d1, d2, d3] => { results := [.lit (.bool false)], args := [d1, d2, d3] }
  | _ => none }
def CapturePartsWrongFalsely : Prop := capturePartsRow.holds Try.pinned (OpenSpec.ofChange capturePartsWrong)

/- THE SECOND FORM. 'bulk': how many values and letters a reading holds, each counted each time it is reached (what is shared counts as often as it is met; a slice's spare places count too). A statement '..UptoSaid' is the law's where the arguments, and the package variables that the reading takes, are together of bulk at most 1048576: NARROWER than '..Said'. Prove '..Said' where nothing that the law and all that it calls make is longer than what came in: it says more and counts as full. Else prove '..UptoSaid'. A law counts once. -/
mutual
def uptoBulk {H : Type} : DataW H → Nat
  | .lit (.string bytes) => bytes.length + 1
  | .lit _ => 1
  | .nil => 1
  | .ptr d => uptoBulk d + 1
  | .slice elems spare => uptoBulkAll elems + uptoBulkAll spare + 1
  | .agg parts => uptoBulkAll parts + 1
  | .iface _ d => uptoBulk d + 1
  | .map entries => uptoBulkEntries entries + 1
  | .held _ => 1
def uptoBulkAll {H : Type} : List (DataW H) → Nat
  | [] => 0
  | d :: r => uptoBulk d + uptoBulkAll r
def uptoBulkEntries {H : Type} : List (Lit × DataW H) → Nat
  | [] => 0
  | x :: r => uptoBulkEntry x + uptoBulkEntries r
def uptoBulkEntry {H : Type} : Lit × DataW H → Nat
  | (.string bytes, d) => bytes.length + uptoBulk d + 1
  | (_, d) => uptoBulk d + 1
 end
def uptoSmall : (H : Type) → List (DataW H) → Bool := fun _ ds => decide (uptoBulkAll ds ≤ 1048576)
def OpenSpec.upto (s : _root_.Go.ChangeSpec) : _root_.Go.OpenSpec := { _root_.Go.OpenSpec.ofChange s with cond := some uptoSmall }

/-- 'gantletlaw17.CaptureStops', WHERE WHAT IT READS IS OF BULK AT MOST 1048576: true; the input reads as it did. -/
def captureStopsUptoRow : OpenClaim := { program := "ytgnmianhbbchgaa", sum := "b0c5468751735b4cad14855fc27c27cce9ab057d7ae7b314938dad122210a8d3", func := "gantlet/gantletlaw17.CaptureStops", spec := "captureStops", apart := false, narrowed := true }
def CaptureStopsUptoSaid : Prop := captureStopsUptoRow.holds Try.pinned (OpenSpec.upto captureStopsSpec)

/-- 'gantletlaw17.CaptureFront', WHERE WHAT IT READS IS OF BULK AT MOST 1048576: true; the input reads as it did. -/
def captureFrontUptoRow : OpenClaim := { program := "ytgnmianhbbchgaa", sum := "b0c5468751735b4cad14855fc27c27cce9ab057d7ae7b314938dad122210a8d3", func := "gantlet/gantletlaw17.CaptureFront", spec := "captureFront", apart := false, narrowed := true }
def CaptureFrontUptoSaid : Prop := captureFrontUptoRow.holds Try.pinned (OpenSpec.upto captureFrontSpec)

/-- 'gantletlaw17.CapturePlays', WHERE WHAT IT READS IS OF BULK AT MOST 1048576: true; the input reads as it did. -/
def capturePlaysUptoRow : OpenClaim := { program := "ytgnmianhbbchgaa", sum := "b0c5468751735b4cad14855fc27c27cce9ab057d7ae7b314938dad122210a8d3", func := "gantlet/gantletlaw17.CapturePlays", spec := "capturePlays", apart := false, narrowed := true }
def CapturePlaysUptoSaid : Prop := capturePlaysUptoRow.holds Try.pinned (OpenSpec.upto capturePlaysSpec)

/-- 'gantletlaw17.CaptureParts', WHERE WHAT IT READS IS OF BULK AT MOST 1048576: true; the input reads as it did. -/
def capturePartsUptoRow : OpenClaim := { program := "ytgnmianhbbchgaa", sum := "b0c5468751735b4cad14855fc27c27cce9ab057d7ae7b314938dad122210a8d3", func := "gantlet/gantletlaw17.CaptureParts", spec := "captureParts", apart := false, narrowed := true }
def CapturePartsUptoSaid : Prop := capturePartsUptoRow.holds Try.pinned (OpenSpec.upto capturePartsSpec)

end Rows
end Go.Proofs.Ytgnmianhbbchgaa
