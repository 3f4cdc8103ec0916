/- What the laws of layer 4 share. -/
import Derived.Test.YtakhdkfcnanglaaWawake
namespace Go.Proofs.Ytakhdkfcnanglaa.Win
open Go.RowKit
open Go.Proofs.Ytakhdkfcnanglaa.Obj Go.Proofs.Ytakhdkfcnanglaa.New Go.Proofs.Ytakhdkfcnanglaa.Play Go.Proofs.Ytakhdkfcnanglaa.Ref Go.Proofs.Ytakhdkfcnanglaa.Flow
set_option linter.unusedVariables false

theorem keep_cell {S : Nat → Prop} {w w' : World} {p o : Nat} {v : Value} (k : Kept S w w') (hs : ¬S p) (h : w.cell? ⟨p, o, none⟩ = some v) : w'.cell? ⟨p, o, none⟩ = some v :=
  (World.cell?_of_block (w := w) (k.block p (Obj.lt_cell h) hs)).trans h
theorem ne_of_int {a b : Int} (h : a ≠ b) : (a == b) = false := by simpa using h
end Go.Proofs.Ytakhdkfcnanglaa.Win
