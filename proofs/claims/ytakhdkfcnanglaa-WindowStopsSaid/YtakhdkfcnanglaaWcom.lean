/- What the laws of layer 4 share. -/
import Derived.Test.YtakhdkfcnanglaaWawake
namespace Go.Proofs.Ytakhdkfcnanglaa.Win
open Go.RowKit
open Go.Proofs.Ytakhdkfcnanglaa.Obj Go.Proofs.Ytakhdkfcnanglaa.New Go.Proofs.Ytakhdkfcnanglaa.Play Go.Proofs.Ytakhdkfcnanglaa.Ref Go.Proofs.Ytakhdkfcnanglaa.Flow
set_option linter.unusedVariables false

theorem keep_cell {S : Nat → Prop} {w w' : World} {p o : Nat} {v : Value} (k : Kept S w w') (hs : ¬S p) (h : w.cell? ⟨p, o, none⟩ = some v) : w'.cell? ⟨p, o, none⟩ = some v :=
  (World.cell?_of_block (w := w) (k.block p (Obj.lt_cell h) hs)).trans h
theorem ne_of_int {a b : Int} (h : a ≠ b) : (a == b) = false := by simpa using h
theorem fl_le_n (N Z : Nat) : ∀ (s : List (Int × Int)) (l z : Nat), (fl (N : Int) Z s l z).c ≤ N
  | [], l, z => by
    rw [fl]
    split
    · exact Nat.zero_le _
    · exact cn_le_n _ _ _
  | x :: s, l, z => by
    rw [fl]
    split
    · exact cn_le_n _ _ _
    · split
      · exact cn_le_n _ _ _
      · split
        · exact cn_le_n _ _ _
        · split
          · exact Nat.zero_le _
          · exact fl_le_n N Z s l (z + 1)
theorem next_room {N Z L : Nat} {x : Ab} (hn : 1 ≤ N) (h : x.held ≤ N) : (x.next (N : Int) Z L).held < N := by
  have hf : (x.fill (N : Int) Z L).held ≤ N := by
    unfold Ab.fill
    split
    · exact fl_le_n N Z _ _ _
    · exact h
  unfold Ab.next Ab.take
  split
  · next h0 => rw [h0]; omega
  · simp only
    omega
theorem W.room {w : World} {b q sb g N Z : Nat} {d : ByteArray} {x : Ab} (h : W w b q sb g N Z d x) : x.held ≤ N := by
  obtain ⟨frm, o, H⟩ := h
  have := H.wb.room
  omega
theorem W.ok {w : World} {b q sb g N Z : Nat} {d : ByteArray} {x : Ab} (h : W w b q sb g N Z d x) : x.Ok d.size := by
  obtain ⟨frm, o, H⟩ := h
  exact H.ok
/-- what Next gives, whatever comes -/
def Ab.tells (d : ByteArray) (x y : Ab) : Int × Int := if y.held = 0 then (0, y.e) else (bt d x.p, 0)
theorem next_any (b q sb g N Z : Nat) (d : ByteArray) (x : Ab) (w : World) (h : W w b q sb g N Z d x) :
    Calls Try.prog 24 #[.pointer (some ⟨b, 0, none⟩)] w fun e w' => e = .returned (.tuple #[.int .u8 (Ab.tells d x (x.fill N Z d.size)).1, .int .i64 (Ab.tells d x (x.fill N Z d.size)).2]) ∧ W w' b q sb g N Z d (x.next N Z d.size) ∧ Kept (fun i => i = b ∨ i = q ∨ i = sb) w w' := by
  unfold Ab.tells
  by_cases h0 : (x.fill N Z d.size).held = 0
  · rw [if_pos h0]
    exact next_over b q sb g N Z d x w h h0
  · rw [if_neg h0]
    exact next_go b q sb g N Z d x w h (by omega)
theorem peek_any (b q sb g N Z : Nat) (d : ByteArray) (x : Ab) (w : World) (h : W w b q sb g N Z d x) :
    Calls Try.prog 29 #[.pointer (some ⟨b, 0, none⟩)] w fun e w' => e = .returned (.tuple #[.int .u8 (Ab.tells d x (x.fill N Z d.size)).1, .int .i64 (Ab.tells d x (x.fill N Z d.size)).2]) ∧ W w' b q sb g N Z d (x.fill N Z d.size) ∧ Kept (fun i => i = b ∨ i = q ∨ i = sb) w w' := by
  unfold Ab.tells
  by_cases h0 : (x.fill N Z d.size).held = 0
  · rw [if_pos h0]
    exact peek_over b q sb g N Z d x w h h0
  · rw [if_neg h0]
    exact peek_go b q sb g N Z d x w h (by omega)
theorem clamp_q (n lo hi : Int) (r : Int) (w : World) (k : Nat) (hr : (if n < lo then lo else if n > hi then hi else n) = r) : Calls Try.prog 25 #[.int .i64 n, .int .i64 lo, .int .i64 hi] (w.drewN k) fun e w' => e = .returned (.int .i64 r) ∧ ∃ m, w' = w.drewN m := by
  subst hr
  exact (clamp_c n lo hi _).mono fun _ _ ⟨he, hw⟩ => ⟨he, k, hw.symm⟩
theorem fl_nil (N Z l z : Nat) : (fl (N : Int) Z [] l z).s = [] := by rw [fl]; split <;> rfl
theorem fill_nil {N Z L : Nat} {x : Ab} (h : x.s = []) : (x.fill (N : Int) Z L).s = [] := by
  unfold Ab.fill
  split
  · rw [h]; exact fl_nil N Z _ _
  · exact h
theorem next_nil {N Z L : Nat} {x : Ab} (h : x.s = []) : (x.next (N : Int) Z L).s = [] := by
  unfold Ab.next Ab.take
  split
  · exact fill_nil h
  · exact fill_nil h
theorem fill_next {N Z L : Nat} {x : Ab} (hn : 1 ≤ N) : (x.fill (N : Int) Z L).next (N : Int) Z L = x.next (N : Int) Z L := by
  unfold Ab.next
  rw [Ab.fill_fill (by omega)]
theorem tells_fill {N Z : Nat} {d : ByteArray} {x : Ab} : Ab.tells d (x.fill (N : Int) Z d.size) (x.fill (N : Int) Z d.size) = Ab.tells d x (x.fill (N : Int) Z d.size) := by
  unfold Ab.tells
  rw [Ab.fill_p]
end Go.Proofs.Ytakhdkfcnanglaa.Win
