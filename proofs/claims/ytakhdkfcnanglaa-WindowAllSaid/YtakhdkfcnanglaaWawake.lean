/- The document's first answers of layer 4. -/
import Derived.Test.YtakhdkfcnanglaaNext
namespace Go.Proofs.Ytakhdkfcnanglaa.Win
open Go.RowKit
open Go.Proofs.Ytakhdkfcnanglaa.Obj Go.Proofs.Ytakhdkfcnanglaa.New Go.Proofs.Ytakhdkfcnanglaa.Play Go.Proofs.Ytakhdkfcnanglaa.Ref Go.Proofs.Ytakhdkfcnanglaa.Flow
set_option linter.unusedVariables false

theorem held_c (b q sb g N Z : Nat) (d : ByteArray) (x : Ab) (w : World) (h : W w b q sb g N Z d x) :
    Calls Try.prog 26 #[.pointer (some ⟨b, 0, none⟩)] w fun e w' => e = .returned (.int .i64 x.held) ∧ ∃ m, w' = w.drewN m := by
  obtain ⟨frm, o, H⟩ := h
  have c2 := H.wb.c2
  have c3 := H.wb.c3
  have hr := H.wb.room
  have hnm := H.nm
  clear H
  go_enter Try.func26, Try.ntmps26
  go_wp2
  go_quiet (fail)
  go_wp2
  go_ret
  exact ⟨ret_int (by omega), _, rfl⟩
theorem calls_w0 (b q sb g N Z : Nat) (d : ByteArray) (x : Ab) (w : World) (h : W w b q sb g N Z d x) :
    Calls Try.prog 19 #[.pointer (some ⟨sb, 0, none⟩)] w fun e w' => e = .returned (.int .i64 x.calls) ∧ w = w' := by
  obtain ⟨frm, o, H⟩ := h
  have hc := H.ok.calls
  exact calls_c sb g _ _ _ _ _ _ H.src (by omega) (by omega)
theorem given_w0 (b q sb g N Z : Nat) (d : ByteArray) (x : Ab) (w : World) (h : W w b q sb g N Z d x) :
    Calls Try.prog 20 #[.pointer (some ⟨sb, 0, none⟩)] w fun e w' => e = .returned (.int .i64 ((x.p + x.held : Nat) : Int)) ∧ w = w' := by
  obtain ⟨frm, o, H⟩ := h
  exact given_c sb g _ _ _ _ _ _ H.src
theorem kup {S T : Nat → Prop} {a w w' : World} (h : Kept T a w) (k : Kept S w w') (hST : ∀ i, S i → T i) : Kept T a w' := h.trans (k.mono hST)
theorem Src.lo {w : World} {b g : Nat} {left : ByteArray} {st : List (Int × Int)} {over given calls : Int} (h : Src w b g left st over given calls) : b < w.heap.size := h.lb

set_option maxRecDepth 10000 in
set_option maxHeartbeats 4000000 in
theorem awake_w (w : World) : Calls Try.prog 21 #[] w fun e w' => e = .returned (.bool true) ∧ Below w.heap.size w w' := by
  have G0 : Given (w.alloc (.cells #[.int .i64 0, .int .i64 0, .int .i64 0, .int .i64 0, .int .i64 1, .int .i64 0] 36)) (some ⟨w.heap.size, 0, none⟩) [(0, 0), (0, 0), (1, 0)] 3 := given_made w _ [(0, 0), (0, 0), (1, 0)] rfl (by decide)
  have K0 := Lib.hid ((Kept.refl (fun i => w.heap.size ≤ i) w).alloc (.cells #[.int .i64 0, .int .i64 0, .int .i64 0, .int .i64 0, .int .i64 1, .int .i64 0] 36))
  have hz : w.heap.size < (w.alloc (.cells #[.int .i64 0, .int .i64 0, .int .i64 0, .int .i64 0, .int .i64 1, .int .i64 0] 36)).heap.size := by simp
  go_enter Try.func21, Try.ntmps21
  go_wp2_with fail
  generalize (w.alloc (.cells #[.int .i64 0, .int .i64 0, .int .i64 0, .int .i64 0, .int .i64 1, .int .i64 0] 36)) = w0 at G0 K0 hz ⊢
  refine (new_c ⟨#[97, 98]⟩ (some ⟨w.heap.size, 0, none⟩) 3 [(0, 0), (0, 0), (1, 0)] w0 G0 (by decide)).mono ?_
  rintro e w1 ⟨b, g, rfl, S1, K1, hb, hg⟩
  have hg := hg.resolve_left (by simp)
  have G1 := G0.keep K1 (fun _ h => h.elim)
  have hb1 := S1.lb
  have hg1 := S1.lg.resolve_left (by simp)
  have K2 := Lib.hid (kup K0.out K1 (fun _ h => h.elim))
  clear K0 K1 G0
  go_wp2_with fail
  refine (new_c ⟨#[97, 98]⟩ (some ⟨w.heap.size, 0, none⟩) 3 [(0, 0), (0, 0), (1, 0)] w1 G1 (by decide)).mono ?_
  rintro e w2 ⟨b2, g2, rfl, T2, K1, hb2, hg2⟩
  have hg2 := hg2.resolve_left (by simp)
  have S2 := S1.keep K1 (fun h => h) (fun h => h)
  have hb3 := T2.lb
  have hg3 := T2.lg.resolve_left (by simp)
  have K3 := Lib.hid (kup K2.out K1 (fun _ h => h.elim))
  clear K1 K2 G1 S1
  go_wp2_with fail
  refine (win_new 4 2 b g _ _ w2 S2 (by decide) (by decide)).mono ?_
  rintro e w3 ⟨rfl, X3, K1⟩
  have T3 := T2.keep K1 (fun h => h) (fun h => h)
  have K4 := Lib.hid (kup K3.out K1 (fun _ h => h.elim))
  have hs3 : w2.heap.size + 1 < w3.heap.size := by obtain ⟨_, _, h⟩ := X3; exact h.wb.lb
  clear K1 K3 T2 S2
  go_wp2_with fail
  refine (win_new 4 1 b2 g2 _ _ w3 T3 (by decide) (by decide)).mono ?_
  rintro e w4 ⟨rfl, Y4, K1⟩
  have X4 := X3.keep K1 (fun h => h) (fun h => h) (fun h => h) (.inr (fun h => h))
  have K5 := Lib.hid (kup K4.out K1 (fun _ h => h.elim))
  clear K1 K4 X3 T3
  have hw : w.heap.size ≤ w2.heap.size := by omega
  rw [show clampN 4 = 4 from by decide, show clampZ 2 = 2 from by decide] at X4
  rw [show clampN 4 = 4 from by decide, show clampZ 1 = 1 from by decide] at Y4
  generalize w2.heap.size = q at X4 hs3 hb3 hg3 hw ⊢
  generalize w3.heap.size = r at Y4 hs3 ⊢
  have e1 : (⟨[(0, 0), (0, 0), (1, 0)], 0, 0, 0, 0⟩ : Ab).fill ((4 : Nat) : Int) 2 (⟨#[97, 98]⟩ : ByteArray).size = ⟨[], 0, 1, 3, 0⟩ := by rfl
  have n1 : (⟨[(0, 0), (0, 0), (1, 0)], 0, 0, 0, 0⟩ : Ab).next ((4 : Nat) : Int) 2 (⟨#[97, 98]⟩ : ByteArray).size = ⟨[], 1, 0, 3, 0⟩ := by rfl
  have C := next_go (q + 1) q b g 4 2 _ _ w4 X4 (by rw [e1]; decide)
  rw [n1, show bt ⟨#[97, 98]⟩ 0 = 97 from by decide] at C
  clear n1 e1
  go_wp2_with fail
  refine C.mono ?_
  rintro e w5 ⟨rfl, X5, K1⟩
  have Y5 := Y4.keep K1 (by omega) (by omega) (by omega) (.inr (by omega))
  have K6 := Lib.hid (kup K5.out K1 (fun i h => by omega))
  clear C K1 K5 X4 Y4
  have e1 : (⟨[], 1, 0, 3, 0⟩ : Ab).fill ((4 : Nat) : Int) 2 (⟨#[97, 98]⟩ : ByteArray).size = ⟨[], 1, 1, 4, 0⟩ := by rfl
  have C := peek_go (q + 1) q b g 4 2 _ _ w5 X5 (by rw [e1]; decide)
  rw [e1, show bt ⟨#[97, 98]⟩ 1 = 98 from by decide] at C
  clear e1
  go_wp2_with fail
  refine C.mono ?_
  rintro e w6 ⟨rfl, X6, K1⟩
  have Y6 := Y5.keep K1 (by omega) (by omega) (by omega) (.inr (by omega))
  have K7 := Lib.hid (kup K6.out K1 (fun i h => by omega))
  clear C K1 K6 X5 Y5
  have e1 : (⟨[], 1, 1, 4, 0⟩ : Ab).fill ((4 : Nat) : Int) 2 (⟨#[97, 98]⟩ : ByteArray).size = ⟨[], 1, 1, 4, 0⟩ := by rfl
  have n1 : (⟨[], 1, 1, 4, 0⟩ : Ab).next ((4 : Nat) : Int) 2 (⟨#[97, 98]⟩ : ByteArray).size = ⟨[], 2, 0, 4, 0⟩ := by rfl
  have C := next_go (q + 1) q b g 4 2 _ _ w6 X6 (by rw [e1]; decide)
  rw [n1, show bt ⟨#[97, 98]⟩ 1 = 98 from by decide] at C
  clear e1 n1
  go_wp2_with fail
  refine C.mono ?_
  rintro e w7 ⟨rfl, X7, K1⟩
  have Y7 := Y6.keep K1 (by omega) (by omega) (by omega) (.inr (by omega))
  have K8 := Lib.hid (kup K7.out K1 (fun i h => by omega))
  clear C K1 K7 X6 Y6
  have e1 : (⟨[], 2, 0, 4, 0⟩ : Ab).fill ((4 : Nat) : Int) 2 (⟨#[97, 98]⟩ : ByteArray).size = ⟨[], 2, 0, 5, 14⟩ := by rfl
  have n1 : (⟨[], 2, 0, 4, 0⟩ : Ab).next ((4 : Nat) : Int) 2 (⟨#[97, 98]⟩ : ByteArray).size = ⟨[], 2, 0, 5, 14⟩ := by rfl
  have C := next_over (q + 1) q b g 4 2 _ _ w7 X7 (by rw [e1])
  rw [n1, e1] at C
  clear e1 n1
  go_wp2_with fail
  refine C.mono ?_
  rintro e w8 ⟨rfl, X8, K1⟩
  have Y8 := Y7.keep K1 (by omega) (by omega) (by omega) (.inr (by omega))
  have K9 := Lib.hid (kup K8.out K1 (fun i h => by omega))
  clear C K1 K8 X7 Y7
  have e1 : (⟨[(0, 0), (0, 0), (1, 0)], 0, 0, 0, 0⟩ : Ab).fill ((4 : Nat) : Int) 1 (⟨#[97, 98]⟩ : ByteArray).size = ⟨[(1, 0)], 0, 0, 2, 13⟩ := by rfl
  have n1 : (⟨[(0, 0), (0, 0), (1, 0)], 0, 0, 0, 0⟩ : Ab).next ((4 : Nat) : Int) 1 (⟨#[97, 98]⟩ : ByteArray).size = ⟨[(1, 0)], 0, 0, 2, 13⟩ := by rfl
  have C := next_over (r + 1) r b2 g2 4 1 _ _ w8 Y8 (by rw [e1])
  rw [n1, e1] at C
  clear e1 n1
  go_wp2_with fail
  refine C.mono ?_
  rintro e w9 ⟨rfl, Y9, K1⟩
  have X9 := X8.keep K1 (by omega) (by omega) (by omega) (.inr (by omega))
  have K10 := Lib.hid (kup K9.out K1 (fun i h => by omega))
  clear C K1 K9 X8 Y8
  go_wp2_with fail
  refine (at_c (q + 1) q b g 4 2 _ _ w9 X9).mono ?_
  rintro e w10 ⟨rfl, rfl⟩
  go_wp2_with fail
  refine (calls_w0 (r + 1) r b2 g2 4 1 _ _ w9 Y9).mono ?_
  rintro e w10 ⟨rfl, rfl⟩
  go_wp2_with fail
  refine (held_c (q + 1) q b g 4 2 _ _ w9 X9).mono ?_
  rintro e w10 ⟨rfl, m, rfl⟩
  go_wp2_with fail
  go_ret
  exact ⟨by first | rfl | (simp; done), Kept.below (Below.refl _ w) (K10.out.drewN _) (fun i h => h)⟩
end Go.Proofs.Ytakhdkfcnanglaa.Win
