/- The answers that the document fixes are given, in every world. -/
import Derived.Test.YtdkbfphpooedaaaPrimes
import Derived.Test.YtdkbfphpooedaaaRt
import Derived.Test.YtdkbfphpooedaaaGet
import Derived.Test.YtdkbfphpooedaaaTwo
namespace Go.Proofs.Ytdkbfphpooedaaa.Word
set_option linter.unusedVariables false
open Go.RowKit

theorem rt26 {r : Nat} (h : RtAt 26 3 r) : r = 2 := RtAt.uniq h ⟨fun h => by omega, fun _ => ⟨by decide, by decide⟩⟩
theorem rt27 {r : Nat} (h : RtAt 27 3 r) : r = 3 := RtAt.uniq h ⟨fun h => by omega, fun _ => ⟨by decide, by decide⟩⟩
theorem ps_five {X : Nat} (h : (ps X).length = 3) : (ps X).getD 2 0 = 5 := by
  have h2 : (ps 5).length = 2 := by decide +kernel
  have := ps_at (x := 5) (X := X) (by decide +kernel) (by omega)
  rw [h2] at this
  exact this
set_option maxRecDepth 10000 in
set_option maxHeartbeats 2000000 in
theorem awake_c (w : World) : Calls Try.prog 11 #[] w fun e w' => e = .returned (.bool true) ∧ Below w.heap.size w w' := by
  have G1 : Hid (Calls Try.prog 12 #[.string ⟨#[97, 1, 2, 3, 4]⟩, .int .i64 1] w fun e w' => e = .returned (.tuple #[.int .u32 16909060, .bool true]) ∧ Kept (fun _ => False) w w') := by
    refine (get32_ok ⟨#[97, 1, 2, 3, 4]⟩ 1 w (by decide) (by decide)).mono ?_
    rintro e w' ⟨rfl, K⟩
    refine ⟨?_, K⟩
    have e1 : ((wd 1 2 3 4 : Nat) : Int) = 16909060 := by decide
    rw [← e1]
    rfl
  go_enter Try.func11, Try.ntmps11
  go_wp2_with fail
  refine G1.out.mono ?_
  rintro e w1 ⟨rfl, K1⟩
  have KA := Lib.hid (K1.mono (T := fun i => w.heap.size ≤ i) (fun i h => h.elim))
  clear K1 G1
  go_wp2_with fail
  refine (get32_no ⟨#[97, 98, 99]⟩ 0 w1 (by decide) (by decide) (by decide)).mono ?_
  rintro e w2 ⟨rfl, rfl⟩
  have hw1 := KA.out.size
  go_wp2_with fail
  refine (primes_c 3 w2).mono ?_
  rintro e w3 ⟨v, X, rfl, hX, hlen, N, K⟩
  have hl3 : (ps X).length = 3 := by omega
  have KB := Lib.hid (KA.out.trans (K.mono (fun i hi => by omega)))
  have h5 := ps_five hl3
  obtain ⟨A, cap, rfl⟩ := N.form
  obtain ⟨A', cap', e1, HA⟩ := N.arcs (fun p hp => by have := (ps_mem.1 hp).1; omega)
  injection e1 with e1 e2 e3
  subst e1
  obtain ⟨g, o, rfl, hg, hc⟩ := HA.plain (by omega)
  have c2 := hc 2 (by omega)
  rw [h5] at c2
  replace c2 : w3.cell? ⟨g, o + 2, none⟩ = some (.int .u64 5) := c2
  rw [hl3]
  have hw3 := KB.out.size
  have hcap : 3 ≤ cap' := by have := HA.le; omega
  clear K KA HA hc h5 hlen N hX hw1 e2
  clear hl3
  have T : ∀ w, Calls Try.prog 16 #[.int .u32 1, .int .i64 1] w fun e w' => e = .returned (.int .u32 2147483648) ∧ w' = w := fun w => by
    refine (turn_c 1 1 (by decide) w).mono ?_
    rintro e w' ⟨rfl, rfl⟩
    have e1 : ((rot 1 1 : Nat) : Int) = 2147483648 := by decide
    refine ⟨?_, rfl⟩
    rw [← e1]
    rfl
  have P1 : ∀ w, Calls Try.prog 13 #[.int .u32 16909060] w fun e w' => e = .returned (.string ⟨#[1, 2, 3, 4]⟩) ∧ Kept (fun i => w.heap.size ≤ i) w w' := fun w => by
    refine (put32_c 16909060 (by decide) w).mono ?_
    rintro e w' ⟨rfl, K⟩
    rw [show strOfNums (be 4 16909060) = ⟨#[1, 2, 3, 4]⟩ from by decide]
    exact ⟨rfl, K⟩
  have P2 : ∀ w, Calls Try.prog 15 #[.int .u64 258] w fun e w' => e = .returned (.string ⟨#[0, 0, 0, 0, 0, 0, 1, 2]⟩) ∧ Kept (fun i => w.heap.size ≤ i) w w' := fun w => by
    refine (put64_c 258 (by decide) w).mono ?_
    rintro e w' ⟨rfl, K⟩
    rw [show strOfNums (be 8 258) = ⟨#[0, 0, 0, 0, 0, 0, 1, 2]⟩ from by decide]
    exact ⟨rfl, K⟩
  have R1 : ∀ w, Calls Try.prog 18 #[.int .u64 26, .int .i64 3] w fun e w' => e = .returned (.int .u64 2) ∧ w' = w := fun w => by
    refine (root_c 26 3 (by decide) w).mono ?_
    rintro e w' ⟨⟨r, rfl, h⟩, rfl⟩
    obtain rfl := rt26 h
    exact ⟨rfl, rfl⟩
  have R2 : ∀ w, Calls Try.prog 18 #[.int .u64 27, .int .i64 3] w fun e w' => e = .returned (.int .u64 3) ∧ w' = w := fun w => by
    refine (root_c 27 3 (by decide) w).mono ?_
    rintro e w' ⟨⟨r, rfl, h⟩, rfl⟩
    obtain rfl := rt27 h
    exact ⟨rfl, rfl⟩
  have T := Lib.hid T
  have P1 := Lib.hid P1
  have P2 := Lib.hid P2
  have R1 := Lib.hid R1
  have R2 := Lib.hid R2
  go_wp2_with fail
  refine (T.out w3).mono ?_
  rintro e w4 ⟨rfl, rfl⟩
  go_wp2_with fail
  refine (P1.out w4).mono ?_
  rintro e w5 ⟨rfl, K⟩
  have c3 := (World.cell?_of_block (w := w4) (w' := w5) (a := ⟨g, o + 2, none⟩) (K.block g hg (fun h => by omega))).trans c2
  have KC := Lib.hid (KB.out.trans (K.mono (fun i hi => Nat.le_trans hw3 hi)))
  have hg5 : g < w5.heap.size := Nat.lt_of_lt_of_le hg K.size
  have hw5 := KC.out.size
  clear K KB c2
  go_wp2_with fail
  refine (P2.out w5).mono ?_
  rintro e w6 ⟨rfl, K⟩
  have c4 := (World.cell?_of_block (w := w5) (w' := w6) (a := ⟨g, o + 2, none⟩) (K.block g hg5 (fun h => by omega))).trans c3
  have KD := Lib.hid (KC.out.trans (K.mono (fun i hi => Nat.le_trans hw5 hi)))
  clear K KC c3
  go_wp2_with fail
  refine (R1.out w6).mono ?_
  rintro e w7 ⟨rfl, rfl⟩
  go_wp2_with fail
  refine (R2.out w7).mono ?_
  rintro e w8 ⟨rfl, rfl⟩
  go_wp2_with fail
  go_ret
  exact ⟨by first | rfl | (simp; done), Kept.below (Below.refl _ w) KD.out (fun i h => h)⟩
end Go.Proofs.Ytdkbfphpooedaaa.Word
