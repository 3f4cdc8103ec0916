/- The answers that the document fixes are given, in every world. -/
import Derived.Test.YtgloehelfdmmaaaSame
namespace Go.Proofs.Ytgloehelfdmmaaa.Oid
set_option linter.unusedVariables false
open Go.RowKit

theorem arcs_made (w : World) (cs : Array Value) (l : List Nat) (h : cs.toList = l.map fun n : Nat => Value.int .u64 (n : Int)) (hl : l.length ≤ 1000) (hs : ∀ n ∈ l, n < 18446744073709551616) : Arcs (w.alloc (.cells cs 40)) (some ⟨w.heap.size, 0, none⟩) l l.length :=
  ⟨Nat.le_refl _, by omega, .inr ⟨_, rfl, fun j hj => by
    rw [add_plain, Nat.zero_add, World.cell?_alloc_new, ← Array.getElem?_toList, h, List.getElem?_map]
    simp [List.getD, hj]⟩, hs⟩
theorem put1 : putS [1, 2, 840] = some [42, 134, 72] := by
  rw [putS, if_neg (by decide)]
  simp [enc, hi_zero, hi_pos (show 6 ≠ 0 by decide)]
theorem put2 : putS [2, 999] = some [136, 55] := by
  rw [putS, if_neg (by decide)]
  simp [enc, hi_zero, hi_pos (show 8 ≠ 0 by decide)]
theorem put3 : putS [1, 40] = none := by
  rw [putS, if_pos (by decide)]
set_option maxRecDepth 10000 in
set_option maxHeartbeats 2000000 in
theorem awake_c (w : World) : Calls Try.prog 9 #[] w fun e w' => e = .returned (.bool true) ∧ Below w.heap.size w w' := by
  have P1 := put_c _ [1, 2, 840] _ _ (arcs_made w #[.int .u64 1, .int .u64 2, .int .u64 840] [1, 2, 840] rfl (by decide) (by decide)) (by decide)
  rw [put1] at P1
  go_enter Try.func9, Try.ntmps9
  go_wp2_with fail
  refine P1.mono ?_
  rintro e w1 ⟨rfl, K1⟩
  have K2 := Lib.hid (((Kept.refl (fun i => w.heap.size ≤ i) w).alloc (.cells #[.int .u64 1, .int .u64 2, .int .u64 840] 40)).trans (K1.mono (T := fun i => w.heap.size ≤ i) (fun i hi => by simp at hi; omega)))
  clear P1 K1
  have P1 := put_c _ [2, 999] _ _ (arcs_made w1 #[.int .u64 2, .int .u64 999] [2, 999] rfl (by decide) (by decide)) (by decide)
  rw [put2] at P1
  have hw1 : w.heap.size ≤ w1.heap.size := K2.out.size
  rw [show strOfNums [42, 134, 72] = ⟨#[42, 134, 72]⟩ from by decide]
  go_wp2_with fail
  refine P1.mono ?_
  rintro e w2 ⟨rfl, K1⟩
  have K3 := Lib.hid ((K2.out.alloc (.cells #[.int .u64 2, .int .u64 999] 40)).trans (K1.mono (T := fun i => w.heap.size ≤ i) (fun i hi => by simp at hi; omega)))
  clear P1 K1 K2
  have P1 := put_c _ [1, 40] _ _ (arcs_made w2 #[.int .u64 1, .int .u64 40] [1, 40] rfl (by decide) (by decide)) (by decide)
  rw [put3] at P1
  have hw2 : w.heap.size ≤ w2.heap.size := K3.out.size
  rw [show strOfNums [136, 55] = ⟨#[136, 55]⟩ from by decide]
  go_wp2_with fail
  refine P1.mono ?_
  rintro e w3 ⟨rfl, K1⟩
  have K4 := Lib.hid ((K3.out.alloc (.cells #[.int .u64 1, .int .u64 40] 40)).trans (K1.mono (T := fun i => w.heap.size ≤ i) (fun i hi => by simp at hi; omega)))
  clear P1 K1 K3
  have hw3 : w.heap.size ≤ w3.heap.size := K4.out.size
  have P1 := get_c ⟨#[136, 55]⟩ (by decide) (by decide) w3
  rw [show getS (bl ⟨#[136, 55]⟩) = some [2, 999] from by decide] at P1
  go_wp2_with fail
  refine P1.mono ?_
  rintro e w4 ⟨⟨v, rfl, B4⟩, K1⟩
  obtain ⟨A, cap, rfl, HA⟩ := B4.arcs (by decide)
  have K5 := Lib.hid (K4.out.trans (K1.mono (T := fun i => w.heap.size ≤ i) (fun i hi => by omega)))
  clear P1 K1 K4 B4
  go_wp2_with fail
  refine (start_ok 3 w4 (by decide)).mono ?_
  rintro e w5 ⟨rfl, K1⟩
  have HA5 := HA.keep K1 (fun i h => h.elim)
  have K6 := Lib.hid (kup K5.out K1 (fun i h => h.elim))
  clear K1 HA K5
  go_wp2_with fail
  refine (push_ok 3 false 42 _ (by decide) (by decide) ⟨by decide, by decide⟩ (by decide)).mono ?_
  rintro e w6 ⟨rfl, K1⟩
  have HA6 := (HA5.keep ((Kept.refl (fun _ => False) w5).alloc _) (fun i h => h.elim)).keep K1 (fun i h => h.elim)
  have K7 := Lib.hid (kup (K6.out.alloc _) K1 (fun i h => h.elim))
  clear K1 HA5 K6
  rw [show (3 : Int) - 1 = 2 from rfl, show decide ((127 : Int) < 42) = false from rfl]
  go_wp2_with fail
  refine (push_no 2 false 128 _ (by decide) (by decide) ⟨by decide, by decide⟩ (by decide)).mono ?_
  rintro e w7 ⟨rfl, K1⟩
  have HA7 := (HA6.keep ((Kept.refl (fun _ => False) w6).alloc _) (fun i h => h.elim)).keep K1 (fun i h => h.elim)
  have K8 := Lib.hid (kup (K7.out.alloc _) K1 (fun i h => h.elim))
  clear K1 HA6 K7
  go_wp2_with fail
  have HA8 := HA7.keep ((Kept.refl (fun _ => False) w7).alloc (.cells #[.int .i64 0, .bool false] 25)) (fun i h => h.elim)
  have HM := arcs_made (w7.alloc (.cells #[.int .i64 0, .bool false] 25)) #[.int .u64 2, .int .u64 999] [2, 999] rfl (by decide) (by decide)
  have HA9 := HA8.keep ((Kept.refl (fun _ => False) (w7.alloc (.cells #[.int .i64 0, .bool false] 25))).alloc (.cells #[.int .u64 2, .int .u64 999] 40)) (fun i h => h.elim)
  rw [World.size_alloc] at HM
  have C := same_c A _ [2, 999] [2, 999] cap _ _ HA9 HM (by decide) (by decide)
  rw [decide_eq_true rfl] at C
  have K9 := Lib.hid ((K8.out.alloc (.cells #[.int .i64 0, .bool false] 25)).alloc (.cells #[.int .u64 2, .int .u64 999] 40))
  clear HA7 HA8 HA9 HM
  refine C.mono ?_
  rintro e w8 ⟨rfl, m, rfl⟩
  clear C
  go_wp2_with fail
  go_ret
  exact ⟨by first | rfl | (simp; done), Kept.below (Below.refl _ w) (K9.out.drewN _) (fun i h => h)⟩
end Go.Proofs.Ytgloehelfdmmaaa.Oid
