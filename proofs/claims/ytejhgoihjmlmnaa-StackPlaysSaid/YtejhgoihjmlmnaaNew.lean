/- A stack is made; the document's first answers hold (layer 8). -/
import Derived.Test.YtejhgoihjmlmnaaObj
namespace Go.Proofs.Ytejhgoihjmlmnaa.Obj
open Go.RowKit
set_option linter.unusedVariables false

def clamp (d : Int) : Nat := if d < 0 then 0 else if 64 < d then 64 else d.toNat

def zs : Array Value := Array.replicate 66 (.int .i64 0)
theorem zs_size : zs.size = 66 := by simp [zs]
theorem zero46 (w : World) : (zeroValue 46).run Try.prog w = .ok (.agg zs) w := by
  have h : (zeroValue 46).run Try.prog w = .ok (.agg (Array.replicate 66 (.int .i64 0))) w := by kernel_rfl
  exact h

theorem stk_new (m : Nat) (hm : m ≤ 64) (w : World) : Stk (w.alloc (.cells (zs.setIfInBounds 65 (.int .i64 m)) 46)) w.heap.size (fun _ => 0) 0 m where
  cell j hj := by
    rw [World.cell?_alloc_new, Array.getElem?_setIfInBounds_ne (by omega), zs, Array.getElem?_replicate, if_pos (by omega)]
  cd := by
    rw [World.cell?_alloc_new, Array.getElem?_setIfInBounds_ne (by omega)]
    simp [zs]
  cm := by
    rw [World.cell?_alloc_new, Array.getElem?_setIfInBounds_self_of_lt (by rw [zs_size]; omega)]
  free j hj := by simp
  dm := Nat.zero_le _
  m64 := hm
  lo j hj := by omega
  hi j hj := by omega
  lt := by simp

set_option maxHeartbeats 400000 in
theorem new_c (d : Int) (w : World) :
    Calls Try.prog 8 #[.int .i64 d] w fun e w' => e = .returned (.pointer (some ⟨w.heap.size, 0, none⟩)) ∧ Stk w' w.heap.size (fun _ => 0) 0 (clamp d) ∧ Kept (fun _ => False) w w' := by
  have hz := zero46
  have hs := zs_size
  rcases Int.lt_or_le d 0 with h | h
  · go_enter Try.func8, Try.ntmps8
    go_wp2
    go_ret
    refine ⟨rfl, ?_, (Kept.refl _ w).alloc _⟩
    have e : clamp d = 0 := by unfold clamp; rw [if_pos h]
    rw [e]
    exact stk_new 0 (by omega) w
  · rcases Int.lt_or_le 64 d with h2 | h2
    · have h3 : ¬d < 64 := by omega
      go_enter Try.func8, Try.ntmps8
      go_wp2
      go_ret
      refine ⟨rfl, ?_, (Kept.refl _ w).alloc _⟩
      have e : clamp d = 64 := by unfold clamp; rw [if_neg (by omega), if_pos h2]
      rw [e]
      exact stk_new 64 (by omega) w
    · obtain ⟨m, rfl⟩ : ∃ m : Nat, d = m := ⟨d.toNat, by omega⟩
      go_enter Try.func8, Try.ntmps8
      go_wp2
      go_ret
      refine ⟨rfl, ?_, (Kept.refl _ w).alloc _⟩
      have e : clamp m = m := by unfold clamp; rw [if_neg (by omega), if_neg (by omega)]; omega
      rw [e]
      exact stk_new m (by omega) w

set_option maxHeartbeats 1000000 in
theorem awake_c (w : World) : Calls Try.prog 9 #[] w fun e w' => e = .returned (.bool true) ∧ Below w.heap.size w w' := by
  go_enter Try.func9, Try.ntmps9
  go_wp2_with fail
  refine (new_c 2 _).mono ?_
  rintro e w1 ⟨rfl, S1, K1⟩
  have e2 : clamp 2 = 2 := by decide
  rw [e2] at S1
  clear e2
  generalize hb : w.heap.size = b at S1 ⊢
  go_wp2_with fail
  refine (left_none b 2 _ _ S1).mono ?_
  rintro e w2 ⟨rfl, S2, K2⟩
  go_wp2_with fail
  refine (enter_first b 2 _ 5 _ S2 (by omega) (by omega) (by omega)).mono ?_
  rintro e w3 ⟨rfl, S3, K3⟩
  go_wp2_with fail
  refine (enter_great b 0 2 _ 6 _ S3 (by omega) (by simp [upd])).mono ?_
  rintro e w4 ⟨rfl, S4, K4⟩
  go_wp2_with fail
  refine (enter_deep b 0 2 _ 5 _ S4 (by omega) (by simp [upd]) (by omega)).mono ?_
  rintro e w5 ⟨rfl, S5, K5⟩
  go_wp2_with fail
  refine (enter_full b 1 _ 0 _ S5 (by omega) (by simp [upd])).mono ?_
  rintro e w6 ⟨rfl, S6, K6⟩
  go_wp2_with fail
  refine (take_some b 1 2 _ _ S6 (by simp [upd])).mono ?_
  rintro e w7 ⟨rfl, S7, K7⟩
  go_wp2_with fail
  have C8 := left_some b 1 2 _ _ S7
  rw [show upd (upd (upd (upd (fun _ => 0) 0 5) 0 (upd (fun _ => 0) 0 5 0 - 5)) (0 + 1) 5) 1 (upd (upd (upd (fun _ => 0) 0 5) 0 (upd (fun _ => 0) 0 5 0 - 5)) (0 + 1) 5 1 - 1) 1 = 4 from by simp [upd]] at C8
  refine C8.mono ?_
  rintro e w8 ⟨rfl, S8, K8⟩
  go_wp2_with fail
  refine (depth_c b 2 2 _ _ S8).mono ?_
  rintro e w9 ⟨rfl, rfl⟩
  go_wp2_with fail
  refine (leave_no b 1 2 _ _ S8 (by simp [upd])).mono ?_
  rintro e w9 ⟨rfl, S9, K9⟩
  go_wp2_with fail
  go_ret
  subst hb
  exact ⟨rfl, Kept.below (Below.refl _ w) (((K1.mono (fun _ h => h.elim)).trans (K2.trans (K3.trans (K4.trans (K5.trans (K6.trans (K7.trans (K8.trans K9))))))))) (fun i hi => by omega)⟩
end Go.Proofs.Ytejhgoihjmlmnaa.Obj
