/- As many can be open as the depth says, and no more; all can be left, one after the other: the walk of StackDepth. No condition beyond the kind of the depth. -/
import Derived.Test.YtejhgoihjmlmnaaNew
namespace Go.Proofs.Ytejhgoihjmlmnaa.Depth
open Go.RowKit Go.Proofs.Ytejhgoihjmlmnaa.Obj
set_option linter.unusedVariables false

def z : Nat → Int := fun _ => 0
theorem upd_z (k : Nat) : upd z k 0 = z := by funext j; unfold upd z; split <;> rfl
theorem enter_zero (b k m : Nat) (w : World) (h : Stk w b z k m) (hk : k < m) :
    Calls Try.prog 10 #[.pointer (some ⟨b, 0, none⟩), .int .i64 0] w fun e w' => e = .returned (.int .i64 0) ∧ Stk w' b z (k + 1) m ∧ Kept (· = b) w w' := by
  cases k with
  | zero => exact (enter_first b m z 0 w h (by omega) (by omega) hk).mono fun e w' ⟨he, S, K⟩ => ⟨he, by rw [upd_z] at S; exact S, K⟩
  | succ k =>
    refine (enter_deep b k m z 0 w h (by omega) (by simp [z]) hk).mono fun e w' ⟨he, S, K⟩ => ⟨he, ?_, K⟩
    rw [show z k - 0 = 0 from rfl, upd_z, upd_z] at S
    exact S
theorem enter_all (b m : Nat) (w : World) (h : Stk w b z m m) :
    Calls Try.prog 10 #[.pointer (some ⟨b, 0, none⟩), .int .i64 0] w fun e w' => e = .returned (.int .i64 10) ∧ Stk w' b z m m ∧ Kept (· = b) w w' := by
  cases m with
  | zero => exact enter_full0 b z 0 w h (by omega)
  | succ k => exact enter_full b k z 0 w h (by omega) (by simp [z])

set_option maxHeartbeats 1000000 in
theorem walk_neg (d : Int) (m : Nat) (w : World) (h : d < 0) (hm : m = 0) (hc : clamp d = m) :
    Calls Try.prog 4 #[.int .i64 d] w fun e w' => e = .returned (.bool true) ∧ Below w.heap.size w w' := by
  have HM := Lib.hid hm
  clear hm
  have HC := Lib.hid hc
  clear hc
  go_enter Try.func4, Try.ntmps4
  go_wp2_with fail
  refine (new_c d _).mono ?_
  rintro e w1 ⟨rfl, S1, K1⟩
  rw [HC.out] at S1
  generalize hb : w.heap.size = b at S1 ⊢
  have HB := Lib.hid hb
  clear hb
  have B1 := Lib.hid (K1.mono (T := (· = b)) (fun _ h => h.elim))
  clear K1
  go_wp2_with fail
  refine (awake_c _).mono ?_
  rintro e w2 ⟨rfl, hb2⟩
  have S2 := S1.keep (Kept.of_below hb2 (fun _ => False)) (fun h => h)
  have B2 := Lib.hid (B1.out.trans (Kept.of_below hb2 _))
  clear S1 B1 hb2
  go_wp2_with fail
  go_loopw [18] (fun i wr => ∃ k : Nat, k ≤ m ∧ i = .int .i64 k ∧ Stk wr b z k m ∧ Kept (· = b) w wr) (fun i _ => m - (intOf i).toNat)
  case atStart => exact ⟨0, Nat.zero_le _, rfl, S2, B2.out⟩
  case round =>
    obtain ⟨k, hk, rfl, S, K⟩ := hrel
    have K0 := Lib.hid K
    clear K
    by_cases hlt : k < m
    · have t1 : (k : Int) < 0 := by have := HM.out; omega
      have k64 : k < 64 := by have := S.m64; omega
      go_wp2_with fail
      refine (enter_zero b k m _ S hlt).mono ?_
      rintro e w3 ⟨rfl, S3, K3⟩
      have K4 := Lib.hid (K0.out.trans K3)
      clear K3
      go_wp2_with fail
      have C := depth_c b (k + 1) m z _ S3
      rw [show ((k + 1 : Nat) : Int) = (k : Int) + 1 from rfl] at C
      refine C.mono ?_
      rintro e w4 ⟨rfl, rfl⟩
      clear C
      go_wp2_with fail
      go_roundw
      case rel => exact ⟨k + 1, by omega, by go_num, S3, K4.out⟩
      case measure => simp [intOf]; omega
    · obtain rfl : k = m := by omega
      have t1 : ¬(k : Int) < 0 := by have := HM.out; omega
      go_wp2_with fail
      refine (enter_all b k _ S).mono ?_
      rintro e w3 ⟨rfl, S3, K3⟩
      have K4 := Lib.hid (K0.out.trans K3)
      clear K3 K0 S
      go_wp2_with fail
      obtain ⟨wo, hwo⟩ : ∃ wo : World, wo = w := ⟨w, rfl⟩
      go_loopw [36] (fun i wr => ∃ j : Nat, j ≤ k ∧ i = .int .i64 j ∧ Stk wr b z (k - j) k ∧ Kept (· = b) w wr) (fun i _ => k - (intOf i).toNat)
      case atStart => exact ⟨0, Nat.zero_le _, rfl, S3, K4.out⟩
      case round =>
        obtain ⟨j, hj, rfl, S, K⟩ := hrel
        have K0 := Lib.hid K
        clear K
        by_cases hjt : j < k
        · have t2 : (j : Int) < 0 := by have := HM.out; omega
          have k64 : k ≤ 64 := S.m64
          obtain ⟨q, hq⟩ : ∃ q, k - j = q + 1 := ⟨k - j - 1, by omega⟩
          rw [hq] at S
          go_wp2_with fail
          refine (leave_yes b q k z _ S rfl).mono ?_
          rintro e w5 ⟨rfl, S5, K5⟩
          have K6 := Lib.hid (K0.out.trans K5)
          clear K5
          go_wp2_with fail
          go_roundw
          case rel => exact ⟨j + 1, by omega, by go_num, by rw [show k - (j + 1) = q from by omega]; exact S5, K6.out⟩
          case measure => simp [intOf]; omega
        · obtain rfl : j = k := by omega
          have t2 : ¬(j : Int) < 0 := by have := HM.out; omega
          rw [Nat.sub_self] at S
          go_wp2_with fail
          refine (leave_none b j z _ S).mono ?_
          rintro e w5 ⟨rfl, S5, K5⟩
          go_wp2_with fail
          refine (depth_c b 0 j z _ S5).mono ?_
          rintro e w6 ⟨rfl, rfl⟩
          go_wp2_with fail
          refine (left_none b j z _ S5).mono ?_
          rintro e w6 ⟨rfl, S6, K6⟩
          go_wp2_with fail
          refine (take_none b j z _ S6).mono ?_
          rintro e w7 ⟨rfl, S7, K7⟩
          go_wp2_with fail
          go_ret
          exact ⟨rfl, Kept.below (Below.refl _ w) (((K0.out.trans K5).trans K6).trans K7) (fun i hi => by have := HB.out; omega)⟩

set_option maxHeartbeats 1000000 in
theorem walk_great (d : Int) (m : Nat) (w : World) (h0 : ¬d < 0) (h : 64 < d) (h1 : ¬d < 64) (hm : m = 64) (hc : clamp d = m) :
    Calls Try.prog 4 #[.int .i64 d] w fun e w' => e = .returned (.bool true) ∧ Below w.heap.size w w' := by
  have HM := Lib.hid hm
  clear hm
  have HC := Lib.hid hc
  clear hc
  go_enter Try.func4, Try.ntmps4
  go_wp2_with fail
  refine (new_c d _).mono ?_
  rintro e w1 ⟨rfl, S1, K1⟩
  rw [HC.out] at S1
  generalize hb : w.heap.size = b at S1 ⊢
  have HB := Lib.hid hb
  clear hb
  have B1 := Lib.hid (K1.mono (T := (· = b)) (fun _ h => h.elim))
  clear K1
  go_wp2_with fail
  refine (awake_c _).mono ?_
  rintro e w2 ⟨rfl, hb2⟩
  have S2 := S1.keep (Kept.of_below hb2 (fun _ => False)) (fun h => h)
  have B2 := Lib.hid (B1.out.trans (Kept.of_below hb2 _))
  clear S1 B1 hb2
  go_wp2_with fail
  go_loopw [18] (fun i wr => ∃ k : Nat, k ≤ m ∧ i = .int .i64 k ∧ Stk wr b z k m ∧ Kept (· = b) w wr) (fun i _ => m - (intOf i).toNat)
  case atStart => exact ⟨0, Nat.zero_le _, rfl, S2, B2.out⟩
  case round =>
    obtain ⟨k, hk, rfl, S, K⟩ := hrel
    have K0 := Lib.hid K
    clear K
    by_cases hlt : k < m
    · have t1 : (k : Int) < 64 := by have := HM.out; omega
      have k64 : k < 64 := by have := S.m64; omega
      go_wp2_with fail
      refine (enter_zero b k m _ S hlt).mono ?_
      rintro e w3 ⟨rfl, S3, K3⟩
      have K4 := Lib.hid (K0.out.trans K3)
      clear K3
      go_wp2_with fail
      have C := depth_c b (k + 1) m z _ S3
      rw [show ((k + 1 : Nat) : Int) = (k : Int) + 1 from rfl] at C
      refine C.mono ?_
      rintro e w4 ⟨rfl, rfl⟩
      clear C
      go_wp2_with fail
      go_roundw
      case rel => exact ⟨k + 1, by omega, by go_num, S3, K4.out⟩
      case measure => simp [intOf]; omega
    · obtain rfl : k = m := by omega
      have t1 : ¬(k : Int) < 64 := by have := HM.out; omega
      go_wp2_with fail
      refine (enter_all b k _ S).mono ?_
      rintro e w3 ⟨rfl, S3, K3⟩
      have K4 := Lib.hid (K0.out.trans K3)
      clear K3 K0 S
      go_wp2_with fail
      obtain ⟨wo, hwo⟩ : ∃ wo : World, wo = w := ⟨w, rfl⟩
      go_loopw [36] (fun i wr => ∃ j : Nat, j ≤ k ∧ i = .int .i64 j ∧ Stk wr b z (k - j) k ∧ Kept (· = b) w wr) (fun i _ => k - (intOf i).toNat)
      case atStart => exact ⟨0, Nat.zero_le _, rfl, S3, K4.out⟩
      case round =>
        obtain ⟨j, hj, rfl, S, K⟩ := hrel
        have K0 := Lib.hid K
        clear K
        by_cases hjt : j < k
        · have t2 : (j : Int) < 64 := by have := HM.out; omega
          have k64 : k ≤ 64 := S.m64
          obtain ⟨q, hq⟩ : ∃ q, k - j = q + 1 := ⟨k - j - 1, by omega⟩
          rw [hq] at S
          go_wp2_with fail
          refine (leave_yes b q k z _ S rfl).mono ?_
          rintro e w5 ⟨rfl, S5, K5⟩
          have K6 := Lib.hid (K0.out.trans K5)
          clear K5
          go_wp2_with fail
          go_roundw
          case rel => exact ⟨j + 1, by omega, by go_num, by rw [show k - (j + 1) = q from by omega]; exact S5, K6.out⟩
          case measure => simp [intOf]; omega
        · obtain rfl : j = k := by omega
          have t2 : ¬(j : Int) < 64 := by have := HM.out; omega
          rw [Nat.sub_self] at S
          go_wp2_with fail
          refine (leave_none b j z _ S).mono ?_
          rintro e w5 ⟨rfl, S5, K5⟩
          go_wp2_with fail
          refine (depth_c b 0 j z _ S5).mono ?_
          rintro e w6 ⟨rfl, rfl⟩
          go_wp2_with fail
          refine (left_none b j z _ S5).mono ?_
          rintro e w6 ⟨rfl, S6, K6⟩
          go_wp2_with fail
          refine (take_none b j z _ S6).mono ?_
          rintro e w7 ⟨rfl, S7, K7⟩
          go_wp2_with fail
          go_ret
          exact ⟨rfl, Kept.below (Below.refl _ w) (((K0.out.trans K5).trans K6).trans K7) (fun i hi => by have := HB.out; omega)⟩

set_option maxHeartbeats 1000000 in
theorem walk_mid (d : Int) (m : Nat) (w : World) (h0 : ¬d < 0) (h : ¬64 < d) (hm : d = m) (hc : clamp d = m) :
    Calls Try.prog 4 #[.int .i64 d] w fun e w' => e = .returned (.bool true) ∧ Below w.heap.size w w' := by
  subst hm
  have HC := Lib.hid hc
  clear hc
  go_enter Try.func4, Try.ntmps4
  go_wp2_with fail
  refine (new_c m _).mono ?_
  rintro e w1 ⟨rfl, S1, K1⟩
  rw [HC.out] at S1
  generalize hb : w.heap.size = b at S1 ⊢
  have HB := Lib.hid hb
  clear hb
  have B1 := Lib.hid (K1.mono (T := (· = b)) (fun _ h => h.elim))
  clear K1
  go_wp2_with fail
  refine (awake_c _).mono ?_
  rintro e w2 ⟨rfl, hb2⟩
  have S2 := S1.keep (Kept.of_below hb2 (fun _ => False)) (fun h => h)
  have B2 := Lib.hid (B1.out.trans (Kept.of_below hb2 _))
  clear S1 B1 hb2
  go_wp2_with fail
  go_loopw [18] (fun i wr => ∃ k : Nat, k ≤ m ∧ i = .int .i64 k ∧ Stk wr b z k m ∧ Kept (· = b) w wr) (fun i _ => m - (intOf i).toNat)
  case atStart => exact ⟨0, Nat.zero_le _, rfl, S2, B2.out⟩
  case round =>
    obtain ⟨k, hk, rfl, S, K⟩ := hrel
    have K0 := Lib.hid K
    clear K
    by_cases hlt : k < m
    · have t1 : (k : Int) < (m : Int) := by omega
      have k64 : k < 64 := by have := S.m64; omega
      go_wp2_with fail
      refine (enter_zero b k m _ S hlt).mono ?_
      rintro e w3 ⟨rfl, S3, K3⟩
      have K4 := Lib.hid (K0.out.trans K3)
      clear K3
      go_wp2_with fail
      have C := depth_c b (k + 1) m z _ S3
      rw [show ((k + 1 : Nat) : Int) = (k : Int) + 1 from rfl] at C
      refine C.mono ?_
      rintro e w4 ⟨rfl, rfl⟩
      clear C
      go_wp2_with fail
      go_roundw
      case rel => exact ⟨k + 1, by omega, by go_num, S3, K4.out⟩
      case measure => simp [intOf]; omega
    · obtain rfl : k = m := by omega
      have t1 : ¬(k : Int) < (k : Int) := by omega
      go_wp2_with fail
      refine (enter_all b k _ S).mono ?_
      rintro e w3 ⟨rfl, S3, K3⟩
      have K4 := Lib.hid (K0.out.trans K3)
      clear K3 K0 S
      go_wp2_with fail
      obtain ⟨wo, hwo⟩ : ∃ wo : World, wo = w := ⟨w, rfl⟩
      go_loopw [36] (fun i wr => ∃ j : Nat, j ≤ k ∧ i = .int .i64 j ∧ Stk wr b z (k - j) k ∧ Kept (· = b) w wr) (fun i _ => k - (intOf i).toNat)
      case atStart => exact ⟨0, Nat.zero_le _, rfl, S3, K4.out⟩
      case round =>
        obtain ⟨j, hj, rfl, S, K⟩ := hrel
        have K0 := Lib.hid K
        clear K
        by_cases hjt : j < k
        · have t2 : (j : Int) < (k : Int) := by omega
          have k64 : k ≤ 64 := S.m64
          obtain ⟨q, hq⟩ : ∃ q, k - j = q + 1 := ⟨k - j - 1, by omega⟩
          rw [hq] at S
          go_wp2_with fail
          refine (leave_yes b q k z _ S rfl).mono ?_
          rintro e w5 ⟨rfl, S5, K5⟩
          have K6 := Lib.hid (K0.out.trans K5)
          clear K5
          go_wp2_with fail
          go_roundw
          case rel => exact ⟨j + 1, by omega, by go_num, by rw [show k - (j + 1) = q from by omega]; exact S5, K6.out⟩
          case measure => simp [intOf]; omega
        · obtain rfl : j = k := by omega
          have t2 : ¬(j : Int) < (j : Int) := by omega
          rw [Nat.sub_self] at S
          go_wp2_with fail
          refine (leave_none b j z _ S).mono ?_
          rintro e w5 ⟨rfl, S5, K5⟩
          go_wp2_with fail
          refine (depth_c b 0 j z _ S5).mono ?_
          rintro e w6 ⟨rfl, rfl⟩
          go_wp2_with fail
          refine (left_none b j z _ S5).mono ?_
          rintro e w6 ⟨rfl, S6, K6⟩
          go_wp2_with fail
          refine (take_none b j z _ S6).mono ?_
          rintro e w7 ⟨rfl, S7, K7⟩
          go_wp2_with fail
          go_ret
          exact ⟨rfl, Kept.below (Below.refl _ w) (((K0.out.trans K5).trans K6).trans K7) (fun i hi => by have := HB.out; omega)⟩

theorem walk (d : Int) (w : World) : Calls Try.prog 4 #[.int .i64 d] w fun e w' => e = .returned (.bool true) ∧ Below w.heap.size w w' := by
  by_cases h : d < 0
  · exact walk_neg d 0 w h rfl (by unfold clamp; rw [if_pos h])
  · by_cases h2 : 64 < d
    · exact walk_great d 64 w h h2 (by omega) rfl (by unfold clamp; rw [if_neg h, if_pos h2])
    · exact walk_mid d d.toNat w h h2 (by omega) (by unfold clamp; rw [if_neg h, if_neg h2])
end Go.Proofs.Ytejhgoihjmlmnaa.Depth
