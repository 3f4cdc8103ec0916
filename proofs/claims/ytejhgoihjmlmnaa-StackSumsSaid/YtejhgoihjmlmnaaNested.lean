/- Elements within each other, each of as many bytes as its outer one has left, can all be left when the innermost one's bytes came: the walk of StackNested. No condition beyond the kinds. -/
import Derived.Test.YtejhgoihjmlmnaaDepth
namespace Go.Proofs.Ytejhgoihjmlmnaa.Nested
open Go.RowKit Go.Proofs.Ytejhgoihjmlmnaa.Obj Go.Proofs.Ytejhgoihjmlmnaa.Depth
set_option linter.unusedVariables false

theorem step {a b c : World} (h1 : Below a.heap.size a b) (h2 : Below b.heap.size b c) : Below a.heap.size a c := h1.trans (h2.mono h1.size)

set_option maxHeartbeats 400000 in
theorem walk_out (n d : Int) (w : World) (h : n < 0 ∨ 500 < n ∨ d < 1 ∨ 64 < d) :
    Calls Try.prog 5 #[.int .i64 n, .int .i64 d] w fun e w' => e = .returned (.bool true) ∧ Below w.heap.size w w' := by
  have four : n < 0 ∨ (¬n < 0 ∧ 500 < n) ∨ (¬n < 0 ∧ ¬500 < n ∧ d < 1) ∨ (¬n < 0 ∧ ¬500 < n ∧ ¬d < 1 ∧ 64 < d) := by omega
  clear h
  rcases four with h | ⟨h0, h⟩ | ⟨h0, h1, h⟩ | ⟨h0, h1, h2, h⟩
  all_goals
    go_enter Try.func5, Try.ntmps5
    go_wp2_with fail
    refine (awake_c _).mono ?_
    rintro e w1 ⟨rfl, hb1⟩
    go_wp2_with fail
    refine (awake_c _).mono ?_
    rintro e w2 ⟨rfl, hb2⟩
    go_wp2_with fail
    go_ret
    exact ⟨rfl, step hb1 hb2⟩

def g (k : Nat) (v : Int) : Nat → Int := fun j => if j = k then v else 0
theorem g_at (k : Nat) (v : Int) : g k v k = v := by simp [g]
theorem g_zero (k : Nat) : g k 0 = z := by funext j; unfold g z; split <;> rfl
theorem upd_g (k : Nat) (u v : Int) : upd (g k u) k v = g k v := by funext j; unfold upd g; split <;> rfl
theorem upd_first (v : Int) : upd z 0 v = g 0 v := rfl
theorem upd_next (k : Nat) (v : Int) : upd (g k 0) (k + 1) v = g (k + 1) v := by
  funext j
  unfold upd g
  split
  · rfl
  · split <;> rfl
def F (i : Nat) (n : Int) : Nat → Int := if i = 0 then z else g (i - 1) n

theorem enter_F (b i m : Nat) (n : Int) (w : World) (h : Stk w b (F i n) i m) (hi : i < m) (h0 : 0 ≤ n) (h1 : n ≤ 500) :
    Calls Try.prog 10 #[.pointer (some ⟨b, 0, none⟩), .int .i64 n] w fun e w' => e = .returned (.int .i64 0) ∧ Stk w' b (g i n) (i + 1) m ∧ Kept (· = b) w w' := by
  cases i with
  | zero => exact (enter_first b m _ n w h h0 (by omega) hi).mono fun e w' ⟨he, S, K⟩ => ⟨he, S, K⟩
  | succ k =>
    have h' : Stk w b (g k n) (k + 1) m := h
    refine (enter_deep b k m (g k n) n w h' h0 (by rw [g_at]; omega) hi).mono fun e w' ⟨he, S, K⟩ => ⟨he, ?_, K⟩
    rw [g_at, Int.sub_self, upd_g, upd_next] at S
    exact S

set_option maxHeartbeats 2000000 in
theorem walk_within (n D : Nat) (w : World) (hn : n ≤ 500) (hd0 : 1 ≤ D) (hd : D ≤ 64) :
    Calls Try.prog 5 #[.int .i64 n, .int .i64 D] w fun e w' => e = .returned (.bool true) ∧ Below w.heap.size w w' := by
  have a0 : ¬(n : Int) < 0 := by omega
  have a1 : ¬(500 : Int) < n := by omega
  have a2 : ¬(D : Int) < 1 := by omega
  have a3 : ¬(64 : Int) < D := by omega
  have hc : clamp (D : Int) = D := by unfold clamp; rw [if_neg (by omega), if_neg (by omega)]; omega
  have HC := Lib.hid hc
  clear hc
  go_enter Try.func5, Try.ntmps5
  go_wp2_with fail
  refine (awake_c _).mono ?_
  rintro e w1 ⟨rfl, hb1⟩
  have A1 := Lib.hid hb1
  clear hb1
  go_wp2_with fail
  refine (new_c D _).mono ?_
  rintro e w2 ⟨rfl, S2, K2⟩
  rw [HC.out] at S2
  generalize hb : w1.heap.size = b at S2 ⊢
  have HB := Lib.hid hb
  clear hb
  have B2 := Lib.hid (K2.mono (T := (· = b)) (fun _ h => h.elim))
  clear K2
  go_wp2_with fail
  go_loopw [32] (fun i wr => ∃ k : Nat, k ≤ D ∧ i = .int .i64 k ∧ Stk wr b (F k n) k D ∧ Kept (· = b) w1 wr) (fun i _ => D - (intOf i).toNat)
  case atStart => exact ⟨0, Nat.zero_le _, rfl, S2, B2.out⟩
  case round =>
    obtain ⟨k, hk, rfl, S, K⟩ := hrel
    have K0 := Lib.hid K
    clear K
    by_cases hlt : k < D
    · have t1 : (k : Int) < (D : Int) := by omega
      go_wp2_with fail
      refine (enter_F b k D n _ S hlt (by omega) (by omega)).mono ?_
      rintro e w3 ⟨rfl, S3, K3⟩
      have K4 := Lib.hid (K0.out.trans K3)
      clear K3
      go_wp2_with fail
      have C := left_some b k D _ _ S3
      rw [g_at] at C
      refine C.mono ?_
      rintro e w4 ⟨rfl, S4, K5⟩
      have K6 := Lib.hid (K4.out.trans K5)
      clear C K5
      go_wp2_with fail
      go_roundw
      case rel => exact ⟨k + 1, by omega, by go_num, S4, K6.out⟩
      case measure => simp [intOf]; omega
    · obtain rfl : k = D := by omega
      have t1 : ¬(k : Int) < (k : Int) := by omega
      obtain ⟨q, rfl⟩ : ∃ q, k = q + 1 := ⟨k - 1, by omega⟩
      have S' : Stk wr b (g q n) (q + 1) (q + 1) := S
      clear S
      go_wp2_with fail
      obtain ⟨wo, hwo⟩ : ∃ wo : World, wo = wr := ⟨wr, rfl⟩
      go_loopw [46] (fun i wr => ∃ j : Nat, j ≤ n ∧ i = .int .i64 j ∧ Stk wr b (g q ((n : Int) - j)) (q + 1) (q + 1) ∧ Kept (· = b) w1 wr) (fun i _ => n - (intOf i).toNat)
      case atStart => exact ⟨0, Nat.zero_le _, rfl, by rw [show (n : Int) - ((0 : Nat) : Int) = n from by omega]; exact S', K0.out⟩
      case round =>
        obtain ⟨j, hj, rfl, S, K⟩ := hrel
        have K1 := Lib.hid K
        clear K
        by_cases hjt : j < n
        · have t2 : (j : Int) < (n : Int) := by omega
          go_wp2_with fail
          refine (leave_no b q (q + 1) _ _ S (by rw [g_at]; omega)).mono ?_
          rintro e w5 ⟨rfl, S5, K5⟩
          have K6 := Lib.hid (K1.out.trans K5)
          clear K5
          go_wp2_with fail
          refine (take_some b q (q + 1) _ _ S5 (by rw [g_at]; omega)).mono ?_
          rintro e w6 ⟨rfl, S6, K7⟩
          rw [g_at, upd_g] at S6
          have K8 := Lib.hid (K6.out.trans K7)
          clear K7
          go_wp2_with fail
          have C := left_some b q (q + 1) _ _ S6
          rw [g_at, show (n : Int) - j - 1 = n - 1 - j from by omega] at C
          refine C.mono ?_
          rintro e w7 ⟨rfl, S7, K9⟩
          have K10 := Lib.hid (K8.out.trans K9)
          clear C K9
          go_wp2_with fail
          go_roundw
          case rel => exact ⟨j + 1, by omega, by go_num, by rw [show (n : Int) - ((j + 1 : Nat) : Int) = n - 1 - j from by omega]; exact S7, K10.out⟩
          case measure => simp [intOf]; omega
        · obtain rfl : j = n := by omega
          have t2 : ¬(j : Int) < (j : Int) := by omega
          rw [Int.sub_self, g_zero] at S
          go_wp2_with fail
          obtain ⟨wp, hwp⟩ : ∃ wp : World, wp = wr := ⟨wr, rfl⟩
          go_loopw [67] (fun i wr => ∃ l : Nat, l ≤ q + 1 ∧ i = .int .i64 l ∧ Stk wr b z (q + 1 - l) (q + 1) ∧ Kept (· = b) w1 wr) (fun i _ => q + 1 - (intOf i).toNat)
          case atStart => exact ⟨0, Nat.zero_le _, rfl, S, K1.out⟩
          case round =>
            obtain ⟨l, hl, rfl, S, K⟩ := hrel
            have K2 := Lib.hid K
            clear K
            by_cases hlt : l < q + 1
            · have t3 : (l : Int) < (q : Int) + 1 := by omega
              obtain ⟨r, hr⟩ : ∃ r, q + 1 - l = r + 1 := ⟨q - l, by omega⟩
              rw [hr] at S
              go_wp2_with fail
              have C := depth_c b (r + 1) (q + 1) z _ S
              rw [show ((r + 1 : Nat) : Int) = (q : Int) + 1 - l from by omega] at C
              refine C.mono ?_
              rintro e w8 ⟨rfl, rfl⟩
              clear C
              go_wp2_with fail
              refine (leave_yes b r (q + 1) z _ S rfl).mono ?_
              rintro e w9 ⟨rfl, S9, K9⟩
              have K11 := Lib.hid (K2.out.trans K9)
              clear K9
              go_wp2_with fail
              go_roundw
              case rel => exact ⟨l + 1, by omega, by go_num, by rw [show q + 1 - (l + 1) = r from by omega]; exact S9, K11.out⟩
              case measure => simp [intOf]; omega
            · obtain rfl : l = q + 1 := by omega
              rw [Nat.sub_self] at S
              go_wp2_with fail
              refine (depth_c b 0 (q + 1) z _ S).mono ?_
              rintro e w8 ⟨rfl, rfl⟩
              go_wp2_with fail
              refine (leave_none b (q + 1) z _ S).mono ?_
              rintro e w9 ⟨rfl, S9, K9⟩
              go_wp2_with fail
              go_ret
              exact ⟨rfl, Kept.below A1.out (K2.out.trans K9) (fun i hi => by have := HB.out; have := A1.out.size; omega)⟩

theorem walk (n d : Int) (w : World) : Calls Try.prog 5 #[.int .i64 n, .int .i64 d] w fun e w' => e = .returned (.bool true) ∧ Below w.heap.size w w' := by
  by_cases h : n < 0 ∨ 500 < n ∨ d < 1 ∨ 64 < d
  · exact walk_out n d w h
  · obtain ⟨m, rfl⟩ : ∃ m : Nat, n = m := ⟨n.toNat, by omega⟩
    obtain ⟨D, rfl⟩ : ∃ D : Nat, d = D := ⟨d.toNat, by omega⟩
    exact walk_within m D w (by omega) (by omega) (by omega)
end Go.Proofs.Ytejhgoihjmlmnaa.Nested
