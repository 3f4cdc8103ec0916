/- For every number, every byte string and every place: what Put32 and Put64 print, and what Get32 finds, agree with the document's bytes. The walk. No condition beyond the kinds and the reach. -/
import Derived.Test.YtdkbfphpooedaaaLawc
import Derived.Deep.RegionHeld3
namespace Go.Proofs.Ytdkbfphpooedaaa.Word.LawPuts
set_option linter.unusedVariables false
open Go.RowKit

theorem walk_out (x : Int) (s : ByteArray) (k : Int) (w : World) (h : 200 < s.size) (h2 : s.size ≤ 140737488351232) : Calls Try.prog 3 #[.int .u64 x, .string s, .int .i64 k] w fun e w' => e = .returned (.bool true) ∧ Below w.heap.size w w' := by
  have h' : (200 : Int) < (s.size : Int) := by omega
  go_enter Try.func3, Try.ntmps3
  go_wp2_with fail
  refine (awake_c w).mono ?_
  rintro e w1 ⟨rfl, B1⟩
  go_wp2_with fail
  refine (awake_c w1).mono ?_
  rintro e w2 ⟨rfl, B2⟩
  go_wp2_with fail
  go_ret
  exact ⟨rfl, step B1 B2⟩
/-- The four calls that put x. -/
structure Four (x : Nat) (p q : ByteArray) : Prop where
  a : ∀ w, Calls Try.prog 13 #[.int .u32 ((x : Int) % 4294967296)] w fun e w' => e = .returned (.string p) ∧ Kept (fun i => w.heap.size ≤ i) w w'
  b : ∀ w, Calls Try.prog 14 #[.int .u64 x, .int .i64 4] w fun e w' => e = .returned (.string p) ∧ Kept (fun i => w.heap.size ≤ i) w w'
  c : ∀ w, Calls Try.prog 15 #[.int .u64 x] w fun e w' => e = .returned (.string q) ∧ Kept (fun i => w.heap.size ≤ i) w w'
  d : ∀ w, Calls Try.prog 14 #[.int .u64 x, .int .i64 8] w fun e w' => e = .returned (.string q) ∧ Kept (fun i => w.heap.size ≤ i) w w'
theorem four_of (x : Nat) (hX : x < 18446744073709551616) : Four x (strOfNums (be 4 x)) (strOfNums (be 8 x)) := by
  refine ⟨fun w => ?_, fun w => rput_c 4 x (by decide) hX w, fun w => put64_c x hX w, fun w => rput_c 8 x (by decide) hX w⟩
  have h := put32_c (x % 4294967296) (by omega) w
  rw [show be 4 (x % 4294967296) = be 4 x from be_mod 4 x, Int.natCast_emod] at h
  exact h
set_option maxHeartbeats 1000000 in
theorem walk_no (x : Nat) (s : ByteArray) (k : Int) (w : World) (hX : x < 18446744073709551616) (hk : k ≤ 9223372036854775807) (hk0 : -9223372036854775808 ≤ k) (h : s.size ≤ 200) (hno : k < 0 ∨ (¬k < 0 ∧ (s.size : Int) < k) ∨ (¬k < 0 ∧ ¬(s.size : Int) < k ∧ (s.size : Int) - k < 4)) : Calls Try.prog 3 #[.int .u64 x, .string s, .int .i64 k] w fun e w' => e = .returned (.bool true) ∧ Below w.heap.size w w' := by
  have h' : ¬(200 : Int) < (s.size : Int) := by omega
  have F := Lib.hid (four_of x hX)
  have G := Lib.hid (fun w => get32_no s k w hk (by omega) (by omega))
  generalize strOfNums (be 4 x) = p at F
  generalize strOfNums (be 8 x) = q at F
  rcases hno with n1 | ⟨n1, n2⟩ | ⟨n1, n2, n3⟩
  all_goals
    go_enter Try.func3, Try.ntmps3
    go_wp2_with fail
    refine (awake_c w).mono ?_
    rintro e w1 ⟨rfl, B⟩
    have K1 := Lib.hid (Kept.of_below B (fun i => w.heap.size ≤ i))
    have z1 := B.size
    clear B
    go_wp2_with fail
    refine (G.out w1).mono ?_
    rintro e w2 ⟨rfl, rfl⟩
    go_wp2_with fail
    refine (F.out.a _).mono ?_
    rintro e w3 ⟨rfl, K⟩
    have K2 := Lib.hid (K1.out.trans (K.mono (fun i hi => Nat.le_trans z1 hi)))
    have z2 := K2.out.size
    clear K
    go_wp2_with fail
    refine (F.out.b _).mono ?_
    rintro e w4 ⟨rfl, K⟩
    have K3 := Lib.hid (K2.out.trans (K.mono (fun i hi => Nat.le_trans z2 hi)))
    have z3 := K3.out.size
    clear K
    go_wp2_with fail
    refine (F.out.c _).mono ?_
    rintro e w5 ⟨rfl, K⟩
    have K4 := Lib.hid (K3.out.trans (K.mono (fun i hi => Nat.le_trans z3 hi)))
    have z4 := K4.out.size
    clear K
    go_wp2_with fail
    refine (F.out.d _).mono ?_
    rintro e w6 ⟨rfl, K⟩
    have K5 := Lib.hid (K4.out.trans (K.mono (fun i hi => Nat.le_trans z4 hi)))
    clear K
    go_wp2_with fail
    go_ret
    exact ⟨by first | rfl | (simp; done), Kept.below (Below.refl _ w) K5.out (fun i h => h)⟩
set_option maxHeartbeats 1000000 in
theorem walk_yes (x : Nat) (s : ByteArray) (k : Nat) (w : World) (hX : x < 18446744073709551616) (h : s.size ≤ 200) (hk : k + 4 ≤ s.size) : Calls Try.prog 3 #[.int .u64 x, .string s, .int .i64 k] w fun e w' => e = .returned (.bool true) ∧ Below w.heap.size w w' := by
  have h' : ¬(200 : Int) < (s.size : Int) := by omega
  have F := Lib.hid (four_of x hX)
  have G := Lib.hid (fun w => get32_ok s k w (by omega) hk)
  have E := be_of s k hk
  have hy := wd_lt (UInt8.toNat_lt (s[k]'(by omega))) (UInt8.toNat_lt (s[k+1]'(by omega))) (UInt8.toNat_lt (s[k+2]'(by omega))) (UInt8.toNat_lt (s[k+3]'(by omega)))
  generalize wd (s[k]'(by omega)).toNat (s[k+1]'(by omega)).toNat (s[k+2]'(by omega)).toNat (s[k+3]'(by omega)).toNat = y at G E hy
  have P := fun w => rput_c 4 y (by decide) (by omega) w
  rw [E] at P
  have P4 : Hid (∀ w, Calls Try.prog 14 #[.int .u64 y, .int .i64 4] w fun e w' => e = .returned (.string (s.extract k (k + 4))) ∧ Kept (fun i => w.heap.size ≤ i) w w') := P
  clear E P
  obtain ⟨k4, hk4⟩ : ∃ k4, k4 = k + 4 := ⟨_, rfl⟩
  rw [← hk4] at P4
  have v4 : IntKind.i64.wrap ((k : Int) + 4) = (k4 : Int) := by rw [IntKind.wrap_i64]; omega
  have v5 : (k : Int) ≤ (k4 : Int) := by omega
  have v6 : (k4 : Int) ≤ (s.size : Int) := by omega
  generalize strOfNums (be 4 x) = p at F
  generalize strOfNums (be 8 x) = q at F
  have n1 : ¬(k : Int) < 0 := by omega
  have n2 : ¬(s.size : Int) < (k : Int) := by omega
  have n3 : ¬(s.size : Int) - (k : Int) < 4 := by omega
  clear hk hk4
  go_enter Try.func3, Try.ntmps3
  go_wp2_with fail
  refine (awake_c w).mono ?_
  rintro e w1 ⟨rfl, B⟩
  have K0 := Lib.hid (Kept.of_below B (fun i => w.heap.size ≤ i))
  clear B
  go_wp2_with fail
  refine (G.out w1).mono ?_
  rintro e w2 ⟨rfl, K⟩
  have K1 := Lib.hid (kup K0.out K (fun i h => h.elim))
  have z1 := K1.out.size
  clear K
  go_wp2_with fail
  refine (F.out.a _).mono ?_
  rintro e w3 ⟨rfl, K⟩
  have K2 := Lib.hid (K1.out.trans (K.mono (fun i hi => Nat.le_trans z1 hi)))
  have z2 := K2.out.size
  clear K
  go_wp2_with fail
  refine (F.out.b _).mono ?_
  rintro e w4 ⟨rfl, K⟩
  have K3 := Lib.hid (K2.out.trans (K.mono (fun i hi => Nat.le_trans z2 hi)))
  have z3 := K3.out.size
  clear K
  go_wp2_with fail
  refine (F.out.c _).mono ?_
  rintro e w5 ⟨rfl, K⟩
  have K4 := Lib.hid (K3.out.trans (K.mono (fun i hi => Nat.le_trans z3 hi)))
  have z4 := K4.out.size
  clear K
  go_wp2_with fail
  refine (F.out.d _).mono ?_
  rintro e w6 ⟨rfl, K⟩
  have K5 := Lib.hid (K4.out.trans (K.mono (fun i hi => Nat.le_trans z4 hi)))
  have z5 := K5.out.size
  clear K
  go_wp2_with fail
  clear h' h hX
  have hwy : IntKind.u64.wrap (y : Int) = (y : Int) := Mul64.wrapN _ (by omega)
  clear hy
  go_region_held3 (fun _ => True) (trivial) (first | (go_at_call 14; refine (P4.out _).mono ?_; rintro e w7 ⟨rfl, K⟩))
  all_goals
    have K6 := Lib.hid (K5.out.drew.trans (K.mono (fun i hi => Nat.le_trans z5 hi)))
    clear K
    go_wp2_with fail
    go_ret
    exact ⟨by first | rfl | (simp; done), Kept.below (Below.refl _ w) K6.out (fun i h => h)⟩
theorem walk (x : Int) (s : ByteArray) (k : Int) (w : World) (hx : (Lit.int .u64 x).wf = true) (h2 : s.size ≤ 140737488351232) (hk : (Lit.int .i64 k).wf = true) : Calls Try.prog 3 #[.int .u64 x, .string s, .int .i64 k] w fun e w' => e = .returned (.bool true) ∧ Below w.heap.size w w' := by
  obtain ⟨hx0, hx1⟩ := wf_u64 hx
  obtain ⟨hk0, hk1⟩ := wf_i64 hk
  obtain ⟨x, rfl⟩ : ∃ m : Nat, x = m := ⟨x.toNat, by omega⟩
  by_cases h : 200 < s.size
  · exact walk_out x s k w h h2
  · by_cases hno : k < 0 ∨ (¬k < 0 ∧ (s.size : Int) < k) ∨ (¬k < 0 ∧ ¬(s.size : Int) < k ∧ (s.size : Int) - k < 4)
    · exact walk_no x s k w (by omega) (by omega) (by omega) (by omega) hno
    · obtain ⟨k, rfl⟩ : ∃ m : Nat, k = m := ⟨k.toNat, by omega⟩
      exact walk_yes x s k w (by omega) (by omega) (by omega)
end Go.Proofs.Ytdkbfphpooedaaa.Word.LawPuts
