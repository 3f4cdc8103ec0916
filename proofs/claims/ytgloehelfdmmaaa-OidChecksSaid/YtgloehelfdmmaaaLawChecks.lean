/- For every number and every content: Push and Wrong answer at each byte as the document does. The walk. No condition beyond the kinds and the reach. -/
import Derived.Test.YtgloehelfdmmaaaWrong
namespace Go.Proofs.Ytgloehelfdmmaaa.Oid.LawChecks
set_option linter.unusedVariables false
open Go.RowKit

theorem _root_.Go.Proofs.Ytgloehelfdmmaaa.Oid.St.drew {w : World} {h : Nat} {x : Int} {wn : Bool} (s : St w h x wn) : St w.drew h x wn := ⟨s.row⟩
theorem walk_out (n : Int) (c : ByteArray) (w : World) (h : 300 < c.size ∨ max n 0 < (c.size : Int)) (h2 : c.size ≤ 140737488351232) : Calls Try.prog 3 #[.int .i64 n, .string c] w fun e w' => e = .returned (.bool true) ∧ Below w.heap.size w w' := by
  have three : (300 : Int) < (c.size : Int) ∨ (¬(300 : Int) < (c.size : Int) ∧ 0 < n ∧ n < (c.size : Int)) ∨ (¬(300 : Int) < (c.size : Int) ∧ ¬0 < n ∧ (0 : Int) < (c.size : Int)) := by omega
  clear h
  rcases three with h | ⟨h, h0, h1⟩ | ⟨h, h0, h1⟩
  · go_enter Try.func3, Try.ntmps3
    go_wp2_with fail
    refine (awake_c w).mono ?_
    rintro e w1 ⟨rfl, B1⟩
    go_wp2_with fail
    refine (awake_c w1).mono ?_
    rintro e w2 ⟨rfl, B2⟩
    go_wp2_with fail
    go_ret
    exact ⟨rfl, step B1 B2⟩
  · have q1 : ¬n < 0 := by omega
    go_enter Try.func3, Try.ntmps3
    go_wp2_with fail
    refine (awake_c w).mono ?_
    rintro e w1 ⟨rfl, B1⟩
    go_wp2_with fail
    refine (awake_c w1).mono ?_
    rintro e w2 ⟨rfl, B2⟩
    go_wp2_with fail
    go_ret
    exact ⟨rfl, step B1 B2⟩
  · rcases Int.lt_or_eq_of_le (Int.not_lt.1 h0) with h4 | rfl
    · go_enter Try.func3, Try.ntmps3
      go_wp2_with fail
      refine (awake_c w).mono ?_
      rintro e w1 ⟨rfl, B1⟩
      go_wp2_with fail
      refine (awake_c w1).mono ?_
      rintro e w2 ⟨rfl, B2⟩
      go_wp2_with fail
      go_ret
      exact ⟨rfl, step B1 B2⟩
    · go_enter Try.func3, Try.ntmps3
      go_wp2_with fail
      refine (awake_c w).mono ?_
      rintro e w1 ⟨rfl, B1⟩
      go_wp2_with fail
      refine (awake_c w1).mono ?_
      rintro e w2 ⟨rfl, B2⟩
      go_wp2_with fail
      go_ret
      exact ⟨rfl, step B1 B2⟩
theorem wr_next (n : Int) (wn : Bool) (k : Nat) (b : Int) (r : List Int) (R : Int) (h : wr n wn k (b :: r) = R) :
    (((wn = false ∧ b = 128) ∨ (n - k = 1 ∧ 128 ≤ b)) → R = (k : Int) + 1) ∧ (¬((wn = false ∧ b = 128) ∨ (n - k = 1 ∧ 128 ≤ b)) → R ≠ (k : Int) + 1 ∧ wr n (decide (127 < b)) (k + 1) r = R) := by
  rw [wr] at h
  constructor
  · intro hc
    rw [if_pos (by rcases hc with hc | hc; exact .inl ⟨hc.2, hc.1⟩; exact .inr (by omega))] at h
    exact h.symm
  · intro hc
    rw [if_neg (by rintro (h2 | h2); exact hc (.inl ⟨h2.2, h2.1⟩); exact hc (.inr (by omega)))] at h
    refine ⟨?_, h⟩
    rcases wr_ge n r (decide (127 < b)) (k + 1) with h3 | h3
    · rw [h] at h3; omega
    · rw [h] at h3; omega
set_option maxHeartbeats 1000000 in
theorem walk_low (n : Int) (w : World) (h : n < 1) : Calls Try.prog 3 #[.int .i64 n, .string ⟨#[]⟩] w fun e w' => e = .returned (.bool true) ∧ Below w.heap.size w w' := by
  have hm : 0 < n ∨ n < 0 ∨ n = 0 := by omega
  have WR := wrong_c n ⟨#[]⟩
  rw [show wrongS n ⟨#[]⟩ = 0 from if_pos h] at WR
  have HWR := Lib.hid WR
  clear WR
  rcases hm with hm | hm | rfl
  · omega
  all_goals
    go_enter Try.func3, Try.ntmps3
    go_wp2_with fail
    refine (awake_c w).mono ?_
    rintro e w1 ⟨rfl, B1⟩
    go_wp2_with fail
    refine (HWR.out w1 (by decide) (by omega)).mono ?_
    rintro e w2 ⟨rfl, rfl⟩
    go_wp2_with fail
    refine (start_no _ w1 h).mono ?_
    rintro e w2 ⟨rfl, K2⟩
    have K3 := Lib.hid ((kup (Kept.of_below B1 (fun i => w.heap.size ≤ i)) K2 (fun i h => h.elim)).alloc (.cells #[.int .i64 0, .bool false] 25))
    go_wp2_with fail
    generalize w2.alloc (.cells #[.int .i64 0, .bool false] 25) = w3 at K3 ⊢
    go_loopw [38] (fun i wr => i = .int .i64 0 ∧ wr = w3) (fun _ _ => 0)
    case atStart => exact ⟨rfl, rfl⟩
    case round =>
      obtain ⟨rfl, rfl⟩ := hrel
      go_wp2_with fail
      go_ret
      exact ⟨rfl, Kept.below (Below.refl _ w) K3.out (fun i h => h)⟩
set_option maxHeartbeats 2000000 in
theorem walk_within (n : Int) (c : ByteArray) (w : World) (h : c.size ≤ 300) (h1 : 1 ≤ n) (h2 : (c.size : Int) ≤ n) (hn : n ≤ 9223372036854775807) : Calls Try.prog 3 #[.int .i64 n, .string c] w fun e w' => e = .returned (.bool true) ∧ Below w.heap.size w w' := by
  have t1 : ¬(300 : Int) < (c.size : Int) := by omega
  have t2 : ¬n < (c.size : Int) := by omega
  have t3 : 0 < n := by omega
  have t4 : ¬n < 0 := by omega
  obtain ⟨R, hR⟩ : ∃ R, R = wrongS n c := ⟨_, rfl⟩
  have WR := Lib.hid (fun w => wrong_c n c w (by omega) hn)
  rw [← hR] at WR
  have HR0 : Hid (wr n (wnk (bl c) 0) 0 ((bl c).drop 0) = R) := by
    show wr n (wnk (bl c) 0) 0 ((bl c).drop 0) = R
    rw [hR, wrongS, if_neg (by omega)]
    rfl
  have hR0 : R ≠ 0 := by
    rcases wr_ge n (bl c) false 0 with h | h
    · rw [hR, wrongS, if_neg (by omega), h]; omega
    · rw [hR, wrongS, if_neg (by omega)]; omega
  have q0 : (R != 0) = true := by simpa using hR0
  clear hR hR0
  go_enter Try.func3, Try.ntmps3
  go_wp2_with fail
  refine (awake_c w).mono ?_
  rintro e w1 ⟨rfl, B1⟩
  have hw1 := B1.size
  have K1 := Lib.hid (Kept.of_below B1 (fun i => w.heap.size ≤ i))
  clear B1
  go_wp2_with fail
  refine (WR.out w1).mono ?_
  rintro e w2 ⟨rfl, rfl⟩
  go_wp2_with fail
  refine (start_ok n w1 h1).mono ?_
  rintro e w2 ⟨rfl, K2⟩
  have hw2 : w.heap.size ≤ w2.heap.size := Nat.le_trans hw1 K2.size
  have K3 := Lib.hid ((kup K1.out K2 (fun i h => h.elim)).alloc (.cells #[.int .i64 n, .bool false] 25))
  have S3 : St (w2.alloc (.cells #[.int .i64 n, .bool false] 25)) w2.heap.size n false := ⟨heap_alloc_new _ _⟩
  clear K2 K1
  go_wp2_with fail
  generalize w2.alloc (.cells #[.int .i64 n, .bool false] 25) = w3 at K3 S3 ⊢
  generalize w2.heap.size = hb at S3 hw2 ⊢
  go_loopw [38, 7] (fun i ok wx => ∃ (k : Nat) (o : Bool) (x : Int) (wn : Bool), k ≤ c.size ∧ i = .int .i64 k ∧ ok = .bool o ∧ St wx hb x wn ∧ (o = true → x = n - k ∧ wr n wn k ((bl c).drop k) = R) ∧ Kept (fun i => w.heap.size ≤ i) w wx) (fun i _ _ => c.size - (intOf i).toNat)
  case atStart => exact ⟨0, true, n, false, by omega, rfl, rfl, S3, fun _ => ⟨by simp, HR0.out⟩, K3.out⟩
  case round =>
    obtain ⟨k, o, x, wn, hk, rfl, rfl, S, ho, K⟩ := hrel
    have HS := Lib.hid S
    have HO := Lib.hid ho
    have K4 := Lib.hid K
    clear S ho K S3 K3 HR0
    by_cases hlt : k < c.size
    · have t5 : (k : Int) < (c.size : Int) := by omega
      cases o with
      | false =>
        go_wp2_with fail
        go_ret
        exact ⟨rfl, Kept.below (Below.refl _ w) K4.out (fun i h => h)⟩
      | true =>
        obtain ⟨rfl, hr⟩ := HO.out rfl
        have hbb := byte_at c k hlt
        rw [bl_drop c k hlt] at hr
        obtain ⟨b, hbe⟩ : ∃ b : Int, ((c[k]'hlt).toNat : Int) = b := ⟨_, rfl⟩
        rw [hbe] at hbb hr
        have HBB := Lib.hid hbb
        obtain ⟨b0, b1⟩ := hbb
        have HN := Lib.hid (wr_next n wn k b _ R hr)
        have d0 := HS.out.c0
        have d1 := HS.out.c1
        have f0 := HS.out.fr 0
        have f1 := HS.out.fr 1
        have HSz := Lib.hid (Array.getElem?_eq_some_iff.1 HS.out.row).1
        clear hr HO
        by_cases hp : (wn = false ∧ b = 128) ∨ (n - k = 1 ∧ 128 ≤ b)
        · have HP := Lib.hid hp
          have hRk := HN.out.1 hp
          have q1 : (R != (k : Int) + 1) = false := by simp [hRk]
          clear hp hRk
          go_wp2_with fail
          go_region_with ((go_at_call 12; refine (push_no (n - k) wn b _ (by omega) (by omega) HBB.out HP.out).mono ?_; rintro e w5 ⟨rfl, K5⟩; have e0 := (HS.out.drew.keep K5 (fun h => h)).c0; have e1 := (HS.out.drew.keep K5 (fun h => h)).c1; have g0 := (HS.out.drew.keep K5 (fun h => h)).fr 0; have g1 := (HS.out.drew.keep K5 (fun h => h)).fr 1))
          all_goals
            have S6 := Lib.hid ((HS.out.drew.keep K5 (fun h => h)).set 0 false)
            have K6 := Lib.hid (((kup K4.out.drew K5 (fun i h => h.elim)).setCell (p := ⟨hb, 0, none⟩) hw2 (.int .i64 0)).setCell (p := ⟨hb, 1, none⟩) hw2 (.bool false))
            clear K5 K4 HS
            go_wp2_with fail
            go_roundw
            case rel => exact ⟨k + 1, false, 0, false, by omega, by go_num, rfl, S6.out, fun h => by simp at h, K6.out⟩
            case measure => simp [intOf]; omega
        · have HP := Lib.hid hp
          have hRk := HN.out.2 hp
          have HNX := Lib.hid hRk.2
          have q1 : (R != (k : Int) + 1) = true := by simp [hRk.1]
          clear hp hRk
          go_wp2_with fail
          go_region_with ((go_at_call 12; refine (push_ok (n - k) wn b _ (by omega) (by omega) HBB.out HP.out).mono ?_; rintro e w5 ⟨rfl, K5⟩; have e0 := (HS.out.drew.keep K5 (fun h => h)).c0; have e1 := (HS.out.drew.keep K5 (fun h => h)).c1; have g0 := (HS.out.drew.keep K5 (fun h => h)).fr 0; have g1 := (HS.out.drew.keep K5 (fun h => h)).fr 1))
          all_goals
            have S6 := Lib.hid ((HS.out.drew.keep K5 (fun h => h)).set (n - k - 1) (decide (127 < b)))
            have K6 := Lib.hid (((kup K4.out.drew K5 (fun i h => h.elim)).setCell (p := ⟨hb, 0, none⟩) hw2 (.int .i64 (n - k - 1))).setCell (p := ⟨hb, 1, none⟩) hw2 (.bool (decide (127 < b))))
            clear K5 K4 HS
            go_wp2_with fail
            go_roundw
            case rel => exact ⟨k + 1, true, n - k - 1, decide (127 < b), by omega, by go_num, rfl, S6.out, fun _ => ⟨by omega, HNX.out⟩, K6.out⟩
            case measure => simp [intOf]; omega
    · obtain rfl : k = c.size := by omega
      have t5 : ¬(c.size : Int) < (c.size : Int) := by omega
      go_wp2_with fail
      go_ret
      exact ⟨rfl, Kept.below (Below.refl _ w) K4.out (fun i h => h)⟩
theorem walk (n : Int) (c : ByteArray) (w : World) (h2 : c.size ≤ 140737488351232) (hn : (Lit.int .i64 n).wf = true) : Calls Try.prog 3 #[.int .i64 n, .string c] w fun e w' => e = .returned (.bool true) ∧ Below w.heap.size w w' := by
  have hb : n ≤ 9223372036854775807 := by
    simp [Lit.wf, IntKind.min, IntKind.max, IntKind.signed, IntKind.bits] at hn
    omega
  by_cases h : 300 < c.size ∨ max n 0 < (c.size : Int)
  · exact walk_out n c w h h2
  · by_cases h1 : n < 1
    · obtain rfl : c = ⟨#[]⟩ := by
        cases c with
        | mk d => have : d.size = 0 := by
                    have h3 : ¬(300 < d.size ∨ max n 0 < (d.size : Int)) := h
                    omega
                  rw [Array.eq_empty_of_size_eq_zero this]
      exact walk_low n w h1
    · exact walk_within n c w (by omega) (by omega) (by omega) hb
end Go.Proofs.Ytgloehelfdmmaaa.Oid.LawChecks
