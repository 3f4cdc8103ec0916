/- Never more is kept than can be: with the first byte too many it is told, once, and it isn't on any more: the walk of CaptureStops. No condition beyond the kinds and the reach. -/
import Derived.Test.YtgnmianhbbchgaaAwake
namespace Go.Proofs.Ytgnmianhbbchgaa.Stops
open Go.RowKit Go.Proofs.Ytgnmianhbbchgaa.Obj
set_option linter.unusedVariables false

set_option maxHeartbeats 400000 in
theorem walk_out (d : Int) (a s : ByteArray) (w : World) (h : 300 < a.size ∨ 300 < s.size) :
    Calls Try.prog 3 #[.int .i64 d, .string a, .string s] w fun e w' => e = .returned (.bool true) ∧ Below w.heap.size w w' := by
  have two : (300 : Int) < (a.size : Int) ∨ (¬(300 : Int) < (a.size : Int) ∧ (300 : Int) < (s.size : Int)) := by omega
  clear h
  rcases two with h | ⟨h0, h⟩
  all_goals
    go_enter Try.func3, Try.ntmps3
    go_wp2_with fail
    refine (new_c d _).mono ?_
    rintro e w1 ⟨rfl, S1, K1⟩
    have B1 := Lib.hid (Kept.below (Below.refl _ w) K1 (fun _ h => h.elim))
    clear S1 K1
    generalize hb : w.heap.size = g
    go_wp2_with fail
    refine (awake_c _).mono ?_
    rintro e w2 ⟨rfl, hb2⟩
    go_wp2_with fail
    refine (awake_c _).mono ?_
    rintro e w3 ⟨rfl, hb3⟩
    go_wp2_with fail
    go_ret
    subst hb
    exact ⟨rfl, Obj.step (Obj.step B1.out hb2) hb3⟩

theorem text_take_q (b g most : Nat) (x : ByteArray) (k : Nat) (on : Bool) (w : World) (n : Nat) (h : Cap w b g ((bl x).take k) on most) :
    Calls Try.prog 12 #[.pointer (some ⟨b, 0, none⟩)] (w.drewN n) fun e w' => e = .returned (.string (x.extract 0 k)) ∧ ∃ m, w' = w.drewN m := by
  have C := text_q b g most _ on w n h
  rw [strOfNums_take] at C
  exact C
theorem room_zero_q (b g most : Nat) (l : List Int) (on : Bool) (w : World) (n : Nat) (h : Cap w b g l on most) (h0 : (most : Int) - (l.length : Int) = 0) :
    Calls Try.prog 13 #[.pointer (some ⟨b, 0, none⟩)] (w.drewN n) fun e w' => e = .returned (.int .i64 0) ∧ ∃ m, w' = w.drewN m := by
  have C := room_q b g most l on w n h
  rw [h0] at C
  exact C

/-- how often it is told -/
def told (m n : Nat) : Int := if n ≤ m then 0 else 1

set_option maxHeartbeats 2000000 in
theorem walk_neg_fits (d : Int) (m : Nat) (a s : ByteArray) (w : World) (ha : a.size ≤ 300) (hs : s.size ≤ 300) (h : d < 0) (hm : m = 0) (hc : clamp d = m) (hfit : a.size + s.size ≤ m) :
    Calls Try.prog 3 #[.int .i64 d, .string a, .string s] w fun e w' => e = .returned (.bool true) ∧ Below w.heap.size w w' := by
  have HC := Lib.hid hc
  clear hc
  have HF := Lib.hid hfit
  clear hfit
  have z0 : ¬(300 : Int) < (a.size : Int) := by omega
  have z1 : ¬(300 : Int) < (s.size : Int) := by omega
  have zz : a.size + s.size ≤ 9223372036854775807 := by omega
  have es : (a ++ s).size = a.size + s.size := ByteArray.size_append
  go_enter Try.func3, Try.ntmps3
  go_wp2_with fail
  refine (new_c d _).mono ?_
  rintro e w1 ⟨rfl, S1, K1⟩
  rw [HC.out] at S1
  generalize hb : w.heap.size = g at S1 ⊢
  have HB := Lib.hid hb
  clear hb
  have B1 := Lib.hid (K1.mono (T := fun k => k = g + 1 ∨ k = g) (fun _ h => h.elim))
  clear K1
  go_wp2_with fail
  refine (awake_c _).mono ?_
  rintro e w2 ⟨rfl, hb2⟩
  have S2 := S1.keep (Kept.of_below hb2 (fun _ => False)) (fun h => h) (fun h => h)
  have B2 := Lib.hid (B1.out.trans (Kept.of_below hb2 _))
  clear S1 B1 hb2
  go_wp2_with fail
  have CB : Calls Try.prog 9 #[.pointer (some ⟨g + 1, 0, none⟩), .string a] w2 fun e w' => e = .returned (.int .i64 0) ∧ Cap w' (g + 1) g ((bl (a ++ s)).take (min m a.size)) true m ∧ Kept (fun k => k = g + 1 ∨ k = g) w2 w' := by
    have hle : a.size ≤ m := by have := HF.out; omega
    rw [show min m a.size = a.size from by omega, take_first a s a.size (Nat.le_refl _), List.take_of_length_le (by rw [bl_length]; omega)]
    exact begin_fits (g + 1) g m _ _ a _ S2 hle
  refine CB.mono ?_
  rintro e w3 ⟨rfl, S3, K3⟩
  have B3 := Lib.hid (B2.out.trans K3)
  clear CB K3 S2 B2
  go_wp2_with fail
  have ES := Lib.hid es
  clear es
  go_loopw [10, 44] (fun c i wr => ∃ k : Nat, k ≤ s.size ∧ i = .int .i64 k ∧ c = .int .i64 (told m (a.size + k)) ∧ Cap wr (g + 1) g ((bl (a ++ s)).take (min m (a.size + k))) (decide (a.size + k ≤ m)) m ∧ Kept (fun k => k = g + 1 ∨ k = g) w wr) (fun _ i _ => s.size - (intOf i).toNat)
  case atStart => exact ⟨0, Nat.zero_le _, rfl, by simp only [told, Nat.add_zero]; rw [if_pos (by have := HF.out; omega)], by simp only [Nat.add_zero]; rw [show decide (a.size ≤ m) = true from by have := HF.out; simp; omega]; exact S3, B3.out⟩
  case round =>
    obtain ⟨k, hk, rfl, rfl, S, K⟩ := hrel
    have K0 := Lib.hid K
    clear K
    by_cases hlt : k < s.size
    · have t1 : (k : Int) < (s.size : Int) := by omega
      have hll : ((bl (a ++ s)).take (min m (a.size + k))).length = min m (a.size + k) := by rw [List.length_take, bl_length, ES.out]; omega
      have HLL := Lib.hid hll
      clear hll
      by_cases h1 : a.size + k < m
      · rw [show decide (a.size + k ≤ m) = true from by simp; omega, show min m (a.size + k) = a.size + k from by omega] at S
        have HT := Lib.hid (take_both a s k hlt)
        rw [show told m (a.size + k) = 0 from by unfold told; rw [if_pos (by omega)]]
        go_wp2_with fail
        refine (push_ok (g + 1) g m _ _ _ S (by have := HLL.out; rw [show min m (a.size + k) = a.size + k from by omega] at this; omega)).mono ?_
        rintro e w4 ⟨rfl, S4, K4⟩
        have K5 := Lib.hid (K0.out.trans K4)
        clear K4
        rw [← HT.out] at S4
        go_wp2_with fail
        go_roundw
        case rel => exact ⟨k + 1, by omega, by go_num, by unfold told; rw [if_pos (by omega)], by rw [show decide (a.size + (k + 1) ≤ m) = true from by simp; omega, show min m (a.size + (k + 1)) = a.size + k + 1 from by omega]; exact S4, K5.out⟩
        case measure => simp [intOf]; omega
      · by_cases h2 : a.size + k = m
        · rw [show decide (a.size + k ≤ m) = true from by simp; omega] at S
          have hl2 := HLL.out
          rw [show min m (a.size + k) = m from by omega] at S hl2
          have S' : Cap wr (g + 1) g ((bl (a ++ s)).take m) true ((bl (a ++ s)).take m).length := by rw [hl2]; exact S
          have HL2 := Lib.hid hl2
          clear hl2
          rw [show told m (a.size + k) = 0 from by unfold told; rw [if_pos (by omega)]]
          have H2 := Lib.hid h2
          clear h2
          go_wp2_with fail
          refine (push_full (g + 1) g _ _ _ S').mono ?_
          rintro e w4 ⟨rfl, S4, K4⟩
          have K5 := Lib.hid (K0.out.trans (K4.mono (fun _ h => Or.inl h)))
          clear K4
          rw [HL2.out] at S4
          go_wp2_with fail
          go_roundw
          case rel => exact ⟨k + 1, by omega, by go_num, by have := H2.out; unfold told; rw [if_neg (by omega)], by have := H2.out; rw [show decide (a.size + (k + 1) ≤ m) = false from by simp; omega, show min m (a.size + (k + 1)) = m from by omega]; exact S4, K5.out⟩
          case measure => simp [intOf]; omega
        · rw [show decide (a.size + k ≤ m) = false from by simp; omega, show min m (a.size + k) = m from by omega] at S
          rw [show told m (a.size + k) = 1 from by unfold told; rw [if_neg (by omega)]]
          go_wp2_with fail
          refine (push_off (g + 1) g m _ _ _ S).mono ?_
          rintro e w4 ⟨rfl, rfl⟩
          go_wp2_with fail
          go_roundw
          case rel => exact ⟨k + 1, by omega, by go_num, by unfold told; rw [if_neg (by omega)], by rw [show decide (a.size + (k + 1) ≤ m) = false from by simp; omega, show min m (a.size + (k + 1)) = m from by omega]; exact S, K0.out⟩
          case measure => simp [intOf]; omega
    · obtain rfl : k = s.size := by omega
      have t1 : ¬(s.size : Int) < (s.size : Int) := by omega
      have es := ES.out
      have hall : a.size + s.size ≤ m := by have := HF.out; omega
      rw [show told m (a.size + s.size) = 0 from by unfold told; rw [if_pos hall]]
      rw [show decide (a.size + s.size ≤ m) = true from by simp; omega, List.take_of_length_le (by rw [bl_length, es]; omega)] at S
      have t2 : (a.size : Int) + (s.size : Int) ≤ (0 : Int) := by omega
      have CT := text_c (g + 1) g _ _ _ _ S
      rw [strOfNums_bl] at CT
      have CR := room_c (g + 1) g _ _ _ _ S
      rw [bl_length, show (m : Int) = (0 : Int) from by omega, show ((a ++ s).size : Int) = (a.size : Int) + (s.size : Int) from by rw [es]; omega] at CR
      have HA := Lib.hid hall
      clear hall es
      go_wp2_with fail
      refine (on_c (g + 1) g _ _ _ _ S).mono ?_
      rintro e w5 ⟨rfl, rfl⟩
      go_wp2_with fail
      refine CT.mono ?_
      rintro e w5 ⟨rfl, rfl⟩
      go_wp2_with fail
      refine CR.mono ?_
      rintro e w5 ⟨rfl, S5, K5⟩
      go_wp2_with fail
      go_ret
      exact ⟨by first | rfl | (simp; done) | (simp; omega), Kept.below (Below.refl _ w) (K0.out.trans (K5.mono (fun _ h => h.elim))) (fun i hi => by have := HB.out; omega)⟩

set_option maxHeartbeats 2000000 in
theorem walk_neg_over (d : Int) (m : Nat) (a s : ByteArray) (w : World) (ha : a.size ≤ 300) (hs : s.size ≤ 300) (h : d < 0) (hm : m = 0) (hc : clamp d = m) (hfit : a.size ≤ m ∧ m < a.size + s.size) :
    Calls Try.prog 3 #[.int .i64 d, .string a, .string s] w fun e w' => e = .returned (.bool true) ∧ Below w.heap.size w w' := by
  have HC := Lib.hid hc
  clear hc
  have HF := Lib.hid hfit
  clear hfit
  have z0 : ¬(300 : Int) < (a.size : Int) := by omega
  have z1 : ¬(300 : Int) < (s.size : Int) := by omega
  have zz : a.size + s.size ≤ 9223372036854775807 := by omega
  have es : (a ++ s).size = a.size + s.size := ByteArray.size_append
  go_enter Try.func3, Try.ntmps3
  go_wp2_with fail
  refine (new_c d _).mono ?_
  rintro e w1 ⟨rfl, S1, K1⟩
  rw [HC.out] at S1
  generalize hb : w.heap.size = g at S1 ⊢
  have HB := Lib.hid hb
  clear hb
  have B1 := Lib.hid (K1.mono (T := fun k => k = g + 1 ∨ k = g) (fun _ h => h.elim))
  clear K1
  go_wp2_with fail
  refine (awake_c _).mono ?_
  rintro e w2 ⟨rfl, hb2⟩
  have S2 := S1.keep (Kept.of_below hb2 (fun _ => False)) (fun h => h) (fun h => h)
  have B2 := Lib.hid (B1.out.trans (Kept.of_below hb2 _))
  clear S1 B1 hb2
  go_wp2_with fail
  have CB : Calls Try.prog 9 #[.pointer (some ⟨g + 1, 0, none⟩), .string a] w2 fun e w' => e = .returned (.int .i64 0) ∧ Cap w' (g + 1) g ((bl (a ++ s)).take (min m a.size)) true m ∧ Kept (fun k => k = g + 1 ∨ k = g) w2 w' := by
    have hle : a.size ≤ m := by have := HF.out; omega
    rw [show min m a.size = a.size from by omega, take_first a s a.size (Nat.le_refl _), List.take_of_length_le (by rw [bl_length]; omega)]
    exact begin_fits (g + 1) g m _ _ a _ S2 hle
  refine CB.mono ?_
  rintro e w3 ⟨rfl, S3, K3⟩
  have B3 := Lib.hid (B2.out.trans K3)
  clear CB K3 S2 B2
  go_wp2_with fail
  have ES := Lib.hid es
  clear es
  go_loopw [10, 44] (fun c i wr => ∃ k : Nat, k ≤ s.size ∧ i = .int .i64 k ∧ c = .int .i64 (told m (a.size + k)) ∧ Cap wr (g + 1) g ((bl (a ++ s)).take (min m (a.size + k))) (decide (a.size + k ≤ m)) m ∧ Kept (fun k => k = g + 1 ∨ k = g) w wr) (fun _ i _ => s.size - (intOf i).toNat)
  case atStart => exact ⟨0, Nat.zero_le _, rfl, by simp only [told, Nat.add_zero]; rw [if_pos (by have := HF.out; omega)], by simp only [Nat.add_zero]; rw [show decide (a.size ≤ m) = true from by have := HF.out; simp; omega]; exact S3, B3.out⟩
  case round =>
    obtain ⟨k, hk, rfl, rfl, S, K⟩ := hrel
    have K0 := Lib.hid K
    clear K
    by_cases hlt : k < s.size
    · have t1 : (k : Int) < (s.size : Int) := by omega
      have hll : ((bl (a ++ s)).take (min m (a.size + k))).length = min m (a.size + k) := by rw [List.length_take, bl_length, ES.out]; omega
      have HLL := Lib.hid hll
      clear hll
      by_cases h1 : a.size + k < m
      · rw [show decide (a.size + k ≤ m) = true from by simp; omega, show min m (a.size + k) = a.size + k from by omega] at S
        have HT := Lib.hid (take_both a s k hlt)
        rw [show told m (a.size + k) = 0 from by unfold told; rw [if_pos (by omega)]]
        go_wp2_with fail
        refine (push_ok (g + 1) g m _ _ _ S (by have := HLL.out; rw [show min m (a.size + k) = a.size + k from by omega] at this; omega)).mono ?_
        rintro e w4 ⟨rfl, S4, K4⟩
        have K5 := Lib.hid (K0.out.trans K4)
        clear K4
        rw [← HT.out] at S4
        go_wp2_with fail
        go_roundw
        case rel => exact ⟨k + 1, by omega, by go_num, by unfold told; rw [if_pos (by omega)], by rw [show decide (a.size + (k + 1) ≤ m) = true from by simp; omega, show min m (a.size + (k + 1)) = a.size + k + 1 from by omega]; exact S4, K5.out⟩
        case measure => simp [intOf]; omega
      · by_cases h2 : a.size + k = m
        · rw [show decide (a.size + k ≤ m) = true from by simp; omega] at S
          have hl2 := HLL.out
          rw [show min m (a.size + k) = m from by omega] at S hl2
          have S' : Cap wr (g + 1) g ((bl (a ++ s)).take m) true ((bl (a ++ s)).take m).length := by rw [hl2]; exact S
          have HL2 := Lib.hid hl2
          clear hl2
          rw [show told m (a.size + k) = 0 from by unfold told; rw [if_pos (by omega)]]
          have H2 := Lib.hid h2
          clear h2
          go_wp2_with fail
          refine (push_full (g + 1) g _ _ _ S').mono ?_
          rintro e w4 ⟨rfl, S4, K4⟩
          have K5 := Lib.hid (K0.out.trans (K4.mono (fun _ h => Or.inl h)))
          clear K4
          rw [HL2.out] at S4
          go_wp2_with fail
          go_roundw
          case rel => exact ⟨k + 1, by omega, by go_num, by have := H2.out; unfold told; rw [if_neg (by omega)], by have := H2.out; rw [show decide (a.size + (k + 1) ≤ m) = false from by simp; omega, show min m (a.size + (k + 1)) = m from by omega]; exact S4, K5.out⟩
          case measure => simp [intOf]; omega
        · rw [show decide (a.size + k ≤ m) = false from by simp; omega, show min m (a.size + k) = m from by omega] at S
          rw [show told m (a.size + k) = 1 from by unfold told; rw [if_neg (by omega)]]
          go_wp2_with fail
          refine (push_off (g + 1) g m _ _ _ S).mono ?_
          rintro e w4 ⟨rfl, rfl⟩
          go_wp2_with fail
          go_roundw
          case rel => exact ⟨k + 1, by omega, by go_num, by unfold told; rw [if_neg (by omega)], by rw [show decide (a.size + (k + 1) ≤ m) = false from by simp; omega, show min m (a.size + (k + 1)) = m from by omega]; exact S, K0.out⟩
          case measure => simp [intOf]; omega
    · obtain rfl : k = s.size := by omega
      have t1 : ¬(s.size : Int) < (s.size : Int) := by omega
      have es := ES.out
      have hall : ¬a.size + s.size ≤ m := by have := HF.out; omega
      rw [show told m (a.size + s.size) = 1 from by unfold told; rw [if_neg hall]]
      rw [show decide (a.size + s.size ≤ m) = false from by simp; omega, show min m (a.size + s.size) = m from by omega] at S
      have t2 : ¬(a.size : Int) + (s.size : Int) ≤ (0 : Int) := by omega
      have hr : ((m : Int) - (((bl (a ++ s)).take m).length : Int)) = 0 := by rw [List.length_take, bl_length, es]; omega
      have t3 : (0 : Int) ≤ (a.size : Int) + (s.size : Int) := by omega
      have t4 : 0 ≤ (0 : Int) := by omega
      have HR := Lib.hid hr
      have HA := Lib.hid hall
      clear hall es hr
      go_wp2_with fail
      go_quiet (first
        | (go_at_call 11; exact on_q (g + 1) g _ _ _ _ _ S)
        | (go_at_call 12; exact text_take_q (g + 1) g _ _ _ _ _ _ S)
        | (go_at_call 13; exact room_zero_q (g + 1) g _ _ _ _ _ S HR.out))
      go_wp2
      go_ret
      exact ⟨by first | rfl | (simp; done) | (simp; omega), Kept.below (Below.refl _ w) (by repeat (first | exact K0.out | apply Kept.drew | apply Kept.drewN)) (fun i hi => by have := HB.out; omega)⟩

set_option maxHeartbeats 2000000 in
theorem walk_neg_far (d : Int) (m : Nat) (a s : ByteArray) (w : World) (ha : a.size ≤ 300) (hs : s.size ≤ 300) (h : d < 0) (hm : m = 0) (hc : clamp d = m) (hfit : m < a.size) :
    Calls Try.prog 3 #[.int .i64 d, .string a, .string s] w fun e w' => e = .returned (.bool true) ∧ Below w.heap.size w w' := by
  have HC := Lib.hid hc
  clear hc
  have HF := Lib.hid hfit
  clear hfit
  have z0 : ¬(300 : Int) < (a.size : Int) := by omega
  have z1 : ¬(300 : Int) < (s.size : Int) := by omega
  have zz : a.size + s.size ≤ 9223372036854775807 := by omega
  have es : (a ++ s).size = a.size + s.size := ByteArray.size_append
  go_enter Try.func3, Try.ntmps3
  go_wp2_with fail
  refine (new_c d _).mono ?_
  rintro e w1 ⟨rfl, S1, K1⟩
  rw [HC.out] at S1
  generalize hb : w.heap.size = g at S1 ⊢
  have HB := Lib.hid hb
  clear hb
  have B1 := Lib.hid (K1.mono (T := fun k => k = g + 1 ∨ k = g) (fun _ h => h.elim))
  clear K1
  go_wp2_with fail
  refine (awake_c _).mono ?_
  rintro e w2 ⟨rfl, hb2⟩
  have S2 := S1.keep (Kept.of_below hb2 (fun _ => False)) (fun h => h) (fun h => h)
  have B2 := Lib.hid (B1.out.trans (Kept.of_below hb2 _))
  clear S1 B1 hb2
  go_wp2_with fail
  have CB : Calls Try.prog 9 #[.pointer (some ⟨g + 1, 0, none⟩), .string a] w2 fun e w' => e = .returned (.int .i64 11) ∧ Cap w' (g + 1) g ((bl (a ++ s)).take (min m a.size)) false m ∧ Kept (fun k => k = g + 1 ∨ k = g) w2 w' := by
    have hlt : m < a.size := HF.out
    rw [show min m a.size = m from by omega, take_first a s m (by omega)]
    exact begin_over (g + 1) g m _ _ a _ S2 hlt
  refine CB.mono ?_
  rintro e w3 ⟨rfl, S3, K3⟩
  have B3 := Lib.hid (B2.out.trans K3)
  clear CB K3 S2 B2
  go_wp2_with fail
  have ES := Lib.hid es
  clear es
  go_loopw [10, 44] (fun c i wr => ∃ k : Nat, k ≤ s.size ∧ i = .int .i64 k ∧ c = .int .i64 (told m (a.size + k)) ∧ Cap wr (g + 1) g ((bl (a ++ s)).take (min m (a.size + k))) (decide (a.size + k ≤ m)) m ∧ Kept (fun k => k = g + 1 ∨ k = g) w wr) (fun _ i _ => s.size - (intOf i).toNat)
  case atStart => exact ⟨0, Nat.zero_le _, rfl, by simp only [told, Nat.add_zero]; rw [if_neg (by have := HF.out; omega)], by simp only [Nat.add_zero]; rw [show decide (a.size ≤ m) = false from by have := HF.out; simp; omega]; exact S3, B3.out⟩
  case round =>
    obtain ⟨k, hk, rfl, rfl, S, K⟩ := hrel
    have K0 := Lib.hid K
    clear K
    by_cases hlt : k < s.size
    · have t1 : (k : Int) < (s.size : Int) := by omega
      have hll : ((bl (a ++ s)).take (min m (a.size + k))).length = min m (a.size + k) := by rw [List.length_take, bl_length, ES.out]; omega
      have HLL := Lib.hid hll
      clear hll
      by_cases h1 : a.size + k < m
      · rw [show decide (a.size + k ≤ m) = true from by simp; omega, show min m (a.size + k) = a.size + k from by omega] at S
        have HT := Lib.hid (take_both a s k hlt)
        rw [show told m (a.size + k) = 0 from by unfold told; rw [if_pos (by omega)]]
        go_wp2_with fail
        refine (push_ok (g + 1) g m _ _ _ S (by have := HLL.out; rw [show min m (a.size + k) = a.size + k from by omega] at this; omega)).mono ?_
        rintro e w4 ⟨rfl, S4, K4⟩
        have K5 := Lib.hid (K0.out.trans K4)
        clear K4
        rw [← HT.out] at S4
        go_wp2_with fail
        go_roundw
        case rel => exact ⟨k + 1, by omega, by go_num, by unfold told; rw [if_pos (by omega)], by rw [show decide (a.size + (k + 1) ≤ m) = true from by simp; omega, show min m (a.size + (k + 1)) = a.size + k + 1 from by omega]; exact S4, K5.out⟩
        case measure => simp [intOf]; omega
      · by_cases h2 : a.size + k = m
        · rw [show decide (a.size + k ≤ m) = true from by simp; omega] at S
          have hl2 := HLL.out
          rw [show min m (a.size + k) = m from by omega] at S hl2
          have S' : Cap wr (g + 1) g ((bl (a ++ s)).take m) true ((bl (a ++ s)).take m).length := by rw [hl2]; exact S
          have HL2 := Lib.hid hl2
          clear hl2
          rw [show told m (a.size + k) = 0 from by unfold told; rw [if_pos (by omega)]]
          have H2 := Lib.hid h2
          clear h2
          go_wp2_with fail
          refine (push_full (g + 1) g _ _ _ S').mono ?_
          rintro e w4 ⟨rfl, S4, K4⟩
          have K5 := Lib.hid (K0.out.trans (K4.mono (fun _ h => Or.inl h)))
          clear K4
          rw [HL2.out] at S4
          go_wp2_with fail
          go_roundw
          case rel => exact ⟨k + 1, by omega, by go_num, by have := H2.out; unfold told; rw [if_neg (by omega)], by have := H2.out; rw [show decide (a.size + (k + 1) ≤ m) = false from by simp; omega, show min m (a.size + (k + 1)) = m from by omega]; exact S4, K5.out⟩
          case measure => simp [intOf]; omega
        · rw [show decide (a.size + k ≤ m) = false from by simp; omega, show min m (a.size + k) = m from by omega] at S
          rw [show told m (a.size + k) = 1 from by unfold told; rw [if_neg (by omega)]]
          go_wp2_with fail
          refine (push_off (g + 1) g m _ _ _ S).mono ?_
          rintro e w4 ⟨rfl, rfl⟩
          go_wp2_with fail
          go_roundw
          case rel => exact ⟨k + 1, by omega, by go_num, by unfold told; rw [if_neg (by omega)], by rw [show decide (a.size + (k + 1) ≤ m) = false from by simp; omega, show min m (a.size + (k + 1)) = m from by omega]; exact S, K0.out⟩
          case measure => simp [intOf]; omega
    · obtain rfl : k = s.size := by omega
      have t1 : ¬(s.size : Int) < (s.size : Int) := by omega
      have es := ES.out
      have hall : ¬a.size + s.size ≤ m := by have := HF.out; omega
      rw [show told m (a.size + s.size) = 1 from by unfold told; rw [if_neg hall]]
      rw [show decide (a.size + s.size ≤ m) = false from by simp; omega, show min m (a.size + s.size) = m from by omega] at S
      have t2 : ¬(a.size : Int) + (s.size : Int) ≤ (0 : Int) := by omega
      have hr : ((m : Int) - (((bl (a ++ s)).take m).length : Int)) = 0 := by rw [List.length_take, bl_length, es]; omega
      have t3 : (0 : Int) ≤ (a.size : Int) + (s.size : Int) := by omega
      have t4 : 0 ≤ (0 : Int) := by omega
      have HR := Lib.hid hr
      have HA := Lib.hid hall
      clear hall es hr
      go_wp2_with fail
      go_quiet (first
        | (go_at_call 11; exact on_q (g + 1) g _ _ _ _ _ S)
        | (go_at_call 12; exact text_take_q (g + 1) g _ _ _ _ _ _ S)
        | (go_at_call 13; exact room_zero_q (g + 1) g _ _ _ _ _ S HR.out))
      go_wp2
      go_ret
      exact ⟨by first | rfl | (simp; done) | (simp; omega), Kept.below (Below.refl _ w) (by repeat (first | exact K0.out | apply Kept.drew | apply Kept.drewN)) (fun i hi => by have := HB.out; omega)⟩

set_option maxHeartbeats 2000000 in
theorem walk_great_fits (d : Int) (m : Nat) (a s : ByteArray) (w : World) (ha : a.size ≤ 300) (hs : s.size ≤ 300) (h0 : ¬d < 0) (h : 65536 < d) (h1 : ¬d < 65536) (hm : m = 65536) (hc : clamp d = m) (hfit : a.size + s.size ≤ m) :
    Calls Try.prog 3 #[.int .i64 d, .string a, .string s] w fun e w' => e = .returned (.bool true) ∧ Below w.heap.size w w' := by
  have HC := Lib.hid hc
  clear hc
  have HF := Lib.hid hfit
  clear hfit
  have z0 : ¬(300 : Int) < (a.size : Int) := by omega
  have z1 : ¬(300 : Int) < (s.size : Int) := by omega
  have zz : a.size + s.size ≤ 9223372036854775807 := by omega
  have es : (a ++ s).size = a.size + s.size := ByteArray.size_append
  go_enter Try.func3, Try.ntmps3
  go_wp2_with fail
  refine (new_c d _).mono ?_
  rintro e w1 ⟨rfl, S1, K1⟩
  rw [HC.out] at S1
  generalize hb : w.heap.size = g at S1 ⊢
  have HB := Lib.hid hb
  clear hb
  have B1 := Lib.hid (K1.mono (T := fun k => k = g + 1 ∨ k = g) (fun _ h => h.elim))
  clear K1
  go_wp2_with fail
  refine (awake_c _).mono ?_
  rintro e w2 ⟨rfl, hb2⟩
  have S2 := S1.keep (Kept.of_below hb2 (fun _ => False)) (fun h => h) (fun h => h)
  have B2 := Lib.hid (B1.out.trans (Kept.of_below hb2 _))
  clear S1 B1 hb2
  go_wp2_with fail
  have CB : Calls Try.prog 9 #[.pointer (some ⟨g + 1, 0, none⟩), .string a] w2 fun e w' => e = .returned (.int .i64 0) ∧ Cap w' (g + 1) g ((bl (a ++ s)).take (min m a.size)) true m ∧ Kept (fun k => k = g + 1 ∨ k = g) w2 w' := by
    have hle : a.size ≤ m := by have := HF.out; omega
    rw [show min m a.size = a.size from by omega, take_first a s a.size (Nat.le_refl _), List.take_of_length_le (by rw [bl_length]; omega)]
    exact begin_fits (g + 1) g m _ _ a _ S2 hle
  refine CB.mono ?_
  rintro e w3 ⟨rfl, S3, K3⟩
  have B3 := Lib.hid (B2.out.trans K3)
  clear CB K3 S2 B2
  go_wp2_with fail
  have ES := Lib.hid es
  clear es
  go_loopw [10, 44] (fun c i wr => ∃ k : Nat, k ≤ s.size ∧ i = .int .i64 k ∧ c = .int .i64 (told m (a.size + k)) ∧ Cap wr (g + 1) g ((bl (a ++ s)).take (min m (a.size + k))) (decide (a.size + k ≤ m)) m ∧ Kept (fun k => k = g + 1 ∨ k = g) w wr) (fun _ i _ => s.size - (intOf i).toNat)
  case atStart => exact ⟨0, Nat.zero_le _, rfl, by simp only [told, Nat.add_zero]; rw [if_pos (by have := HF.out; omega)], by simp only [Nat.add_zero]; rw [show decide (a.size ≤ m) = true from by have := HF.out; simp; omega]; exact S3, B3.out⟩
  case round =>
    obtain ⟨k, hk, rfl, rfl, S, K⟩ := hrel
    have K0 := Lib.hid K
    clear K
    by_cases hlt : k < s.size
    · have t1 : (k : Int) < (s.size : Int) := by omega
      have hll : ((bl (a ++ s)).take (min m (a.size + k))).length = min m (a.size + k) := by rw [List.length_take, bl_length, ES.out]; omega
      have HLL := Lib.hid hll
      clear hll
      by_cases h1 : a.size + k < m
      · rw [show decide (a.size + k ≤ m) = true from by simp; omega, show min m (a.size + k) = a.size + k from by omega] at S
        have HT := Lib.hid (take_both a s k hlt)
        rw [show told m (a.size + k) = 0 from by unfold told; rw [if_pos (by omega)]]
        go_wp2_with fail
        refine (push_ok (g + 1) g m _ _ _ S (by have := HLL.out; rw [show min m (a.size + k) = a.size + k from by omega] at this; omega)).mono ?_
        rintro e w4 ⟨rfl, S4, K4⟩
        have K5 := Lib.hid (K0.out.trans K4)
        clear K4
        rw [← HT.out] at S4
        go_wp2_with fail
        go_roundw
        case rel => exact ⟨k + 1, by omega, by go_num, by unfold told; rw [if_pos (by omega)], by rw [show decide (a.size + (k + 1) ≤ m) = true from by simp; omega, show min m (a.size + (k + 1)) = a.size + k + 1 from by omega]; exact S4, K5.out⟩
        case measure => simp [intOf]; omega
      · by_cases h2 : a.size + k = m
        · rw [show decide (a.size + k ≤ m) = true from by simp; omega] at S
          have hl2 := HLL.out
          rw [show min m (a.size + k) = m from by omega] at S hl2
          have S' : Cap wr (g + 1) g ((bl (a ++ s)).take m) true ((bl (a ++ s)).take m).length := by rw [hl2]; exact S
          have HL2 := Lib.hid hl2
          clear hl2
          rw [show told m (a.size + k) = 0 from by unfold told; rw [if_pos (by omega)]]
          have H2 := Lib.hid h2
          clear h2
          go_wp2_with fail
          refine (push_full (g + 1) g _ _ _ S').mono ?_
          rintro e w4 ⟨rfl, S4, K4⟩
          have K5 := Lib.hid (K0.out.trans (K4.mono (fun _ h => Or.inl h)))
          clear K4
          rw [HL2.out] at S4
          go_wp2_with fail
          go_roundw
          case rel => exact ⟨k + 1, by omega, by go_num, by have := H2.out; unfold told; rw [if_neg (by omega)], by have := H2.out; rw [show decide (a.size + (k + 1) ≤ m) = false from by simp; omega, show min m (a.size + (k + 1)) = m from by omega]; exact S4, K5.out⟩
          case measure => simp [intOf]; omega
        · rw [show decide (a.size + k ≤ m) = false from by simp; omega, show min m (a.size + k) = m from by omega] at S
          rw [show told m (a.size + k) = 1 from by unfold told; rw [if_neg (by omega)]]
          go_wp2_with fail
          refine (push_off (g + 1) g m _ _ _ S).mono ?_
          rintro e w4 ⟨rfl, rfl⟩
          go_wp2_with fail
          go_roundw
          case rel => exact ⟨k + 1, by omega, by go_num, by unfold told; rw [if_neg (by omega)], by rw [show decide (a.size + (k + 1) ≤ m) = false from by simp; omega, show min m (a.size + (k + 1)) = m from by omega]; exact S, K0.out⟩
          case measure => simp [intOf]; omega
    · obtain rfl : k = s.size := by omega
      have t1 : ¬(s.size : Int) < (s.size : Int) := by omega
      have es := ES.out
      have hall : a.size + s.size ≤ m := by have := HF.out; omega
      rw [show told m (a.size + s.size) = 0 from by unfold told; rw [if_pos hall]]
      rw [show decide (a.size + s.size ≤ m) = true from by simp; omega, List.take_of_length_le (by rw [bl_length, es]; omega)] at S
      have t2 : (a.size : Int) + (s.size : Int) ≤ (65536 : Int) := by omega
      have CT := text_c (g + 1) g _ _ _ _ S
      rw [strOfNums_bl] at CT
      have CR := room_c (g + 1) g _ _ _ _ S
      rw [bl_length, show (m : Int) = (65536 : Int) from by omega, show ((a ++ s).size : Int) = (a.size : Int) + (s.size : Int) from by rw [es]; omega] at CR
      have HA := Lib.hid hall
      clear hall es
      go_wp2_with fail
      refine (on_c (g + 1) g _ _ _ _ S).mono ?_
      rintro e w5 ⟨rfl, rfl⟩
      go_wp2_with fail
      refine CT.mono ?_
      rintro e w5 ⟨rfl, rfl⟩
      go_wp2_with fail
      refine CR.mono ?_
      rintro e w5 ⟨rfl, S5, K5⟩
      go_wp2_with fail
      go_ret
      exact ⟨by first | rfl | (simp; done) | (simp; omega), Kept.below (Below.refl _ w) (K0.out.trans (K5.mono (fun _ h => h.elim))) (fun i hi => by have := HB.out; omega)⟩

set_option maxHeartbeats 2000000 in
theorem walk_mid_fits (m : Nat) (a s : ByteArray) (w : World) (ha : a.size ≤ 300) (hs : s.size ≤ 300) (h : ¬65536 < (m : Int)) (hc : clamp m = m) (hfit : a.size + s.size ≤ m) :
    Calls Try.prog 3 #[.int .i64 m, .string a, .string s] w fun e w' => e = .returned (.bool true) ∧ Below w.heap.size w w' := by
  have HC := Lib.hid hc
  clear hc
  have HF := Lib.hid hfit
  clear hfit
  have z0 : ¬(300 : Int) < (a.size : Int) := by omega
  have z1 : ¬(300 : Int) < (s.size : Int) := by omega
  have zz : a.size + s.size ≤ 9223372036854775807 := by omega
  have es : (a ++ s).size = a.size + s.size := ByteArray.size_append
  go_enter Try.func3, Try.ntmps3
  go_wp2_with fail
  refine (new_c m _).mono ?_
  rintro e w1 ⟨rfl, S1, K1⟩
  rw [HC.out] at S1
  generalize hb : w.heap.size = g at S1 ⊢
  have HB := Lib.hid hb
  clear hb
  have B1 := Lib.hid (K1.mono (T := fun k => k = g + 1 ∨ k = g) (fun _ h => h.elim))
  clear K1
  go_wp2_with fail
  refine (awake_c _).mono ?_
  rintro e w2 ⟨rfl, hb2⟩
  have S2 := S1.keep (Kept.of_below hb2 (fun _ => False)) (fun h => h) (fun h => h)
  have B2 := Lib.hid (B1.out.trans (Kept.of_below hb2 _))
  clear S1 B1 hb2
  go_wp2_with fail
  have CB : Calls Try.prog 9 #[.pointer (some ⟨g + 1, 0, none⟩), .string a] w2 fun e w' => e = .returned (.int .i64 0) ∧ Cap w' (g + 1) g ((bl (a ++ s)).take (min m a.size)) true m ∧ Kept (fun k => k = g + 1 ∨ k = g) w2 w' := by
    have hle : a.size ≤ m := by have := HF.out; omega
    rw [show min m a.size = a.size from by omega, take_first a s a.size (Nat.le_refl _), List.take_of_length_le (by rw [bl_length]; omega)]
    exact begin_fits (g + 1) g m _ _ a _ S2 hle
  refine CB.mono ?_
  rintro e w3 ⟨rfl, S3, K3⟩
  have B3 := Lib.hid (B2.out.trans K3)
  clear CB K3 S2 B2
  go_wp2_with fail
  have ES := Lib.hid es
  clear es
  go_loopw [10, 44] (fun c i wr => ∃ k : Nat, k ≤ s.size ∧ i = .int .i64 k ∧ c = .int .i64 (told m (a.size + k)) ∧ Cap wr (g + 1) g ((bl (a ++ s)).take (min m (a.size + k))) (decide (a.size + k ≤ m)) m ∧ Kept (fun k => k = g + 1 ∨ k = g) w wr) (fun _ i _ => s.size - (intOf i).toNat)
  case atStart => exact ⟨0, Nat.zero_le _, rfl, by simp only [told, Nat.add_zero]; rw [if_pos (by have := HF.out; omega)], by simp only [Nat.add_zero]; rw [show decide (a.size ≤ m) = true from by have := HF.out; simp; omega]; exact S3, B3.out⟩
  case round =>
    obtain ⟨k, hk, rfl, rfl, S, K⟩ := hrel
    have K0 := Lib.hid K
    clear K
    by_cases hlt : k < s.size
    · have t1 : (k : Int) < (s.size : Int) := by omega
      have hll : ((bl (a ++ s)).take (min m (a.size + k))).length = min m (a.size + k) := by rw [List.length_take, bl_length, ES.out]; omega
      have HLL := Lib.hid hll
      clear hll
      by_cases h1 : a.size + k < m
      · rw [show decide (a.size + k ≤ m) = true from by simp; omega, show min m (a.size + k) = a.size + k from by omega] at S
        have HT := Lib.hid (take_both a s k hlt)
        rw [show told m (a.size + k) = 0 from by unfold told; rw [if_pos (by omega)]]
        go_wp2_with fail
        refine (push_ok (g + 1) g m _ _ _ S (by have := HLL.out; rw [show min m (a.size + k) = a.size + k from by omega] at this; omega)).mono ?_
        rintro e w4 ⟨rfl, S4, K4⟩
        have K5 := Lib.hid (K0.out.trans K4)
        clear K4
        rw [← HT.out] at S4
        go_wp2_with fail
        go_roundw
        case rel => exact ⟨k + 1, by omega, by go_num, by unfold told; rw [if_pos (by omega)], by rw [show decide (a.size + (k + 1) ≤ m) = true from by simp; omega, show min m (a.size + (k + 1)) = a.size + k + 1 from by omega]; exact S4, K5.out⟩
        case measure => simp [intOf]; omega
      · by_cases h2 : a.size + k = m
        · rw [show decide (a.size + k ≤ m) = true from by simp; omega] at S
          have hl2 := HLL.out
          rw [show min m (a.size + k) = m from by omega] at S hl2
          have S' : Cap wr (g + 1) g ((bl (a ++ s)).take m) true ((bl (a ++ s)).take m).length := by rw [hl2]; exact S
          have HL2 := Lib.hid hl2
          clear hl2
          rw [show told m (a.size + k) = 0 from by unfold told; rw [if_pos (by omega)]]
          have H2 := Lib.hid h2
          clear h2
          go_wp2_with fail
          refine (push_full (g + 1) g _ _ _ S').mono ?_
          rintro e w4 ⟨rfl, S4, K4⟩
          have K5 := Lib.hid (K0.out.trans (K4.mono (fun _ h => Or.inl h)))
          clear K4
          rw [HL2.out] at S4
          go_wp2_with fail
          go_roundw
          case rel => exact ⟨k + 1, by omega, by go_num, by have := H2.out; unfold told; rw [if_neg (by omega)], by have := H2.out; rw [show decide (a.size + (k + 1) ≤ m) = false from by simp; omega, show min m (a.size + (k + 1)) = m from by omega]; exact S4, K5.out⟩
          case measure => simp [intOf]; omega
        · rw [show decide (a.size + k ≤ m) = false from by simp; omega, show min m (a.size + k) = m from by omega] at S
          rw [show told m (a.size + k) = 1 from by unfold told; rw [if_neg (by omega)]]
          go_wp2_with fail
          refine (push_off (g + 1) g m _ _ _ S).mono ?_
          rintro e w4 ⟨rfl, rfl⟩
          go_wp2_with fail
          go_roundw
          case rel => exact ⟨k + 1, by omega, by go_num, by unfold told; rw [if_neg (by omega)], by rw [show decide (a.size + (k + 1) ≤ m) = false from by simp; omega, show min m (a.size + (k + 1)) = m from by omega]; exact S, K0.out⟩
          case measure => simp [intOf]; omega
    · obtain rfl : k = s.size := by omega
      have t1 : ¬(s.size : Int) < (s.size : Int) := by omega
      have es := ES.out
      have hall : a.size + s.size ≤ m := by have := HF.out; omega
      rw [show told m (a.size + s.size) = 0 from by unfold told; rw [if_pos hall]]
      rw [show decide (a.size + s.size ≤ m) = true from by simp; omega, List.take_of_length_le (by rw [bl_length, es]; omega)] at S
      have t2 : (a.size : Int) + (s.size : Int) ≤ (m : Int) := by omega
      have CT := text_c (g + 1) g _ _ _ _ S
      rw [strOfNums_bl] at CT
      have CR := room_c (g + 1) g _ _ _ _ S
      rw [bl_length, show ((a ++ s).size : Int) = (a.size : Int) + (s.size : Int) from by rw [es]; omega] at CR
      have HA := Lib.hid hall
      clear hall es
      go_wp2_with fail
      refine (on_c (g + 1) g _ _ _ _ S).mono ?_
      rintro e w5 ⟨rfl, rfl⟩
      go_wp2_with fail
      refine CT.mono ?_
      rintro e w5 ⟨rfl, rfl⟩
      go_wp2_with fail
      refine CR.mono ?_
      rintro e w5 ⟨rfl, S5, K5⟩
      go_wp2_with fail
      go_ret
      exact ⟨by first | rfl | (simp; done) | (simp; omega), Kept.below (Below.refl _ w) (K0.out.trans (K5.mono (fun _ h => h.elim))) (fun i hi => by have := HB.out; omega)⟩

set_option maxHeartbeats 2000000 in
theorem walk_mid_over (m : Nat) (a s : ByteArray) (w : World) (ha : a.size ≤ 300) (hs : s.size ≤ 300) (h : ¬65536 < (m : Int)) (hc : clamp m = m) (hfit : a.size ≤ m ∧ m < a.size + s.size) :
    Calls Try.prog 3 #[.int .i64 m, .string a, .string s] w fun e w' => e = .returned (.bool true) ∧ Below w.heap.size w w' := by
  have HC := Lib.hid hc
  clear hc
  have HF := Lib.hid hfit
  clear hfit
  have z0 : ¬(300 : Int) < (a.size : Int) := by omega
  have z1 : ¬(300 : Int) < (s.size : Int) := by omega
  have zz : a.size + s.size ≤ 9223372036854775807 := by omega
  have es : (a ++ s).size = a.size + s.size := ByteArray.size_append
  go_enter Try.func3, Try.ntmps3
  go_wp2_with fail
  refine (new_c m _).mono ?_
  rintro e w1 ⟨rfl, S1, K1⟩
  rw [HC.out] at S1
  generalize hb : w.heap.size = g at S1 ⊢
  have HB := Lib.hid hb
  clear hb
  have B1 := Lib.hid (K1.mono (T := fun k => k = g + 1 ∨ k = g) (fun _ h => h.elim))
  clear K1
  go_wp2_with fail
  refine (awake_c _).mono ?_
  rintro e w2 ⟨rfl, hb2⟩
  have S2 := S1.keep (Kept.of_below hb2 (fun _ => False)) (fun h => h) (fun h => h)
  have B2 := Lib.hid (B1.out.trans (Kept.of_below hb2 _))
  clear S1 B1 hb2
  go_wp2_with fail
  have CB : Calls Try.prog 9 #[.pointer (some ⟨g + 1, 0, none⟩), .string a] w2 fun e w' => e = .returned (.int .i64 0) ∧ Cap w' (g + 1) g ((bl (a ++ s)).take (min m a.size)) true m ∧ Kept (fun k => k = g + 1 ∨ k = g) w2 w' := by
    have hle : a.size ≤ m := by have := HF.out; omega
    rw [show min m a.size = a.size from by omega, take_first a s a.size (Nat.le_refl _), List.take_of_length_le (by rw [bl_length]; omega)]
    exact begin_fits (g + 1) g m _ _ a _ S2 hle
  refine CB.mono ?_
  rintro e w3 ⟨rfl, S3, K3⟩
  have B3 := Lib.hid (B2.out.trans K3)
  clear CB K3 S2 B2
  go_wp2_with fail
  have ES := Lib.hid es
  clear es
  go_loopw [10, 44] (fun c i wr => ∃ k : Nat, k ≤ s.size ∧ i = .int .i64 k ∧ c = .int .i64 (told m (a.size + k)) ∧ Cap wr (g + 1) g ((bl (a ++ s)).take (min m (a.size + k))) (decide (a.size + k ≤ m)) m ∧ Kept (fun k => k = g + 1 ∨ k = g) w wr) (fun _ i _ => s.size - (intOf i).toNat)
  case atStart => exact ⟨0, Nat.zero_le _, rfl, by simp only [told, Nat.add_zero]; rw [if_pos (by have := HF.out; omega)], by simp only [Nat.add_zero]; rw [show decide (a.size ≤ m) = true from by have := HF.out; simp; omega]; exact S3, B3.out⟩
  case round =>
    obtain ⟨k, hk, rfl, rfl, S, K⟩ := hrel
    have K0 := Lib.hid K
    clear K
    by_cases hlt : k < s.size
    · have t1 : (k : Int) < (s.size : Int) := by omega
      have hll : ((bl (a ++ s)).take (min m (a.size + k))).length = min m (a.size + k) := by rw [List.length_take, bl_length, ES.out]; omega
      have HLL := Lib.hid hll
      clear hll
      by_cases h1 : a.size + k < m
      · rw [show decide (a.size + k ≤ m) = true from by simp; omega, show min m (a.size + k) = a.size + k from by omega] at S
        have HT := Lib.hid (take_both a s k hlt)
        rw [show told m (a.size + k) = 0 from by unfold told; rw [if_pos (by omega)]]
        go_wp2_with fail
        refine (push_ok (g + 1) g m _ _ _ S (by have := HLL.out; rw [show min m (a.size + k) = a.size + k from by omega] at this; omega)).mono ?_
        rintro e w4 ⟨rfl, S4, K4⟩
        have K5 := Lib.hid (K0.out.trans K4)
        clear K4
        rw [← HT.out] at S4
        go_wp2_with fail
        go_roundw
        case rel => exact ⟨k + 1, by omega, by go_num, by unfold told; rw [if_pos (by omega)], by rw [show decide (a.size + (k + 1) ≤ m) = true from by simp; omega, show min m (a.size + (k + 1)) = a.size + k + 1 from by omega]; exact S4, K5.out⟩
        case measure => simp [intOf]; omega
      · by_cases h2 : a.size + k = m
        · rw [show decide (a.size + k ≤ m) = true from by simp; omega] at S
          have hl2 := HLL.out
          rw [show min m (a.size + k) = m from by omega] at S hl2
          have S' : Cap wr (g + 1) g ((bl (a ++ s)).take m) true ((bl (a ++ s)).take m).length := by rw [hl2]; exact S
          have HL2 := Lib.hid hl2
          clear hl2
          rw [show told m (a.size + k) = 0 from by unfold told; rw [if_pos (by omega)]]
          have H2 := Lib.hid h2
          clear h2
          go_wp2_with fail
          refine (push_full (g + 1) g _ _ _ S').mono ?_
          rintro e w4 ⟨rfl, S4, K4⟩
          have K5 := Lib.hid (K0.out.trans (K4.mono (fun _ h => Or.inl h)))
          clear K4
          rw [HL2.out] at S4
          go_wp2_with fail
          go_roundw
          case rel => exact ⟨k + 1, by omega, by go_num, by have := H2.out; unfold told; rw [if_neg (by omega)], by have := H2.out; rw [show decide (a.size + (k + 1) ≤ m) = false from by simp; omega, show min m (a.size + (k + 1)) = m from by omega]; exact S4, K5.out⟩
          case measure => simp [intOf]; omega
        · rw [show decide (a.size + k ≤ m) = false from by simp; omega, show min m (a.size + k) = m from by omega] at S
          rw [show told m (a.size + k) = 1 from by unfold told; rw [if_neg (by omega)]]
          go_wp2_with fail
          refine (push_off (g + 1) g m _ _ _ S).mono ?_
          rintro e w4 ⟨rfl, rfl⟩
          go_wp2_with fail
          go_roundw
          case rel => exact ⟨k + 1, by omega, by go_num, by unfold told; rw [if_neg (by omega)], by rw [show decide (a.size + (k + 1) ≤ m) = false from by simp; omega, show min m (a.size + (k + 1)) = m from by omega]; exact S, K0.out⟩
          case measure => simp [intOf]; omega
    · obtain rfl : k = s.size := by omega
      have t1 : ¬(s.size : Int) < (s.size : Int) := by omega
      have es := ES.out
      have hall : ¬a.size + s.size ≤ m := by have := HF.out; omega
      rw [show told m (a.size + s.size) = 1 from by unfold told; rw [if_neg hall]]
      rw [show decide (a.size + s.size ≤ m) = false from by simp; omega, show min m (a.size + s.size) = m from by omega] at S
      have t2 : ¬(a.size : Int) + (s.size : Int) ≤ (m : Int) := by omega
      have hr : ((m : Int) - (((bl (a ++ s)).take m).length : Int)) = 0 := by rw [List.length_take, bl_length, es]; omega
      have t3 : (m : Int) ≤ (a.size : Int) + (s.size : Int) := by omega
      have t4 : 0 ≤ (m : Int) := by omega
      have HR := Lib.hid hr
      have HA := Lib.hid hall
      clear hall es hr
      go_wp2_with fail
      go_quiet (first
        | (go_at_call 11; exact on_q (g + 1) g _ _ _ _ _ S)
        | (go_at_call 12; exact text_take_q (g + 1) g _ _ _ _ _ _ S)
        | (go_at_call 13; exact room_zero_q (g + 1) g _ _ _ _ _ S HR.out))
      go_wp2
      go_ret
      exact ⟨by first | rfl | (simp; done) | (simp; omega), Kept.below (Below.refl _ w) (by repeat (first | exact K0.out | apply Kept.drew | apply Kept.drewN)) (fun i hi => by have := HB.out; omega)⟩

set_option maxHeartbeats 2000000 in
theorem walk_mid_far (m : Nat) (a s : ByteArray) (w : World) (ha : a.size ≤ 300) (hs : s.size ≤ 300) (h : ¬65536 < (m : Int)) (hc : clamp m = m) (hfit : m < a.size) :
    Calls Try.prog 3 #[.int .i64 m, .string a, .string s] w fun e w' => e = .returned (.bool true) ∧ Below w.heap.size w w' := by
  have HC := Lib.hid hc
  clear hc
  have HF := Lib.hid hfit
  clear hfit
  have z0 : ¬(300 : Int) < (a.size : Int) := by omega
  have z1 : ¬(300 : Int) < (s.size : Int) := by omega
  have zz : a.size + s.size ≤ 9223372036854775807 := by omega
  have es : (a ++ s).size = a.size + s.size := ByteArray.size_append
  go_enter Try.func3, Try.ntmps3
  go_wp2_with fail
  refine (new_c m _).mono ?_
  rintro e w1 ⟨rfl, S1, K1⟩
  rw [HC.out] at S1
  generalize hb : w.heap.size = g at S1 ⊢
  have HB := Lib.hid hb
  clear hb
  have B1 := Lib.hid (K1.mono (T := fun k => k = g + 1 ∨ k = g) (fun _ h => h.elim))
  clear K1
  go_wp2_with fail
  refine (awake_c _).mono ?_
  rintro e w2 ⟨rfl, hb2⟩
  have S2 := S1.keep (Kept.of_below hb2 (fun _ => False)) (fun h => h) (fun h => h)
  have B2 := Lib.hid (B1.out.trans (Kept.of_below hb2 _))
  clear S1 B1 hb2
  go_wp2_with fail
  have CB : Calls Try.prog 9 #[.pointer (some ⟨g + 1, 0, none⟩), .string a] w2 fun e w' => e = .returned (.int .i64 11) ∧ Cap w' (g + 1) g ((bl (a ++ s)).take (min m a.size)) false m ∧ Kept (fun k => k = g + 1 ∨ k = g) w2 w' := by
    have hlt : m < a.size := HF.out
    rw [show min m a.size = m from by omega, take_first a s m (by omega)]
    exact begin_over (g + 1) g m _ _ a _ S2 hlt
  refine CB.mono ?_
  rintro e w3 ⟨rfl, S3, K3⟩
  have B3 := Lib.hid (B2.out.trans K3)
  clear CB K3 S2 B2
  go_wp2_with fail
  have ES := Lib.hid es
  clear es
  go_loopw [10, 44] (fun c i wr => ∃ k : Nat, k ≤ s.size ∧ i = .int .i64 k ∧ c = .int .i64 (told m (a.size + k)) ∧ Cap wr (g + 1) g ((bl (a ++ s)).take (min m (a.size + k))) (decide (a.size + k ≤ m)) m ∧ Kept (fun k => k = g + 1 ∨ k = g) w wr) (fun _ i _ => s.size - (intOf i).toNat)
  case atStart => exact ⟨0, Nat.zero_le _, rfl, by simp only [told, Nat.add_zero]; rw [if_neg (by have := HF.out; omega)], by simp only [Nat.add_zero]; rw [show decide (a.size ≤ m) = false from by have := HF.out; simp; omega]; exact S3, B3.out⟩
  case round =>
    obtain ⟨k, hk, rfl, rfl, S, K⟩ := hrel
    have K0 := Lib.hid K
    clear K
    by_cases hlt : k < s.size
    · have t1 : (k : Int) < (s.size : Int) := by omega
      have hll : ((bl (a ++ s)).take (min m (a.size + k))).length = min m (a.size + k) := by rw [List.length_take, bl_length, ES.out]; omega
      have HLL := Lib.hid hll
      clear hll
      by_cases h1 : a.size + k < m
      · rw [show decide (a.size + k ≤ m) = true from by simp; omega, show min m (a.size + k) = a.size + k from by omega] at S
        have HT := Lib.hid (take_both a s k hlt)
        rw [show told m (a.size + k) = 0 from by unfold told; rw [if_pos (by omega)]]
        go_wp2_with fail
        refine (push_ok (g + 1) g m _ _ _ S (by have := HLL.out; rw [show min m (a.size + k) = a.size + k from by omega] at this; omega)).mono ?_
        rintro e w4 ⟨rfl, S4, K4⟩
        have K5 := Lib.hid (K0.out.trans K4)
        clear K4
        rw [← HT.out] at S4
        go_wp2_with fail
        go_roundw
        case rel => exact ⟨k + 1, by omega, by go_num, by unfold told; rw [if_pos (by omega)], by rw [show decide (a.size + (k + 1) ≤ m) = true from by simp; omega, show min m (a.size + (k + 1)) = a.size + k + 1 from by omega]; exact S4, K5.out⟩
        case measure => simp [intOf]; omega
      · by_cases h2 : a.size + k = m
        · rw [show decide (a.size + k ≤ m) = true from by simp; omega] at S
          have hl2 := HLL.out
          rw [show min m (a.size + k) = m from by omega] at S hl2
          have S' : Cap wr (g + 1) g ((bl (a ++ s)).take m) true ((bl (a ++ s)).take m).length := by rw [hl2]; exact S
          have HL2 := Lib.hid hl2
          clear hl2
          rw [show told m (a.size + k) = 0 from by unfold told; rw [if_pos (by omega)]]
          have H2 := Lib.hid h2
          clear h2
          go_wp2_with fail
          refine (push_full (g + 1) g _ _ _ S').mono ?_
          rintro e w4 ⟨rfl, S4, K4⟩
          have K5 := Lib.hid (K0.out.trans (K4.mono (fun _ h => Or.inl h)))
          clear K4
          rw [HL2.out] at S4
          go_wp2_with fail
          go_roundw
          case rel => exact ⟨k + 1, by omega, by go_num, by have := H2.out; unfold told; rw [if_neg (by omega)], by have := H2.out; rw [show decide (a.size + (k + 1) ≤ m) = false from by simp; omega, show min m (a.size + (k + 1)) = m from by omega]; exact S4, K5.out⟩
          case measure => simp [intOf]; omega
        · rw [show decide (a.size + k ≤ m) = false from by simp; omega, show min m (a.size + k) = m from by omega] at S
          rw [show told m (a.size + k) = 1 from by unfold told; rw [if_neg (by omega)]]
          go_wp2_with fail
          refine (push_off (g + 1) g m _ _ _ S).mono ?_
          rintro e w4 ⟨rfl, rfl⟩
          go_wp2_with fail
          go_roundw
          case rel => exact ⟨k + 1, by omega, by go_num, by unfold told; rw [if_neg (by omega)], by rw [show decide (a.size + (k + 1) ≤ m) = false from by simp; omega, show min m (a.size + (k + 1)) = m from by omega]; exact S, K0.out⟩
          case measure => simp [intOf]; omega
    · obtain rfl : k = s.size := by omega
      have t1 : ¬(s.size : Int) < (s.size : Int) := by omega
      have es := ES.out
      have hall : ¬a.size + s.size ≤ m := by have := HF.out; omega
      rw [show told m (a.size + s.size) = 1 from by unfold told; rw [if_neg hall]]
      rw [show decide (a.size + s.size ≤ m) = false from by simp; omega, show min m (a.size + s.size) = m from by omega] at S
      have t2 : ¬(a.size : Int) + (s.size : Int) ≤ (m : Int) := by omega
      have hr : ((m : Int) - (((bl (a ++ s)).take m).length : Int)) = 0 := by rw [List.length_take, bl_length, es]; omega
      have t3 : (m : Int) ≤ (a.size : Int) + (s.size : Int) := by omega
      have t4 : 0 ≤ (m : Int) := by omega
      have HR := Lib.hid hr
      have HA := Lib.hid hall
      clear hall es hr
      go_wp2_with fail
      go_quiet (first
        | (go_at_call 11; exact on_q (g + 1) g _ _ _ _ _ S)
        | (go_at_call 12; exact text_take_q (g + 1) g _ _ _ _ _ _ S)
        | (go_at_call 13; exact room_zero_q (g + 1) g _ _ _ _ _ S HR.out))
      go_wp2
      go_ret
      exact ⟨by first | rfl | (simp; done) | (simp; omega), Kept.below (Below.refl _ w) (by repeat (first | exact K0.out | apply Kept.drew | apply Kept.drewN)) (fun i hi => by have := HB.out; omega)⟩

theorem walk (d : Int) (a s : ByteArray) (w : World) : Calls Try.prog 3 #[.int .i64 d, .string a, .string s] w fun e w' => e = .returned (.bool true) ∧ Below w.heap.size w w' := by
  by_cases hout : 300 < a.size ∨ 300 < s.size
  · exact walk_out d a s w hout
  have ha : a.size ≤ 300 := by omega
  have hs : s.size ≤ 300 := by omega
  by_cases h : d < 0
  · have hc : clamp d = 0 := by unfold clamp; rw [if_pos h]
    by_cases h1 : a.size + s.size ≤ 0
    · exact walk_neg_fits d 0 a s w ha hs h rfl hc h1
    · by_cases h2 : a.size ≤ 0
      · exact walk_neg_over d 0 a s w ha hs h rfl hc ⟨h2, by omega⟩
      · exact walk_neg_far d 0 a s w ha hs h rfl hc (by omega)
  · by_cases h2 : 65536 < d
    · exact walk_great_fits d 65536 a s w ha hs h h2 (by omega) rfl (by unfold clamp; rw [if_neg h, if_pos h2]) (by omega)
    · obtain ⟨m, rfl⟩ : ∃ m : Nat, d = m := ⟨d.toNat, by omega⟩
      have hc : clamp (m : Int) = m := by unfold clamp; rw [if_neg h, if_neg h2]; omega
      by_cases h1 : a.size + s.size ≤ m
      · exact walk_mid_fits m a s w ha hs h2 hc h1
      · by_cases h3 : a.size ≤ m
        · exact walk_mid_over m a s w ha hs h2 hc ⟨h3, by omega⟩
        · exact walk_mid_far m a s w ha hs h2 hc (by omega)
end Go.Proofs.Ytgnmianhbbchgaa.Stops
