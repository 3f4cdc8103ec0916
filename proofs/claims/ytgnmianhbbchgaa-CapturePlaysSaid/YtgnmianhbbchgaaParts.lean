/- Bytes that come with the beginning, or one by one behind it, are kept alike; what comes behind the end isn't; another beginning begins anew: the walk of CaptureParts. No condition beyond the reach. -/
import Derived.Test.YtgnmianhbbchgaaAwake
namespace Go.Proofs.Ytgnmianhbbchgaa.Parts
open Go.RowKit Go.Proofs.Ytgnmianhbbchgaa.Obj
set_option linter.unusedVariables false

theorem text_of (b g most : Nat) (x : ByteArray) (on : Bool) (w : World) (h : Cap w b g (bl x) on most) :
    Calls Try.prog 12 #[.pointer (some ⟨b, 0, none⟩)] w fun e w' => e = .returned (.string x) ∧ w = w' := by
  have C := text_c b g most _ on w h
  rw [strOfNums_bl] at C
  exact C

set_option maxHeartbeats 400000 in
theorem walk_out (a b c : ByteArray) (w : World) (h : 300 < a.size ∨ 300 < b.size ∨ 300 < c.size) :
    Calls Try.prog 6 #[.string a, .string b, .string c] w fun e w' => e = .returned (.bool true) ∧ Below w.heap.size w w' := by
  have three : (300 : Int) < (a.size : Int) ∨ (¬(300 : Int) < (a.size : Int) ∧ (300 : Int) < (b.size : Int)) ∨ (¬(300 : Int) < (a.size : Int) ∧ ¬(300 : Int) < (b.size : Int) ∧ (300 : Int) < (c.size : Int)) := by omega
  clear h
  rcases three with h | ⟨h0, h⟩ | ⟨h0, h1, h⟩
  all_goals
    go_enter Try.func6, Try.ntmps6
    go_wp2_with fail
    refine (new_c 1000 _).mono ?_
    rintro e w1 ⟨rfl, S1, K1⟩
    have B1 := Lib.hid (Kept.below (Below.refl _ w) K1 (fun _ h => h.elim))
    clear S1 K1
    generalize hb : w.heap.size = g
    go_wp2_with fail
    refine (new_c 1000 _).mono ?_
    rintro e w2 ⟨rfl, S2, K2⟩
    have B2 := Lib.hid (Kept.below B1.out K2 (fun _ h => h.elim))
    clear S2 K2
    generalize hb2 : w1.heap.size = g2
    go_wp2_with fail
    refine (awake_c _).mono ?_
    rintro e w3 ⟨rfl, hb3⟩
    go_wp2_with fail
    refine (awake_c _).mono ?_
    rintro e w4 ⟨rfl, hb4⟩
    go_wp2_with fail
    go_ret
    subst hb
    exact ⟨rfl, Obj.step (Obj.step B2.out hb3) hb4⟩

set_option maxHeartbeats 4000000 in
theorem walk_within (a b c : ByteArray) (w : World) (ha : a.size ≤ 300) (hb' : b.size ≤ 300) (hc : c.size ≤ 300) :
    Calls Try.prog 6 #[.string a, .string b, .string c] w fun e w' => e = .returned (.bool true) ∧ Below w.heap.size w w' := by
  have z0 : ¬(300 : Int) < (a.size : Int) := by omega
  have z1 : ¬(300 : Int) < (b.size : Int) := by omega
  have z2 : ¬(300 : Int) < (c.size : Int) := by omega
  have zz : a.size + b.size ≤ 9223372036854775807 := by omega
  have es : Hid ((a ++ b).size = a.size + b.size) := ByteArray.size_append
  go_enter Try.func6, Try.ntmps6
  go_wp2_with fail
  refine (new_c 1000 _).mono ?_
  rintro e w1 ⟨rfl, X1, K1⟩
  rw [show clamp 1000 = 1000 from by decide] at X1
  have B1 := Lib.hid (Kept.below (Below.refl _ w) K1 (fun _ h => h.elim))
  clear K1
  generalize hg : w.heap.size = g at X1 ⊢
  have HG := Lib.hid hg
  clear hg
  go_wp2_with fail
  refine (new_c 1000 _).mono ?_
  rintro e w2 ⟨rfl, Y2, K2⟩
  rw [show clamp 1000 = 1000 from by decide] at Y2
  have X2 := X1.keep K2 (fun h => h) (fun h => h)
  have B2 := Lib.hid (Kept.below B1.out K2 (fun _ h => h.elim))
  have hq : g + 1 < w1.heap.size := X1.lb
  have hqq : g ≤ w1.heap.size := by omega
  generalize hr : w1.heap.size = r at Y2 hq ⊢
  clear X1 B1 K2 hr hqq
  go_wp2_with fail
  refine (awake_c _).mono ?_
  rintro e w3 ⟨rfl, hb3⟩
  have X3 := X2.keep (Kept.of_below hb3 (fun _ => False)) (fun h => h) (fun h => h)
  have Y3 := Y2.keep (Kept.of_below hb3 (fun _ => False)) (fun h => h) (fun h => h)
  have B3 := Lib.hid (Obj.step B2.out hb3)
  clear X2 Y2 B2 hb3
  go_wp2_with fail
  refine (begin_fits (g + 1) g 1000 _ _ (a ++ b) _ X3 (by rw [es.out]; omega)).mono ?_
  rintro e w4 ⟨rfl, X4, K4⟩
  have Y4 := Y3.keep K4 (by omega) (by omega)
  have B4 := Lib.hid (Kept.below B3.out K4 (fun i hi => by have := HG.out; omega))
  clear X3 Y3 B3 K4
  go_wp2_with fail
  refine (begin_fits (r + 1) r 1000 _ _ a _ Y4 (by omega)).mono ?_
  rintro e w5 ⟨rfl, Y5, K5⟩
  have X5 := X4.keep K5 (by omega) (by omega)
  have B5 := Lib.hid (Kept.below B4.out K5 (fun i hi => by have := HG.out; omega))
  clear X4 Y4 B4 K5
  go_wp2_with fail
  go_loopw [50] (fun i wr => ∃ k : Nat, k ≤ b.size ∧ i = .int .i64 k ∧ Cap wr (g + 1) g (bl (a ++ b)) true 1000 ∧ Cap wr (r + 1) r ((bl (a ++ b)).take (a.size + k)) true 1000 ∧ Below w.heap.size w wr) (fun i _ => b.size - (intOf i).toNat)
  case atStart => exact ⟨0, Nat.zero_le _, rfl, X5, by show Cap w5 (r + 1) r ((bl (a ++ b)).take a.size) true 1000; rw [take_first a b a.size (Nat.le_refl _), List.take_of_length_le (by rw [bl_length]; omega)]; exact Y5, B5.out⟩
  case round =>
    obtain ⟨k, hk, rfl, X, Y, B⟩ := hrel
    have B0 := Lib.hid B
    clear B
    by_cases hlt : k < b.size
    · have t1 : (k : Int) < (b.size : Int) := by omega
      have HT := Lib.hid (take_both a b k hlt)
      go_wp2_with fail
      refine (push_ok (r + 1) r 1000 _ _ _ Y (by rw [List.length_take, bl_length, es.out]; omega)).mono ?_
      rintro e w6 ⟨rfl, Y6, K6⟩
      rw [← HT.out] at Y6
      have X6 := X.keep K6 (by omega) (by omega)
      have B6 := Lib.hid (Kept.below B0.out K6 (fun i hi => by have := HG.out; omega))
      clear K6
      go_wp2_with fail
      go_roundw
      case rel => exact ⟨k + 1, by omega, by go_num, X6, Y6, B6.out⟩
      case measure => simp [intOf]; omega
    · obtain rfl : k = b.size := by omega
      have t1 : ¬(b.size : Int) < (b.size : Int) := by omega
      rw [List.take_of_length_le (by rw [bl_length, es.out]; omega)] at Y
      go_wp2_with fail
      refine (end_c (g + 1) g 1000 _ _ _ X).mono ?_
      rintro e w6 ⟨rfl, X6, K6⟩
      have Y6 := Y.keep K6 (by omega) (by omega)
      have B6 := Lib.hid (Kept.below B0.out K6 (fun i hi => by have := HG.out; omega))
      clear K6 X Y B0
      go_wp2_with fail
      refine (end_c (r + 1) r 1000 _ _ _ Y6).mono ?_
      rintro e w7 ⟨rfl, Y7, K7⟩
      have X7 := X6.keep K7 (by omega) (by omega)
      have B7 := Lib.hid (Kept.below B6.out K7 (fun i hi => by have := HG.out; omega))
      clear K7 X6 Y6 B6
      go_wp2_with fail
      obtain ⟨wo, hwo⟩ : ∃ wo : World, wo = wr := ⟨wr, rfl⟩
      go_loopw [65] (fun i wr => ∃ k : Nat, k ≤ c.size ∧ i = .int .i64 k ∧ Cap wr (g + 1) g (bl (a ++ b)) false 1000 ∧ Cap wr (r + 1) r (bl (a ++ b)) false 1000 ∧ Below w.heap.size w wr) (fun i _ => c.size - (intOf i).toNat)
      case atStart => exact ⟨0, Nat.zero_le _, rfl, X7, Y7, B7.out⟩
      case round =>
        obtain ⟨k, hk, rfl, X, Y, B⟩ := hrel
        have B0 := Lib.hid B
        clear B
        by_cases hlt : k < c.size
        · have t1 : (k : Int) < (c.size : Int) := by omega
          go_wp2_with fail
          refine (push_off (g + 1) g 1000 _ _ _ X).mono ?_
          rintro e w8 ⟨rfl, rfl⟩
          go_wp2_with fail
          go_roundw
          case rel => exact ⟨k + 1, by omega, by go_num, X, Y, B0.out⟩
          case measure => simp [intOf]; omega
        · obtain rfl : k = c.size := by omega
          have t1 : ¬(c.size : Int) < (c.size : Int) := by omega
          go_wp2_with fail
          refine (text_of (g + 1) g 1000 _ _ _ X).mono ?_
          rintro e w8 ⟨rfl, rfl⟩
          go_wp2_with fail
          refine (text_of (r + 1) r 1000 _ _ _ Y).mono ?_
          rintro e w8 ⟨rfl, rfl⟩
          go_wp2_with fail
          refine (on_c (g + 1) g 1000 _ _ _ X).mono ?_
          rintro e w8 ⟨rfl, rfl⟩
          go_wp2_with fail
          refine (begin_fits (g + 1) g 1000 _ _ c _ X (by omega)).mono ?_
          rintro e w8 ⟨rfl, X8, K8⟩
          have Y8 := Y.keep K8 (by omega) (by omega)
          have B8 := Lib.hid (Kept.below B0.out K8 (fun i hi => by have := HG.out; omega))
          clear K8
          go_wp2_with fail
          refine (text_of (g + 1) g 1000 _ _ _ X8).mono ?_
          rintro e w9 ⟨rfl, rfl⟩
          go_wp2_with fail
          refine (on_c (g + 1) g 1000 _ _ _ X8).mono ?_
          rintro e w9 ⟨rfl, rfl⟩
          go_wp2_with fail
          refine (text_of (r + 1) r 1000 _ _ _ Y8).mono ?_
          rintro e w9 ⟨rfl, rfl⟩
          go_wp2_with fail
          go_ret
          exact ⟨by first | rfl | (simp; done), B8.out⟩

theorem walk (a b c : ByteArray) (w : World) : Calls Try.prog 6 #[.string a, .string b, .string c] w fun e w' => e = .returned (.bool true) ∧ Below w.heap.size w w' := by
  by_cases h : 300 < a.size ∨ 300 < b.size ∨ 300 < c.size
  · exact walk_out a b c w h
  · exact walk_within a b c w (by omega) (by omega) (by omega)
end Go.Proofs.Ytgnmianhbbchgaa.Parts
