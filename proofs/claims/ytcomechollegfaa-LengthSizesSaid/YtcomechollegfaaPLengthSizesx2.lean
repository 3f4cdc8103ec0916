-- PRINTED BY print.sh 35421559b90ae4d0a3588c463048766b98c2df88dd9212a6774a882060cdf62d: not written by this session
import Derived.Test.YtcomechollegfaaPLengthSizesx0
import Derived.Test.YtcomechollegfaaPLengthSizesx1
namespace Go.Proofs.Ytcomechollegfaa.PLengthSizes
open Go.RowKit Go.Proofs.YtcomechollegfaaW.PrintWords Go.Proofs.YtcomechollegfaaW.PrintLast Go.Proofs.YtcomechollegfaaW.PrintMore
attribute [local go_sem] max2_int min2_int max_two min_two max_three min_three max_four min_four   -- for this text's walks alone
set_option linter.unusedVariables false
set_option linter.unusedSimpArgs false

/-! ### gantletlaw06_LengthSizes: function 8 -/
mutual
def gantletlaw06_LengthSizes.j0 : Nat → Int → ByteArray → Int → Bool → Option (Bool)
  | 0, _, _, _, _ => none
  | k + 1, x0, x3, x4, x22 => if x22 = true then ((gantletlaw06_awake.f k).bind fun t130 => (if t130 = true then (some (x4 != 0)) else (some false))) else (if x0 < 128 then (if (x3.size : Int) = 1 then (if 0 < (x3.size : Int) then (some ((wrap64 (bt x3 0)) == x0)) else (none)) else (some false)) else (gantletlaw06_LengthSizes.l0 k x3 0 x0))
def gantletlaw06_LengthSizes.l0 : Nat → ByteArray → Int → Int → Option (Bool)
  | 0, _, _, _ => none
  | k + 1, x3, x5, x6 => if x6 > 0 then (gantletlaw06_LengthSizes.l0 k x3 (wrap64 (x5 + 1)) (wrap64 (Int.tdiv x6 256))) else (if (x3.size : Int) = (wrap64 (1 + x5)) then (if 0 < (x3.size : Int) then (if (wrap64 (bt x3 0)) = (wrap64 (128 + x5)) then (if 1 < (x3.size : Int) then (some ((bt x3 1) != 0)) else (none)) else (some false)) else (none)) else (some false))
end
def gantletlaw06_LengthSizes.f (k : Nat) (a0 : Int) : Option (Bool) := (length_Put.f k a0).bind fun bt127 => ((gantletlaw06_awake.f k).bind fun t129 => (if t129 = true then (if bt127.2 = 0 then (gantletlaw06_LengthSizes.j0 k a0 bt127.1 bt127.2 ((bt127.1.size : Int) == 0)) else (gantletlaw06_LengthSizes.j0 k a0 bt127.1 bt127.2 true)) else (gantletlaw06_LengthSizes.j0 k a0 bt127.1 bt127.2 true)))
theorem gantletlaw06_LengthSizes.mono_l : ∀ k, (∀ y0 y1 y2 y3, LeO (gantletlaw06_LengthSizes.j0 k y0 y1 y2 y3) (gantletlaw06_LengthSizes.j0 (k + 1) y0 y1 y2 y3)) ∧ (∀ y0 y1 y2, LeO (gantletlaw06_LengthSizes.l0 k y0 y1 y2) (gantletlaw06_LengthSizes.l0 (k + 1) y0 y1 y2))
  | 0 => ⟨fun _ _ _ _ r h => by simp [gantletlaw06_LengthSizes.j0] at h, fun _ _ _ r h => by simp [gantletlaw06_LengthSizes.l0] at h⟩
  | k + 1 => by
    obtain ⟨ih0, ih1⟩ := gantletlaw06_LengthSizes.mono_l k
    refine ⟨?_, ?_⟩
    · intro y0 y1 y2 y3
      unfold gantletlaw06_LengthSizes.j0
      repeat' first
      | (with_reducible exact ih0 _ _ _ _)
      | (with_reducible exact ih1 _ _ _)
      | (with_reducible exact gantletlaw06_awake.mono _)
      | (with_reducible exact length_Put.mono _ _)
      | (with_reducible exact LeO.refl _)
      | (with_reducible exact LeO.none _)
      | (with_reducible refine LeO.ite ?_ ?_)
      | (with_reducible refine LeO.bind ?_ (fun _ => ?_))
      | exact ih0 _ _ _ _
      | exact ih1 _ _ _
      | exact gantletlaw06_awake.mono _
      | exact length_Put.mono _ _
      | exact LeO.none _
      | refine LeO.ite ?_ ?_
      | refine LeO.bind ?_ (fun _ => ?_)
    · intro y0 y1 y2
      unfold gantletlaw06_LengthSizes.l0
      repeat' first
      | (with_reducible exact ih0 _ _ _ _)
      | (with_reducible exact ih1 _ _ _)
      | (with_reducible exact gantletlaw06_awake.mono _)
      | (with_reducible exact length_Put.mono _ _)
      | (with_reducible exact LeO.refl _)
      | (with_reducible exact LeO.none _)
      | (with_reducible refine LeO.ite ?_ ?_)
      | (with_reducible refine LeO.bind ?_ (fun _ => ?_))
      | exact ih0 _ _ _ _
      | exact ih1 _ _ _
      | exact gantletlaw06_awake.mono _
      | exact length_Put.mono _ _
      | exact LeO.none _
      | refine LeO.ite ?_ ?_
      | refine LeO.bind ?_ (fun _ => ?_)
theorem gantletlaw06_LengthSizes.mono : ∀ a0 k, LeO (gantletlaw06_LengthSizes.f k a0) (gantletlaw06_LengthSizes.f (k + 1) a0) := by
  intro a0 k
  obtain ⟨ih0, ih1⟩ := gantletlaw06_LengthSizes.mono_l k
  unfold gantletlaw06_LengthSizes.f
  repeat' first
      | (with_reducible exact ih0 _ _ _ _)
      | (with_reducible exact ih1 _ _ _)
      | (with_reducible exact gantletlaw06_awake.mono _)
      | (with_reducible exact length_Put.mono _ _)
      | (with_reducible exact LeO.refl _)
      | (with_reducible exact LeO.none _)
      | (with_reducible refine LeO.ite ?_ ?_)
      | (with_reducible refine LeO.bind ?_ (fun _ => ?_))
      | exact ih0 _ _ _ _
      | exact ih1 _ _ _
      | exact gantletlaw06_awake.mono _
      | exact length_Put.mono _ _
      | exact LeO.none _
      | refine LeO.ite ?_ ?_
      | refine LeO.bind ?_ (fun _ => ?_)
set_option maxHeartbeats 8000000 in
set_option maxRecDepth 100000 in
theorem gantletlaw06_LengthSizes.calls (k : Nat) (a0 : Int) (r : Bool) (w : World) (h : gantletlaw06_LengthSizes.f k a0 = some r) :
    Calls Try.prog 8 #[.int .i64 a0] w fun e w' => e = .returned (.bool r) ∧ Below w.heap.size w w' := by
  have HB := Aside0.mk (Below.refl w.heap.size w)
  have H : ((length_Put.f k a0).bind fun bt127 => ((gantletlaw06_awake.f k).bind fun t129 => (if t129 = true then (if bt127.2 = 0 then (gantletlaw06_LengthSizes.j0 k a0 bt127.1 bt127.2 ((bt127.1.size : Int) == 0)) else (gantletlaw06_LengthSizes.j0 k a0 bt127.1 bt127.2 true)) else (gantletlaw06_LengthSizes.j0 k a0 bt127.1 bt127.2 true)))) = some r := h
  clear h
  replace H := Option.bind_eq_some_iff.mp H
  obtain ⟨⟨t127, t128⟩, A20, H⟩ := H
  replace H : ((gantletlaw06_awake.f k).bind fun t129 => (if t129 = true then (if t128 = 0 then (gantletlaw06_LengthSizes.j0 k a0 t127 t128 ((t127.size : Int) == 0)) else (gantletlaw06_LengthSizes.j0 k a0 t127 t128 true)) else (gantletlaw06_LengthSizes.j0 k a0 t127 t128 true))) = some r := H
  have A2 := Aside0.mk A20
  clear A20
  have HC3 := Aside0.mk H
  clear H
  go_enter Try.func8, Try.ntmps8
  go_upto_region 2 with (first | ((with_reducible refine gate_callee (f := 9) rfl ?_); refine goesL_ (some 9) rfl rfl Try.func9 (by kernel_rfl) rfl #[.int .i64 a0] rfl (by (try simp only [List.map_toArray, List.map_cons, List.map_nil]); first | done | rfl | (simp only [List.length_drop, List.length_take]; rfl)) ?_; (with_reducible refine (length_Put.calls k a0 t127 t128 _ A2.out).mono ?_); rintro e w4 ⟨rfl, hb⟩; refine ⟨_, rfl, ?_⟩; have n0_ := Aside0.mk (below_step (by repeat (first | (with_reducible first | exact HB.out | apply below_alloc | apply pw_below_drewN | apply below_drew1) | exact HB.out)) hb); clear HB; have HB := n0_; clear n0_; (try clear hb); (try clear hb2); (try clear hk); (try clear hi)))
  (try simp only [Act.put, List.setIfInBounds_toArray, List.set_cons_zero, List.set_cons_succ])
  go_cut [22] (fun v22 wc => ∃ (kq : Nat) (x22_2 : Bool), v22 = .bool x22_2 ∧ Aside0 (gantletlaw06_LengthSizes.j0 kq a0 t127 t128 x22_2 = some r) ∧ Aside0 (kq ≤ k) ∧ Aside0 (Below w.heap.size w wc))
  case first =>
    have H := HC3.out
    clear HC3
    replace H := Option.bind_eq_some_iff.mp H
    obtain ⟨t129, A50, H⟩ := H
    replace H : (if t129 = true then (if t128 = 0 then (gantletlaw06_LengthSizes.j0 k a0 t127 t128 ((t127.size : Int) == 0)) else (gantletlaw06_LengthSizes.j0 k a0 t127 t128 true)) else (gantletlaw06_LengthSizes.j0 k a0 t127 t128 true)) = some r := H
    have A5 := Aside0.mk A50
    clear A50
    by_cases c6 : t129 = true
    · subst c6
      have H1 : (if t128 = 0 then (gantletlaw06_LengthSizes.j0 k a0 t127 t128 ((t127.size : Int) == 0)) else (gantletlaw06_LengthSizes.j0 k a0 t127 t128 true)) = some r := by rw [if_pos rfl] at H; exact H
      clear H
      have H := H1
      clear H1
      by_cases c7 : t128 = 0
      · rw [if_pos c7] at H
        have c7b0 : (t128 == 0) = true := beq_iff_eq.mpr c7
        have c7b1 : (t128 != 0) = false := bne_eq_false_iff_eq.mpr c7
        clear c7
        (first | rw [c7b0] | (simp only [i64_w, i32_w]; rw [c7b0]) | skip)
        have H' := Aside0.mk H
        clear H
        go_wp2_with (first | ((with_reducible refine gate_callee (f := 11) rfl ?_); refine goesL_ (some 12) rfl rfl Try.func11 (by kernel_rfl) rfl #[] rfl (by (try simp only [List.map_toArray, List.map_cons, List.map_nil]); first | done | rfl | (simp only [List.length_drop, List.length_take]; rfl)) ?_; (with_reducible refine (gantletlaw06_awake.calls k  true _ A5.out).mono ?_); rintro e w8 ⟨rfl, hb⟩; refine ⟨_, rfl, ?_⟩; have n0_ := Aside0.mk (below_step (by repeat (first | (with_reducible first | exact HB.out | apply below_alloc | apply pw_below_drewN | apply below_drew1) | exact HB.out)) hb); clear HB; have HB := n0_; clear n0_; (try clear hb); (try clear hb2); (try clear hk); (try clear hi)))
        go_meet
        case rel => exact ⟨_, (((t127.size : Int) == 0)), (by first | rfl | (simp; done) | (simp [*]; done)), H', ⟨by first | omega | exact Nat.le_refl _⟩, ⟨by repeat (first | (with_reducible first | exact HB.out | apply below_alloc | apply pw_below_drewN | apply below_drew1) | exact HB.out)⟩⟩
      · rw [if_neg c7] at H
        have c7b0 : (t128 == 0) = false := beq_eq_false_iff_ne.mpr c7
        have c7b1 : (t128 != 0) = true := bne_iff_ne.mpr c7
        (first | rw [c7b0] | (simp only [i64_w, i32_w]; rw [c7b0]) | skip)
        have H' := Aside0.mk H
        clear H
        go_wp2_with (first | ((with_reducible refine gate_callee (f := 11) rfl ?_); refine goesL_ (some 12) rfl rfl Try.func11 (by kernel_rfl) rfl #[] rfl (by (try simp only [List.map_toArray, List.map_cons, List.map_nil]); first | done | rfl | (simp only [List.length_drop, List.length_take]; rfl)) ?_; (with_reducible refine (gantletlaw06_awake.calls k  true _ A5.out).mono ?_); rintro e w9 ⟨rfl, hb⟩; refine ⟨_, rfl, ?_⟩; have n0_ := Aside0.mk (below_step (by repeat (first | (with_reducible first | exact HB.out | apply below_alloc | apply pw_below_drewN | apply below_drew1) | exact HB.out)) hb); clear HB; have HB := n0_; clear n0_; (try clear hb); (try clear hb2); (try clear hk); (try clear hi)))
        go_meet
        case rel => exact ⟨_, (true), (by first | rfl | (simp; done) | (simp [*]; done)), H', ⟨by first | omega | exact Nat.le_refl _⟩, ⟨by repeat (first | (with_reducible first | exact HB.out | apply below_alloc | apply pw_below_drewN | apply below_drew1) | exact HB.out)⟩⟩
    · replace c6 := Bool.eq_false_iff.mpr c6
      subst c6
      have H1 : (gantletlaw06_LengthSizes.j0 k a0 t127 t128 true) = some r := by rw [if_neg (show ¬ (false = true) by decide)] at H; exact H
      clear H
      have H := H1
      clear H1
      have H' := Aside0.mk H
      clear H
      go_wp2_with (first | ((with_reducible refine gate_callee (f := 11) rfl ?_); refine goesL_ (some 12) rfl rfl Try.func11 (by kernel_rfl) rfl #[] rfl (by (try simp only [List.map_toArray, List.map_cons, List.map_nil]); first | done | rfl | (simp only [List.length_drop, List.length_take]; rfl)) ?_; (with_reducible refine (gantletlaw06_awake.calls k  false _ A5.out).mono ?_); rintro e w10 ⟨rfl, hb⟩; refine ⟨_, rfl, ?_⟩; have n0_ := Aside0.mk (below_step (by repeat (first | (with_reducible first | exact HB.out | apply below_alloc | apply pw_below_drewN | apply below_drew1) | exact HB.out)) hb); clear HB; have HB := n0_; clear n0_; (try clear hb); (try clear hb2); (try clear hk); (try clear hi)))
      go_meet
      case rel => exact ⟨_, (true), (by first | rfl | (simp; done) | (simp [*]; done)), H', ⟨by first | omega | exact Nat.le_refl _⟩, ⟨by repeat (first | (with_reducible first | exact HB.out | apply below_alloc | apply pw_below_drewN | apply below_drew1) | exact HB.out)⟩⟩
  case rest =>
    clear HC3
    try clear c1
    try clear p2
    try clear c6
    try clear c7
    try clear c7b0
    try clear c7b1
    try clear c8
    try clear c9
    obtain ⟨kq, x22_2, rfl, HA, HJ2, HB⟩ := hcut
    cases kq with
    | zero => exact absurd HA.out (by simp [gantletlaw06_LengthSizes.j0])
    | succ kj2 =>
      have H := HA.out
      clear HA
      simp only [gantletlaw06_LengthSizes.j0] at H
      by_cases c11 : x22_2 = true
      · subst c11
        have H1 : ((gantletlaw06_awake.f kj2).bind fun t130 => (if t130 = true then (some (t128 != 0)) else (some false))) = some r := by rw [if_pos rfl] at H; exact H
        clear H
        have H := H1
        clear H1
        replace H := Option.bind_eq_some_iff.mp H
        obtain ⟨t130, A120, H⟩ := H
        replace H : (if t130 = true then (some (t128 != 0)) else (some false)) = some r := H
        have A12 := Aside0.mk A120
        clear A120
        by_cases c13 : t130 = true
        · subst c13
          have H1 : (some (t128 != 0)) = some r := by rw [if_pos rfl] at H; exact H
          clear H
          have H := H1
          clear H1
          obtain rfl := Option.some.inj H
          go_wp2_with (first | ((with_reducible refine gate_callee (f := 11) rfl ?_); refine goesL_ (some 23) rfl rfl Try.func11 (by kernel_rfl) rfl #[] rfl (by (try simp only [List.map_toArray, List.map_cons, List.map_nil]); first | done | rfl | (simp only [List.length_drop, List.length_take]; rfl)) ?_; (with_reducible refine (gantletlaw06_awake.calls kj2  true _ A12.out).mono ?_); rintro e w14 ⟨rfl, hb⟩; refine ⟨_, rfl, ?_⟩; have n0_ := Aside0.mk (below_step (by repeat (first | (with_reducible first | exact HB.out | apply below_alloc | apply pw_below_drewN | apply below_drew1) | exact HB.out)) hb); clear HB; have HB := n0_; clear n0_; (try clear hb); (try clear hb2); (try clear hk); (try clear hi)))
          go_ret
          exact ⟨by first | rfl | (simp [errW_none, errW_some] <;> rfl) | (simp [*, errW_none, errW_some] <;> rfl), by repeat (first | (with_reducible first | exact HB.out | apply below_alloc | apply pw_below_drewN | apply below_drew1) | exact HB.out)⟩
        · replace c13 := Bool.eq_false_iff.mpr c13
          subst c13
          have H1 : (some false) = some r := by rw [if_neg (show ¬ (false = true) by decide)] at H; exact H
          clear H
          have H := H1
          clear H1
          obtain rfl := Option.some.inj H
          go_wp2_with (first | ((with_reducible refine gate_callee (f := 11) rfl ?_); refine goesL_ (some 23) rfl rfl Try.func11 (by kernel_rfl) rfl #[] rfl (by (try simp only [List.map_toArray, List.map_cons, List.map_nil]); first | done | rfl | (simp only [List.length_drop, List.length_take]; rfl)) ?_; (with_reducible refine (gantletlaw06_awake.calls kj2  false _ A12.out).mono ?_); rintro e w15 ⟨rfl, hb⟩; refine ⟨_, rfl, ?_⟩; have n0_ := Aside0.mk (below_step (by repeat (first | (with_reducible first | exact HB.out | apply below_alloc | apply pw_below_drewN | apply below_drew1) | exact HB.out)) hb); clear HB; have HB := n0_; clear n0_; (try clear hb); (try clear hb2); (try clear hk); (try clear hi)))
          go_ret
          exact ⟨by first | rfl | (simp [errW_none, errW_some] <;> rfl) | (simp [*, errW_none, errW_some] <;> rfl), by repeat (first | (with_reducible first | exact HB.out | apply below_alloc | apply pw_below_drewN | apply below_drew1) | exact HB.out)⟩
      · replace c11 := Bool.eq_false_iff.mpr c11
        subst c11
        have H1 : (if a0 < 128 then (if (t127.size : Int) = 1 then (if 0 < (t127.size : Int) then (some ((wrap64 (bt t127 0)) == a0)) else (none)) else (some false)) else (gantletlaw06_LengthSizes.l0 kj2 t127 0 a0)) = some r := by rw [if_neg (show ¬ (false = true) by decide)] at H; exact H
        clear H
        have H := H1
        clear H1
        by_cases c16 : a0 < 128
        · rw [if_pos c16] at H
          have c16b0 : decide (a0 < 128) = true := decide_eq_true c16
          clear c16
          by_cases c17 : (t127.size : Int) = 1
          · rw [if_pos c17] at H
            have c17b0 : ((t127.size : Int) == 1) = true := beq_iff_eq.mpr c17
            have c17b1 : ((t127.size : Int) != 1) = false := bne_eq_false_iff_eq.mpr c17
            clear c17
            by_cases c18 : 0 < (t127.size : Int)
            · rw [if_pos c18] at H
              have c18b0 : decide (0 < (t127.size : Int)) = true := decide_eq_true c18
              have c18b1 : decide (0 < t127.size) = true := decide_eq_true (by omega)
              clear c18
              obtain rfl := Option.some.inj H
              have p19 : 0 ≤ (0 : Int) := (by omega)
              have q19 : 0 < t127.size := (by have : (0 : Int) < (t127.size : Int) := of_decide_eq_true (by first | (with_reducible assumption) | assumption); omega)
              have hx19 : ∀ h : 0 < t127.size, ((t127[0]'h).toNat : Int) = bt t127 0 := bt_at t127 0
              clear p19
              have qi19 : (0 < (t127.size : Int)) = True := eq_true (of_decide_eq_true (by first | (with_reducible assumption) | assumption))
              replace q19 := eq_true q19
              go_wp2
              go_ret
              exact ⟨by first | rfl | (simp [errW_none, errW_some] <;> rfl) | (simp [*, errW_none, errW_some] <;> rfl), by repeat (first | (with_reducible first | exact HB.out | apply below_alloc | apply pw_below_drewN | apply below_drew1) | exact HB.out)⟩
            · rw [if_neg c18] at H
              exact absurd H (by simp)
          · rw [if_neg c17] at H
            have c17b0 : ((t127.size : Int) == 1) = false := beq_eq_false_iff_ne.mpr c17
            have c17b1 : ((t127.size : Int) != 1) = true := bne_iff_ne.mpr c17
            obtain rfl := Option.some.inj H
            go_wp2
            go_ret
            exact ⟨by first | rfl | (simp [errW_none, errW_some] <;> rfl) | (simp [*, errW_none, errW_some] <;> rfl), by repeat (first | (with_reducible first | exact HB.out | apply below_alloc | apply pw_below_drewN | apply below_drew1) | exact HB.out)⟩
        · rw [if_neg c16] at H
          have c16b0 : decide (a0 < 128) = false := decide_eq_false c16
          clear c16
          have H' := Aside0.mk H
          clear H
          go_wp2
          go_loopg [5, 6] kj2 (fun kq v5 v6 w' => ∃ (x5_2 : Int) (x6_2 : Int), v5 = .int .i64 x5_2 ∧ v6 = .int .i64 x6_2 ∧ Aside0 (gantletlaw06_LengthSizes.l0 kq t127 x5_2 x6_2 = some r) ∧ Aside0 (kq ≤ kj2) ∧ Aside0 (Below w.heap.size w w'))
          case atStart => exact ⟨(0), (a0), (by first | rfl | (simp; done) | (simp [*]; done)), (by first | rfl | (simp; done) | (simp [*]; done)), H', ⟨Nat.le_refl _⟩, ⟨by repeat (first | (with_reducible first | exact HB.out | apply below_alloc | apply pw_below_drewN | apply below_drew1) | exact HB.out)⟩⟩
          case round =>
            clear H'
            try clear c1
            try clear p1
            try clear q1
            try clear hx1
            try clear qi1
            try clear p2
            try clear c6
            try clear p6
            try clear c7
            try clear c7b0
            try clear c7b1
            try clear c8
            try clear c9
            try clear c11
            try clear c13
            try clear c16
            try clear c16b0
            try clear c17
            try clear c17b0
            try clear c17b1
            try clear c18
            try clear c18b0
            try clear c18b1
            try clear p19
            try clear q19
            try clear hx19
            try clear qi19
            try clear p19
            try clear p2
            try clear q19
            obtain ⟨x5_2, x6_2, rfl, rfl, HA, HK2, HB⟩ := hrel
            cases gk with
            | zero => exact absurd HA.out (by simp [gantletlaw06_LengthSizes.l0])
            | succ k2 =>
              have H := HA.out
              clear HA
              simp only [gantletlaw06_LengthSizes.l0] at H
              by_cases c20 : x6_2 > 0
              · rw [if_pos c20] at H
                have c20b0 : decide (0 < x6_2) = true := decide_eq_true c20
                clear c20
                have H' := Aside0.mk H
                clear H
                go_wp2
                go_roundg k2
                case measure => have := HJ2.out; have := HK2.out; omega
                case rel => exact ⟨(wrap64 (x5_2 + 1)), (wrap64 (Int.tdiv x6_2 256)), (by first | rfl | (simp; done) | (simp [*]; done)), (by first | rfl | (simp; done) | (simp [*]; done)), H', ⟨by have := HJ2.out; have := HK2.out; omega⟩, ⟨by repeat (first | (with_reducible first | exact HB.out | apply below_alloc | apply pw_below_drewN | apply below_drew1) | exact HB.out)⟩⟩
              · rw [if_neg c20] at H
                have c20b0 : decide (0 < x6_2) = false := decide_eq_false c20
                clear c20
                by_cases c21 : (t127.size : Int) = (wrap64 (1 + x5_2))
                · rw [if_pos c21] at H
                  have c21b0 : ((t127.size : Int) == (wrap64 (1 + x5_2))) = true := beq_iff_eq.mpr c21
                  have c21b1 : ((t127.size : Int) != (wrap64 (1 + x5_2))) = false := bne_eq_false_iff_eq.mpr c21
                  clear c21
                  by_cases c22 : 0 < (t127.size : Int)
                  · rw [if_pos c22] at H
                    have c22b0 : decide (0 < (t127.size : Int)) = true := decide_eq_true c22
                    have c22b1 : decide (0 < t127.size) = true := decide_eq_true (by omega)
                    clear c22
                    by_cases c24 : (wrap64 (bt t127 0)) = (wrap64 (128 + x5_2))
                    · rw [if_pos c24] at H
                      have c24b0 : ((wrap64 (bt t127 0)) == (wrap64 (128 + x5_2))) = true := beq_iff_eq.mpr c24
                      have c24b1 : ((wrap64 (bt t127 0)) != (wrap64 (128 + x5_2))) = false := bne_eq_false_iff_eq.mpr c24
                      clear c24
                      by_cases c25 : 1 < (t127.size : Int)
                      · rw [if_pos c25] at H
                        have c25b0 : decide (1 < (t127.size : Int)) = true := decide_eq_true c25
                        have c25b1 : decide (1 < t127.size) = true := decide_eq_true (by omega)
                        clear c25
                        obtain rfl := Option.some.inj H
                        have p23 : 0 ≤ (0 : Int) := (by omega)
                        have q23 : 0 < t127.size := (by have : (0 : Int) < (t127.size : Int) := of_decide_eq_true (by first | (with_reducible assumption) | assumption); omega)
                        have hx23 : ∀ h : 0 < t127.size, ((t127[0]'h).toNat : Int) = bt t127 0 := bt_at t127 0
                        clear p23
                        have qi23 : (0 < (t127.size : Int)) = True := eq_true (of_decide_eq_true (by first | (with_reducible assumption) | assumption))
                        replace q23 := eq_true q23
                        have p26 : 0 ≤ (1 : Int) := (by omega)
                        have q26 : 1 < t127.size := (by have : (1 : Int) < (t127.size : Int) := of_decide_eq_true (by first | (with_reducible assumption) | assumption); omega)
                        have hx26 : ∀ h : 1 < t127.size, ((t127[1]'h).toNat : Int) = bt t127 1 := bt_at t127 1
                        clear p26
                        have qi26 : (1 < (t127.size : Int)) = True := eq_true (of_decide_eq_true (by first | (with_reducible assumption) | assumption))
                        replace q26 := eq_true q26
                        go_wp2
                        go_ret
                        exact ⟨by first | rfl | (simp [errW_none, errW_some] <;> rfl) | (simp [*, errW_none, errW_some] <;> rfl), by repeat (first | (with_reducible first | exact HB.out | apply below_alloc | apply pw_below_drewN | apply below_drew1) | exact HB.out)⟩
                      · rw [if_neg c25] at H
                        exact absurd H (by simp)
                    · rw [if_neg c24] at H
                      have c24b0 : ((wrap64 (bt t127 0)) == (wrap64 (128 + x5_2))) = false := beq_eq_false_iff_ne.mpr c24
                      have c24b1 : ((wrap64 (bt t127 0)) != (wrap64 (128 + x5_2))) = true := bne_iff_ne.mpr c24
                      obtain rfl := Option.some.inj H
                      have p23 : 0 ≤ (0 : Int) := (by omega)
                      have q23 : 0 < t127.size := (by have : (0 : Int) < (t127.size : Int) := of_decide_eq_true (by first | (with_reducible assumption) | assumption); omega)
                      have hx23 : ∀ h : 0 < t127.size, ((t127[0]'h).toNat : Int) = bt t127 0 := bt_at t127 0
                      clear p23
                      have qi23 : (0 < (t127.size : Int)) = True := eq_true (of_decide_eq_true (by first | (with_reducible assumption) | assumption))
                      replace q23 := eq_true q23
                      go_wp2
                      go_ret
                      exact ⟨by first | rfl | (simp [errW_none, errW_some] <;> rfl) | (simp [*, errW_none, errW_some] <;> rfl), by repeat (first | (with_reducible first | exact HB.out | apply below_alloc | apply pw_below_drewN | apply below_drew1) | exact HB.out)⟩
                  · rw [if_neg c22] at H
                    exact absurd H (by simp)
                · rw [if_neg c21] at H
                  have c21b0 : ((t127.size : Int) == (wrap64 (1 + x5_2))) = false := beq_eq_false_iff_ne.mpr c21
                  have c21b1 : ((t127.size : Int) != (wrap64 (1 + x5_2))) = true := bne_iff_ne.mpr c21
                  obtain rfl := Option.some.inj H
                  go_wp2
                  go_ret
                  exact ⟨by first | rfl | (simp [errW_none, errW_some] <;> rfl) | (simp [*, errW_none, errW_some] <;> rfl), by repeat (first | (with_reducible first | exact HB.out | apply below_alloc | apply pw_below_drewN | apply below_drew1) | exact HB.out)⟩

/-- THE ONE PURE STATEMENT of gantletlaw06_LengthSizes: yours. -/
def gantletlaw06_LengthSizes.Pure : Prop := ∀ (a0 : Int), (Lit.int .i64 a0).wf = true → ∃ k, gantletlaw06_LengthSizes.f k a0 = some true
theorem gantletlaw06_LengthSizes.walk (P : gantletlaw06_LengthSizes.Pure) (a0 : Int) (w : World) (w0 : (Lit.int .i64 a0).wf = true) :
    Calls Try.prog 8 #[.int .i64 a0] w fun e w' => e = .returned (.bool true) ∧ Below w.heap.size w w' := by
  obtain ⟨k, h⟩ := P a0 w0
  refine (gantletlaw06_LengthSizes.calls k a0 true w h).mono ?_
  rintro e w' ⟨rfl, hd⟩
  exact ⟨rfl, hd⟩

end Go.Proofs.Ytcomechollegfaa.PLengthSizes
