-- PRINTED BY print.sh 35421559b90ae4d0a3588c463048766b98c2df88dd9212a6774a882060cdf62d: not written by this session
import Derived.Test.YtlncpjjeieajmaaPBitstrPutsx0
import Derived.Test.YtlncpjjeieajmaaPBitstrPutsx1
import Derived.Test.YtlncpjjeieajmaaPBitstrPutsx2
namespace Go.Proofs.Ytlncpjjeieajmaa.PBitstrPuts
open Go.RowKit Go.Proofs.YtlncpjjeieajmaaW.PrintWords Go.Proofs.YtlncpjjeieajmaaW.PrintLast Go.Proofs.YtlncpjjeieajmaaW.PrintMore
attribute [local go_sem] max2_int min2_int max_two min_two max_three min_three max_four min_four   -- for this text's walks alone
set_option linter.unusedVariables false
set_option linter.unusedSimpArgs false

/-! ### gantletref12_Put: function 14 -/
def gantletref12_Put.f (k : Nat) (a0 : Int) (a1 : ByteArray) : Option (ByteArray × Bool) := if a0 < 0 then (some ((⟨#[]⟩ : ByteArray), false)) else (if a0 > 7 then (some ((⟨#[]⟩ : ByteArray), false)) else ((some (([(a0) % 256] : List Int) : List Int)).bind fun y151 => (if (strOfNums y151).size + a1.size ≤ 9223372036854775807 then ((gantletref12_Right.f k ((strOfNums y151) ++ a1)).bind fun t154 => (if t154 = true then ((some (([(a0) % 256] : List Int) : List Int)).bind fun y155 => (if (strOfNums y155).size + a1.size ≤ 9223372036854775807 then (some ((strOfNums y155) ++ a1, true)) else (none))) else (some ((⟨#[]⟩ : ByteArray), false)))) else (none))))
theorem gantletref12_Put.mono : ∀ a0 a1 k, LeO (gantletref12_Put.f k a0 a1) (gantletref12_Put.f (k + 1) a0 a1) := by
  intro a0 a1 k
  unfold gantletref12_Put.f
  repeat' first
      | (with_reducible exact gantletref12_Right.mono _ _)
      | (with_reducible exact LeO.refl _)
      | (with_reducible exact LeO.none _)
      | (with_reducible refine LeO.ite ?_ ?_)
      | (with_reducible refine LeO.bind ?_ (fun _ => ?_))
      | exact gantletref12_Right.mono _ _
      | exact LeO.none _
      | refine LeO.ite ?_ ?_
      | refine LeO.bind ?_ (fun _ => ?_)
set_option maxHeartbeats 8000000 in
set_option maxRecDepth 100000 in
theorem gantletref12_Put.calls (k : Nat) (a0 : Int) (a1 : ByteArray) (r1 : ByteArray) (r2 : Bool) (w : World) (h : gantletref12_Put.f k a0 a1 = some (r1, r2)) :
    Calls Try.prog 14 #[.int .i64 a0, .string a1] w fun e w' => e = .returned (.tuple #[.string r1, .bool r2]) ∧ Below w.heap.size w w' := by
  have HB := Aside0.mk (Below.refl w.heap.size w)
  have H : (if a0 < 0 then (some ((⟨#[]⟩ : ByteArray), false)) else (if a0 > 7 then (some ((⟨#[]⟩ : ByteArray), false)) else ((some (([(a0) % 256] : List Int) : List Int)).bind fun y151 => (if (strOfNums y151).size + a1.size ≤ 9223372036854775807 then ((gantletref12_Right.f k ((strOfNums y151) ++ a1)).bind fun t154 => (if t154 = true then ((some (([(a0) % 256] : List Int) : List Int)).bind fun y155 => (if (strOfNums y155).size + a1.size ≤ 9223372036854775807 then (some ((strOfNums y155) ++ a1, true)) else (none))) else (some ((⟨#[]⟩ : ByteArray), false)))) else (none))))) = some (r1, r2) := h
  clear h
  by_cases c3 : a0 < 0
  · rw [if_pos c3] at H
    have c3b0 : decide (a0 < 0) = true := decide_eq_true c3
    clear c3
    simp only [Option.some.injEq, Prod.mk.injEq] at H
    obtain ⟨rfl, rfl⟩ := H
    go_enter Try.func14, Try.ntmps14
    go_wp2
    go_ret2
    exact ⟨by first | rfl | (simp [errW_none, errW_some] <;> rfl) | (simp [*, errW_none, errW_some] <;> rfl), by repeat (first | (with_reducible first | exact HB.out | apply below_alloc | apply pw_below_drewN | apply below_drew1) | exact HB.out)⟩
  · rw [if_neg c3] at H
    have c3b0 : decide (a0 < 0) = false := decide_eq_false c3
    clear c3
    by_cases c4 : a0 > 7
    · rw [if_pos c4] at H
      have c4b0 : decide (7 < a0) = true := decide_eq_true c4
      clear c4
      simp only [Option.some.injEq, Prod.mk.injEq] at H
      obtain ⟨rfl, rfl⟩ := H
      go_enter Try.func14, Try.ntmps14
      go_wp2
      go_ret2
      exact ⟨by first | rfl | (simp [errW_none, errW_some] <;> rfl) | (simp [*, errW_none, errW_some] <;> rfl), by repeat (first | (with_reducible first | exact HB.out | apply below_alloc | apply pw_below_drewN | apply below_drew1) | exact HB.out)⟩
    · rw [if_neg c4] at H
      have c4b0 : decide (7 < a0) = false := decide_eq_false c4
      clear c4
      obtain ⟨y151, hy151⟩ : ∃ y_ : List Int, y_ = (([(a0) % 256] : List Int)) := ⟨_, rfl⟩
      replace H : (if (strOfNums y151).size + a1.size ≤ 9223372036854775807 then ((gantletref12_Right.f k ((strOfNums y151) ++ a1)).bind fun t154 => (if t154 = true then ((some (([(a0) % 256] : List Int) : List Int)).bind fun y155 => (if (strOfNums y155).size + a1.size ≤ 9223372036854775807 then (some ((strOfNums y155) ++ a1, true)) else (none))) else (some ((⟨#[]⟩ : ByteArray), false)))) else (none)) = some (r1, r2) := by first | (rw [hy151]; with_reducible exact H) | (have H2_ := (Option.bind_some _ _).symm.trans H; rw [hy151]; with_reducible exact H2_) | (have H2_ := (Option.bind_some _ _).symm.trans H; with_reducible exact H2_) | with_reducible exact H | (rw [hy151]; exact H) | exact H
      have Ny151 := Aside0.mk hy151
      clear hy151
      by_cases c5 : (strOfNums y151).size + a1.size ≤ 9223372036854775807
      · rw [if_pos c5] at H
        have c5b0 := eq_true c5
        have c5b1 : decide ((strOfNums y151).size + a1.size ≤ 9223372036854775807) = true := decide_eq_true c5
        try have c5b2 : (9223372036854775807 < (strOfNums y151).size + a1.size) = False := eq_false (Nat.not_lt.2 c5)
        replace H := Option.bind_eq_some_iff.mp H
        obtain ⟨t154, A60, H⟩ := H
        replace H : (if t154 = true then ((some (([(a0) % 256] : List Int) : List Int)).bind fun y155 => (if (strOfNums y155).size + a1.size ≤ 9223372036854775807 then (some ((strOfNums y155) ++ a1, true)) else (none))) else (some ((⟨#[]⟩ : ByteArray), false))) = some (r1, r2) := H
        have A6 := Aside0.mk A60
        clear A60
        by_cases c7 : t154 = true
        · subst c7
          have H1 : ((some (([(a0) % 256] : List Int) : List Int)).bind fun y155 => (if (strOfNums y155).size + a1.size ≤ 9223372036854775807 then (some ((strOfNums y155) ++ a1, true)) else (none))) = some (r1, r2) := by rw [if_pos rfl] at H; exact H
          clear H
          have H := H1
          clear H1
          obtain ⟨y155, hy155⟩ : ∃ y_ : List Int, y_ = (([(a0) % 256] : List Int)) := ⟨_, rfl⟩
          replace H : (if (strOfNums y155).size + a1.size ≤ 9223372036854775807 then (some ((strOfNums y155) ++ a1, true)) else (none)) = some (r1, r2) := by first | (rw [hy155]; with_reducible exact H) | (have H2_ := (Option.bind_some _ _).symm.trans H; rw [hy155]; with_reducible exact H2_) | (have H2_ := (Option.bind_some _ _).symm.trans H; with_reducible exact H2_) | with_reducible exact H | (rw [hy155]; exact H) | exact H
          have Ny155 := Aside0.mk hy155
          clear hy155
          by_cases c8 : (strOfNums y155).size + a1.size ≤ 9223372036854775807
          · rw [if_pos c8] at H
            have c8b0 := eq_true c8
            have c8b1 : decide ((strOfNums y155).size + a1.size ≤ 9223372036854775807) = true := decide_eq_true c8
            try have c8b2 : (9223372036854775807 < (strOfNums y155).size + a1.size) = False := eq_false (Nat.not_lt.2 c8)
            simp only [Option.some.injEq, Prod.mk.injEq] at H
            obtain ⟨rfl, rfl⟩ := H
            go_enter Try.func14, Try.ntmps14
            go_wp2_with (first | ((with_reducible refine gate_dst (N := 15) rfl ?_); (try (refine gate_guard (by rfl) ?_; dsimp only)); refine Kd.R_lit (Kd.int .u8) _ 5 ?hg (N := 15) ?hd (xs := ([(a0) % 256] : List Int)) (inner := [.int .u8 ((a0) % 256)]) (ok := fun _ => True) (okp := fun _ => True) ?hr ?hp (fun _ hk => hk) trivial (Below.refl _ _) (Nat.le_refl _) (by simp) ?_; (case hd => rfl); (case hg => rfl); (case hr => first | (go_simp; done) | (go_simp; rfl)); (case hp => exact (Reps.one (show Kd.M (Kd.int .u8) _ _ _ ((a0) % 256) [.int .u8 ((a0) % 256)] from rfl) (Reps.none _ _))); intro v152 w9 ho10 hb hg_ hnew_; clear hg_ hnew_; (first | rw [← Ny151.out] at ho10 | (simp only [Int.reduceToNat] at ho10; rw [← Ny151.out] at ho10)); have n0_ := Aside0.mk (Kd.R_lower ho10 (below_size (by repeat (first | (with_reducible first | exact HB.out | apply below_alloc | apply pw_below_drewN | apply below_drew1) | exact HB.out)))); have n1_ := Aside0.mk (below_step (by repeat (first | (with_reducible first | exact HB.out | apply below_alloc | apply pw_below_drewN | apply below_drew1) | exact HB.out)) hb); clear HB; have HO153 := n0_; have HB := n1_; clear n0_ n1_; clear hb ho10; have hcv11 := own_string (P := Try.prog) Try.underlying38 Try.underlying5 Try.underlying9 (Kd.own_of_R HO153.out)) | (go_at_call 16; (with_reducible refine (gantletref12_Right.calls k ((strOfNums y151) ++ a1) true _ A6.out).mono ?_); rintro e w' ⟨rfl, ⟨nd, rfl⟩⟩) | ((with_reducible refine gate_dst (N := 24) rfl ?_); (try (refine gate_guard (by rfl) ?_; dsimp only)); refine Kd.R_lit (Kd.int .u8) _ 5 ?hg (N := 24) ?hd (xs := ([(a0) % 256] : List Int)) (inner := [.int .u8 ((a0) % 256)]) (ok := fun _ => True) (okp := fun _ => True) ?hr ?hp (fun _ hk => hk) trivial (Below.refl _ _) (Nat.le_refl _) (by simp) ?_; (case hd => rfl); (case hg => rfl); (case hr => first | (go_simp; done) | (go_simp; rfl)); (case hp => exact (Reps.one (show Kd.M (Kd.int .u8) _ _ _ ((a0) % 256) [.int .u8 ((a0) % 256)] from rfl) (Reps.none _ _))); intro v156 w12 ho13 hb hg_ hnew_; clear hg_ hnew_; (first | rw [← Ny155.out] at ho13 | (simp only [Int.reduceToNat] at ho13; rw [← Ny155.out] at ho13)); have n0_ := Aside0.mk (Kd.R_elder' (by (with_reducible repeat (first | apply Kd.R_alloc | apply Kd.R_drewN | apply Kd.R_drew)); exact HO153.out) (Kd.R_base ho13) hb); have n1_ := Aside0.mk (Kd.R_lower (Kd.R_new' ho13 (Kd.R_lt (by (with_reducible repeat (first | apply Kd.R_alloc | apply Kd.R_drewN | apply Kd.R_drew)); exact HO153.out))) (below_size (by repeat (first | (with_reducible first | exact HB.out | apply below_alloc | apply pw_below_drewN | apply below_drew1) | exact HB.out)))); have n2_ := Aside0.mk (below_step (by repeat (first | (with_reducible first | exact HB.out | apply below_alloc | apply pw_below_drewN | apply below_drew1) | exact HB.out)) hb); clear HO153; clear HB; have HO153 := n0_; have HO157 := n1_; have HB := n2_; clear n0_ n1_ n2_; clear hb ho13; have hcv14 := own_string (P := Try.prog) Try.underlying38 Try.underlying5 Try.underlying9 (Kd.own_of_R HO157.out)))
            go_ret2
            exact ⟨by first | rfl | (simp [errW_none, errW_some] <;> rfl) | (simp [*, errW_none, errW_some] <;> rfl), by repeat (first | (with_reducible first | exact HB.out | apply below_alloc | apply pw_below_drewN | apply below_drew1) | exact HB.out)⟩
          · rw [if_neg c8] at H
            exact absurd H (by simp)
        · replace c7 := Bool.eq_false_iff.mpr c7
          subst c7
          have H1 : (some ((⟨#[]⟩ : ByteArray), false)) = some (r1, r2) := by rw [if_neg (show ¬ (false = true) by decide)] at H; exact H
          clear H
          have H := H1
          clear H1
          simp only [Option.some.injEq, Prod.mk.injEq] at H
          obtain ⟨rfl, rfl⟩ := H
          go_enter Try.func14, Try.ntmps14
          go_wp2_with (first | ((with_reducible refine gate_dst (N := 15) rfl ?_); (try (refine gate_guard (by rfl) ?_; dsimp only)); refine Kd.R_lit (Kd.int .u8) _ 5 ?hg (N := 15) ?hd (xs := ([(a0) % 256] : List Int)) (inner := [.int .u8 ((a0) % 256)]) (ok := fun _ => True) (okp := fun _ => True) ?hr ?hp (fun _ hk => hk) trivial (Below.refl _ _) (Nat.le_refl _) (by simp) ?_; (case hd => rfl); (case hg => rfl); (case hr => first | (go_simp; done) | (go_simp; rfl)); (case hp => exact (Reps.one (show Kd.M (Kd.int .u8) _ _ _ ((a0) % 256) [.int .u8 ((a0) % 256)] from rfl) (Reps.none _ _))); intro v152 w15 ho16 hb hg_ hnew_; clear hg_ hnew_; (first | rw [← Ny151.out] at ho16 | (simp only [Int.reduceToNat] at ho16; rw [← Ny151.out] at ho16)); have n0_ := Aside0.mk (Kd.R_lower ho16 (below_size (by repeat (first | (with_reducible first | exact HB.out | apply below_alloc | apply pw_below_drewN | apply below_drew1) | exact HB.out)))); have n1_ := Aside0.mk (below_step (by repeat (first | (with_reducible first | exact HB.out | apply below_alloc | apply pw_below_drewN | apply below_drew1) | exact HB.out)) hb); clear HB; have HO153 := n0_; have HB := n1_; clear n0_ n1_; clear hb ho16; have hcv17 := own_string (P := Try.prog) Try.underlying38 Try.underlying5 Try.underlying9 (Kd.own_of_R HO153.out)) | (go_at_call 16; (with_reducible refine (gantletref12_Right.calls k ((strOfNums y151) ++ a1) false _ A6.out).mono ?_); rintro e w' ⟨rfl, ⟨nd, rfl⟩⟩))
          go_ret2
          exact ⟨by first | rfl | (simp [errW_none, errW_some] <;> rfl) | (simp [*, errW_none, errW_some] <;> rfl), by repeat (first | (with_reducible first | exact HB.out | apply below_alloc | apply pw_below_drewN | apply below_drew1) | exact HB.out)⟩
      · rw [if_neg c5] at H
        exact absurd H (by simp)

/-! ### gantletlaw12_BitstrPuts: function 4 -/
mutual
def gantletlaw12_BitstrPuts.j0 : Nat → Int → ByteArray → ByteArray → Bool → Option (Bool)
  | 0, _, _, _, _ => none
  | k + 1, x0, x1, x2, x25 => if x25 = true then ((gantletlaw12_awake.f k).bind fun t159 => (some t159)) else ((bitstr_Put.f k x0 x1).bind fun bt160 => ((gantletref12_Put.f k x0 x1).bind fun bt162 => ((bitstr_Get.f k x2).bind fun bt164 => (if bt160.1.toList = bt162.1.toList then (if (bt160.2 != bt162.2) = true then (gantletlaw12_BitstrPuts.j1 k x2 bt164.1 bt164.2.1 bt164.2.2 true) else ((gantletref12_Right.f k x2).bind fun t167 => (gantletlaw12_BitstrPuts.j1 k x2 bt164.1 bt164.2.1 bt164.2.2 (bt164.2.2 != t167)))) else (gantletlaw12_BitstrPuts.j1 k x2 bt164.1 bt164.2.1 bt164.2.2 true)))))
def gantletlaw12_BitstrPuts.j1 : Nat → ByteArray → Int → ByteArray → Bool → Bool → Option (Bool)
  | 0, _, _, _, _, _ => none
  | k + 1, x2, x11, x12, x13, x58 => if x58 = true then (some false) else (if x13 = true then (if 0 < (x2.size : Int) then (if x11 = (wrap64 (bt x2 0)) then (if 1 ≤ (x2.size : Int) then (some (x12.toList == (x2.extract 1 x2.size).toList)) else (none)) else (some false)) else (none)) else (if x11 = 0 then (some (x12.toList == ([] : List UInt8))) else (some false)))
end
def gantletlaw12_BitstrPuts.f (k : Nat) (a0 : Int) (a1 : ByteArray) (a2 : ByteArray) : Option (Bool) := (gantletlaw12_awake.f k).bind fun t158 => (if t158 = true then (if (a1.size : Int) > 300 then (gantletlaw12_BitstrPuts.j0 k a0 a1 a2 true) else (gantletlaw12_BitstrPuts.j0 k a0 a1 a2 (decide ((a2.size : Int) > 300)))) else (gantletlaw12_BitstrPuts.j0 k a0 a1 a2 true))
theorem gantletlaw12_BitstrPuts.mono_l : ∀ k, (∀ y0 y1 y2 y3, LeO (gantletlaw12_BitstrPuts.j0 k y0 y1 y2 y3) (gantletlaw12_BitstrPuts.j0 (k + 1) y0 y1 y2 y3)) ∧ (∀ y0 y1 y2 y3 y4, LeO (gantletlaw12_BitstrPuts.j1 k y0 y1 y2 y3 y4) (gantletlaw12_BitstrPuts.j1 (k + 1) y0 y1 y2 y3 y4))
  | 0 => ⟨fun _ _ _ _ r h => by simp [gantletlaw12_BitstrPuts.j0] at h, fun _ _ _ _ _ r h => by simp [gantletlaw12_BitstrPuts.j1] at h⟩
  | k + 1 => by
    obtain ⟨ih0, ih1⟩ := gantletlaw12_BitstrPuts.mono_l k
    refine ⟨?_, ?_⟩
    · intro y0 y1 y2 y3
      unfold gantletlaw12_BitstrPuts.j0
      repeat' first
      | (with_reducible exact ih0 _ _ _ _)
      | (with_reducible exact ih1 _ _ _ _ _)
      | (with_reducible exact bitstr_Get.mono _ _)
      | (with_reducible exact bitstr_Put.mono _ _ _)
      | (with_reducible exact gantletlaw12_awake.mono _)
      | (with_reducible exact gantletref12_Put.mono _ _ _)
      | (with_reducible exact gantletref12_Right.mono _ _)
      | (with_reducible exact LeO.refl _)
      | (with_reducible exact LeO.none _)
      | (with_reducible refine LeO.ite ?_ ?_)
      | (with_reducible refine LeO.bind ?_ (fun _ => ?_))
      | exact ih0 _ _ _ _
      | exact ih1 _ _ _ _ _
      | exact bitstr_Get.mono _ _
      | exact bitstr_Put.mono _ _ _
      | exact gantletlaw12_awake.mono _
      | exact gantletref12_Put.mono _ _ _
      | exact gantletref12_Right.mono _ _
      | exact LeO.none _
      | refine LeO.ite ?_ ?_
      | refine LeO.bind ?_ (fun _ => ?_)
    · intro y0 y1 y2 y3 y4
      unfold gantletlaw12_BitstrPuts.j1
      repeat' first
      | (with_reducible exact ih0 _ _ _ _)
      | (with_reducible exact ih1 _ _ _ _ _)
      | (with_reducible exact bitstr_Get.mono _ _)
      | (with_reducible exact bitstr_Put.mono _ _ _)
      | (with_reducible exact gantletlaw12_awake.mono _)
      | (with_reducible exact gantletref12_Put.mono _ _ _)
      | (with_reducible exact gantletref12_Right.mono _ _)
      | (with_reducible exact LeO.refl _)
      | (with_reducible exact LeO.none _)
      | (with_reducible refine LeO.ite ?_ ?_)
      | (with_reducible refine LeO.bind ?_ (fun _ => ?_))
      | exact ih0 _ _ _ _
      | exact ih1 _ _ _ _ _
      | exact bitstr_Get.mono _ _
      | exact bitstr_Put.mono _ _ _
      | exact gantletlaw12_awake.mono _
      | exact gantletref12_Put.mono _ _ _
      | exact gantletref12_Right.mono _ _
      | exact LeO.none _
      | refine LeO.ite ?_ ?_
      | refine LeO.bind ?_ (fun _ => ?_)
theorem gantletlaw12_BitstrPuts.mono : ∀ a0 a1 a2 k, LeO (gantletlaw12_BitstrPuts.f k a0 a1 a2) (gantletlaw12_BitstrPuts.f (k + 1) a0 a1 a2) := by
  intro a0 a1 a2 k
  obtain ⟨ih0, ih1⟩ := gantletlaw12_BitstrPuts.mono_l k
  unfold gantletlaw12_BitstrPuts.f
  repeat' first
      | (with_reducible exact ih0 _ _ _ _)
      | (with_reducible exact ih1 _ _ _ _ _)
      | (with_reducible exact bitstr_Get.mono _ _)
      | (with_reducible exact bitstr_Put.mono _ _ _)
      | (with_reducible exact gantletlaw12_awake.mono _)
      | (with_reducible exact gantletref12_Put.mono _ _ _)
      | (with_reducible exact gantletref12_Right.mono _ _)
      | (with_reducible exact LeO.refl _)
      | (with_reducible exact LeO.none _)
      | (with_reducible refine LeO.ite ?_ ?_)
      | (with_reducible refine LeO.bind ?_ (fun _ => ?_))
      | exact ih0 _ _ _ _
      | exact ih1 _ _ _ _ _
      | exact bitstr_Get.mono _ _
      | exact bitstr_Put.mono _ _ _
      | exact gantletlaw12_awake.mono _
      | exact gantletref12_Put.mono _ _ _
      | exact gantletref12_Right.mono _ _
      | exact LeO.none _
      | refine LeO.ite ?_ ?_
      | refine LeO.bind ?_ (fun _ => ?_)
set_option maxHeartbeats 8000000 in
set_option maxRecDepth 100000 in
theorem gantletlaw12_BitstrPuts.calls (k : Nat) (a0 : Int) (a1 : ByteArray) (a2 : ByteArray) (r : Bool) (w : World) (h : gantletlaw12_BitstrPuts.f k a0 a1 a2 = some r) :
    Calls Try.prog 4 #[.int .i64 a0, .string a1, .string a2] w fun e w' => e = .returned (.bool r) ∧ Below w.heap.size w w' := by
  have HB := Aside0.mk (Below.refl w.heap.size w)
  have H : ((gantletlaw12_awake.f k).bind fun t158 => (if t158 = true then (if (a1.size : Int) > 300 then (gantletlaw12_BitstrPuts.j0 k a0 a1 a2 true) else (gantletlaw12_BitstrPuts.j0 k a0 a1 a2 (decide ((a2.size : Int) > 300)))) else (gantletlaw12_BitstrPuts.j0 k a0 a1 a2 true))) = some r := h
  clear h
  have HC4 := Aside0.mk H
  clear H
  go_enter Try.func4, Try.ntmps4
  go_upto_region 1 with (fail)
  go_cut [25] (fun v25 wc => ∃ (kq : Nat) (x25_3 : Bool), v25 = .bool x25_3 ∧ Aside0 (gantletlaw12_BitstrPuts.j0 kq a0 a1 a2 x25_3 = some r) ∧ Aside0 (kq ≤ k) ∧ Aside0 (Below w.heap.size w wc))
  case first =>
    have H := HC4.out
    clear HC4
    replace H := Option.bind_eq_some_iff.mp H
    obtain ⟨t158, A50, H⟩ := H
    replace H : (if t158 = true then (if (a1.size : Int) > 300 then (gantletlaw12_BitstrPuts.j0 k a0 a1 a2 true) else (gantletlaw12_BitstrPuts.j0 k a0 a1 a2 (decide ((a2.size : Int) > 300)))) else (gantletlaw12_BitstrPuts.j0 k a0 a1 a2 true)) = some r := H
    have A5 := Aside0.mk A50
    clear A50
    by_cases c6 : t158 = true
    · subst c6
      have H1 : (if (a1.size : Int) > 300 then (gantletlaw12_BitstrPuts.j0 k a0 a1 a2 true) else (gantletlaw12_BitstrPuts.j0 k a0 a1 a2 (decide ((a2.size : Int) > 300)))) = some r := by rw [if_pos rfl] at H; exact H
      clear H
      have H := H1
      clear H1
      by_cases c7 : (a1.size : Int) > 300
      · rw [if_pos c7] at H
        have c7b0 : decide (300 < (a1.size : Int)) = true := decide_eq_true c7
        have c7b1 : decide (300 < a1.size) = true := decide_eq_true (by omega)
        clear c7
        (first | rw [c7b0] | (simp only [i64_w, i32_w]; rw [c7b0]) | skip)
        have H' := Aside0.mk H
        clear H
        go_wp2_with (first | ((with_reducible refine gate_callee (f := 9) rfl ?_); refine goesL_ (some 14) rfl rfl Try.func9 (by kernel_rfl) rfl #[] rfl (by (try simp only [List.map_toArray, List.map_cons, List.map_nil]); first | done | rfl | (simp only [List.length_drop, List.length_take]; rfl)) ?_; (with_reducible refine (gantletlaw12_awake.calls k  true _ A5.out).mono ?_); rintro e w8 ⟨rfl, hb⟩; refine ⟨_, rfl, ?_⟩; have n0_ := Aside0.mk (below_step (by repeat (first | (with_reducible first | exact HB.out | apply below_alloc | apply pw_below_drewN | apply below_drew1) | exact HB.out)) hb); clear HB; have HB := n0_; clear n0_; (try clear hb); (try clear hb2); (try clear hk); (try clear hi)))
        go_meet
        case rel => exact ⟨_, (true), (by first | rfl | (simp; done) | (simp [*]; done)), H', ⟨by first | omega | exact Nat.le_refl _⟩, ⟨by repeat (first | (with_reducible first | exact HB.out | apply below_alloc | apply pw_below_drewN | apply below_drew1) | exact HB.out)⟩⟩
      · rw [if_neg c7] at H
        have c7b0 : decide (300 < (a1.size : Int)) = false := decide_eq_false c7
        have c7b1 : decide (300 < a1.size) = false := decide_eq_false (by omega)
        clear c7
        (first | rw [c7b0] | (simp only [i64_w, i32_w]; rw [c7b0]) | skip)
        have H' := Aside0.mk H
        clear H
        go_wp2_with (first | ((with_reducible refine gate_callee (f := 9) rfl ?_); refine goesL_ (some 14) rfl rfl Try.func9 (by kernel_rfl) rfl #[] rfl (by (try simp only [List.map_toArray, List.map_cons, List.map_nil]); first | done | rfl | (simp only [List.length_drop, List.length_take]; rfl)) ?_; (with_reducible refine (gantletlaw12_awake.calls k  true _ A5.out).mono ?_); rintro e w9 ⟨rfl, hb⟩; refine ⟨_, rfl, ?_⟩; have n0_ := Aside0.mk (below_step (by repeat (first | (with_reducible first | exact HB.out | apply below_alloc | apply pw_below_drewN | apply below_drew1) | exact HB.out)) hb); clear HB; have HB := n0_; clear n0_; (try clear hb); (try clear hb2); (try clear hk); (try clear hi)))
        go_meet
        case rel => exact ⟨_, (decide ((a2.size : Int) > 300)), (by first | rfl | (simp; done) | (simp [*]; done)), H', ⟨by first | omega | exact Nat.le_refl _⟩, ⟨by repeat (first | (with_reducible first | exact HB.out | apply below_alloc | apply pw_below_drewN | apply below_drew1) | exact HB.out)⟩⟩
    · replace c6 := Bool.eq_false_iff.mpr c6
      subst c6
      have H1 : (gantletlaw12_BitstrPuts.j0 k a0 a1 a2 true) = some r := by rw [if_neg (show ¬ (false = true) by decide)] at H; exact H
      clear H
      have H := H1
      clear H1
      have H' := Aside0.mk H
      clear H
      go_wp2_with (first | ((with_reducible refine gate_callee (f := 9) rfl ?_); refine goesL_ (some 14) rfl rfl Try.func9 (by kernel_rfl) rfl #[] rfl (by (try simp only [List.map_toArray, List.map_cons, List.map_nil]); first | done | rfl | (simp only [List.length_drop, List.length_take]; rfl)) ?_; (with_reducible refine (gantletlaw12_awake.calls k  false _ A5.out).mono ?_); rintro e w10 ⟨rfl, hb⟩; refine ⟨_, rfl, ?_⟩; have n0_ := Aside0.mk (below_step (by repeat (first | (with_reducible first | exact HB.out | apply below_alloc | apply pw_below_drewN | apply below_drew1) | exact HB.out)) hb); clear HB; have HB := n0_; clear n0_; (try clear hb); (try clear hb2); (try clear hk); (try clear hi)))
      go_meet
      case rel => exact ⟨_, (true), (by first | rfl | (simp; done) | (simp [*]; done)), H', ⟨by first | omega | exact Nat.le_refl _⟩, ⟨by repeat (first | (with_reducible first | exact HB.out | apply below_alloc | apply pw_below_drewN | apply below_drew1) | exact HB.out)⟩⟩
  case rest =>
    clear HC4
    try clear p2
    try clear c4
    try clear c6
    try clear c7
    try clear c7b0
    try clear c7b1
    try clear c9
    obtain ⟨kq, x25_3, rfl, HA, HJ3, HB⟩ := hcut
    cases kq with
    | zero => exact absurd HA.out (by simp [gantletlaw12_BitstrPuts.j0])
    | succ kj3 =>
      have H := HA.out
      clear HA
      simp only [gantletlaw12_BitstrPuts.j0] at H
      by_cases c11 : x25_3 = true
      · subst c11
        have H1 : ((gantletlaw12_awake.f kj3).bind fun t159 => (some t159)) = some r := by rw [if_pos rfl] at H; exact H
        clear H
        have H := H1
        clear H1
        replace H := Option.bind_eq_some_iff.mp H
        obtain ⟨t159, A120, H⟩ := H
        replace H : (some t159) = some r := H
        have A12 := Aside0.mk A120
        clear A120
        obtain rfl := Option.some.inj H
        go_wp2_with (first | ((with_reducible refine gate_callee (f := 9) rfl ?_); refine goesL_ (some 26) rfl rfl Try.func9 (by kernel_rfl) rfl #[] rfl (by (try simp only [List.map_toArray, List.map_cons, List.map_nil]); first | done | rfl | (simp only [List.length_drop, List.length_take]; rfl)) ?_; (with_reducible refine (gantletlaw12_awake.calls kj3  t159 _ A12.out).mono ?_); rintro e w13 ⟨rfl, hb⟩; refine ⟨_, rfl, ?_⟩; have n0_ := Aside0.mk (below_step (by repeat (first | (with_reducible first | exact HB.out | apply below_alloc | apply pw_below_drewN | apply below_drew1) | exact HB.out)) hb); clear HB; have HB := n0_; clear n0_; (try clear hb); (try clear hb2); (try clear hk); (try clear hi)))
        go_ret
        exact ⟨by first | rfl | (simp [errW_none, errW_some] <;> rfl) | (simp [*, errW_none, errW_some] <;> rfl), by repeat (first | (with_reducible first | exact HB.out | apply below_alloc | apply pw_below_drewN | apply below_drew1) | exact HB.out)⟩
      · replace c11 := Bool.eq_false_iff.mpr c11
        subst c11
        have H1 : ((bitstr_Put.f kj3 a0 a1).bind fun bt160 => ((gantletref12_Put.f kj3 a0 a1).bind fun bt162 => ((bitstr_Get.f kj3 a2).bind fun bt164 => (if bt160.1.toList = bt162.1.toList then (if (bt160.2 != bt162.2) = true then (gantletlaw12_BitstrPuts.j1 kj3 a2 bt164.1 bt164.2.1 bt164.2.2 true) else ((gantletref12_Right.f kj3 a2).bind fun t167 => (gantletlaw12_BitstrPuts.j1 kj3 a2 bt164.1 bt164.2.1 bt164.2.2 (bt164.2.2 != t167)))) else (gantletlaw12_BitstrPuts.j1 kj3 a2 bt164.1 bt164.2.1 bt164.2.2 true))))) = some r := by rw [if_neg (show ¬ (false = true) by decide)] at H; exact H
        clear H
        have H := H1
        clear H1
        replace H := Option.bind_eq_some_iff.mp H
        obtain ⟨⟨t160, t161⟩, A140, H⟩ := H
        replace H : ((gantletref12_Put.f kj3 a0 a1).bind fun bt162 => ((bitstr_Get.f kj3 a2).bind fun bt164 => (if t160.toList = bt162.1.toList then (if (t161 != bt162.2) = true then (gantletlaw12_BitstrPuts.j1 kj3 a2 bt164.1 bt164.2.1 bt164.2.2 true) else ((gantletref12_Right.f kj3 a2).bind fun t167 => (gantletlaw12_BitstrPuts.j1 kj3 a2 bt164.1 bt164.2.1 bt164.2.2 (bt164.2.2 != t167)))) else (gantletlaw12_BitstrPuts.j1 kj3 a2 bt164.1 bt164.2.1 bt164.2.2 true)))) = some r := H
        have A14 := Aside0.mk A140
        clear A140
        replace H := Option.bind_eq_some_iff.mp H
        obtain ⟨⟨t162, t163⟩, A150, H⟩ := H
        replace H : ((bitstr_Get.f kj3 a2).bind fun bt164 => (if t160.toList = t162.toList then (if (t161 != t163) = true then (gantletlaw12_BitstrPuts.j1 kj3 a2 bt164.1 bt164.2.1 bt164.2.2 true) else ((gantletref12_Right.f kj3 a2).bind fun t167 => (gantletlaw12_BitstrPuts.j1 kj3 a2 bt164.1 bt164.2.1 bt164.2.2 (bt164.2.2 != t167)))) else (gantletlaw12_BitstrPuts.j1 kj3 a2 bt164.1 bt164.2.1 bt164.2.2 true))) = some r := H
        have A15 := Aside0.mk A150
        clear A150
        replace H := Option.bind_eq_some_iff.mp H
        obtain ⟨⟨t164, t165, t166⟩, A160, H⟩ := H
        replace H : (if t160.toList = t162.toList then (if (t161 != t163) = true then (gantletlaw12_BitstrPuts.j1 kj3 a2 t164 t165 t166 true) else ((gantletref12_Right.f kj3 a2).bind fun t167 => (gantletlaw12_BitstrPuts.j1 kj3 a2 t164 t165 t166 (t166 != t167)))) else (gantletlaw12_BitstrPuts.j1 kj3 a2 t164 t165 t166 true)) = some r := H
        have A16 := Aside0.mk A160
        clear A160
        have HC17 := Aside0.mk H
        clear H
        go_upto_region 6 with (first | ((with_reducible refine gate_callee (f := 13) rfl ?_); refine goesL_ (some 30) rfl rfl Try.func13 (by kernel_rfl) rfl #[.int .i64 a0, .string a1] rfl (by (try simp only [List.map_toArray, List.map_cons, List.map_nil]); first | done | rfl | (simp only [List.length_drop, List.length_take]; rfl)) ?_; (with_reducible refine (bitstr_Put.calls kj3 a0 a1 t160 t161 _ A14.out).mono ?_); rintro e w18 ⟨rfl, hb⟩; refine ⟨_, rfl, ?_⟩; have n0_ := Aside0.mk (below_step (by repeat (first | (with_reducible first | exact HB.out | apply below_alloc | apply pw_below_drewN | apply below_drew1) | exact HB.out)) hb); clear HB; have HB := n0_; clear n0_; (try clear hb); (try clear hb2); (try clear hk); (try clear hi)) | ((with_reducible refine gate_callee (f := 14) rfl ?_); refine goesL_ (some 36) rfl rfl Try.func14 (by kernel_rfl) rfl #[.int .i64 a0, .string a1] rfl (by (try simp only [List.map_toArray, List.map_cons, List.map_nil]); first | done | rfl | (simp only [List.length_drop, List.length_take]; rfl)) ?_; (with_reducible refine (gantletref12_Put.calls kj3 a0 a1 t162 t163 _ A15.out).mono ?_); rintro e w19 ⟨rfl, hb⟩; refine ⟨_, rfl, ?_⟩; have n0_ := Aside0.mk (below_step (by repeat (first | (with_reducible first | exact HB.out | apply below_alloc | apply pw_below_drewN | apply below_drew1) | exact HB.out)) hb); clear HB; have HB := n0_; clear n0_; (try clear hb); (try clear hb2); (try clear hk); (try clear hi)) | ((with_reducible refine gate_callee (f := 15) rfl ?_); refine goesL_ (some 41) rfl rfl Try.func15 (by kernel_rfl) rfl #[.string a2] rfl (by (try simp only [List.map_toArray, List.map_cons, List.map_nil]); first | done | rfl | (simp only [List.length_drop, List.length_take]; rfl)) ?_; (with_reducible refine (bitstr_Get.calls kj3 a2 t164 t165 t166 _ A16.out).mono ?_); rintro e w20 ⟨rfl, hb⟩; refine ⟨_, rfl, ?_⟩; have n0_ := Aside0.mk (below_step (by repeat (first | (with_reducible first | exact HB.out | apply below_alloc | apply pw_below_drewN | apply below_drew1) | exact HB.out)) hb); clear HB; have HB := n0_; clear n0_; (try clear hb); (try clear hb2); (try clear hk); (try clear hi)))
        (try simp only [Act.put, List.setIfInBounds_toArray, List.set_cons_zero, List.set_cons_succ])
        go_cut [58] (fun v58 wc => ∃ (kq : Nat) (x58_16 : Bool), v58 = .bool x58_16 ∧ Aside0 (gantletlaw12_BitstrPuts.j1 kq a2 t164 t165 t166 x58_16 = some r) ∧ Aside0 (kq ≤ kj3) ∧ Aside0 (Below w.heap.size w wc))
        case first =>
          have H := HC17.out
          clear HC17
          by_cases c21 : t160.toList = t162.toList
          · rw [if_pos c21] at H
            have c21b0 : (t160.toList == t162.toList) = true := beq_iff_eq.mpr c21
            have c21b1 : (t160.toList != t162.toList) = false := bne_eq_false_iff_eq.mpr c21
            clear c21
            (first | rw [c21b0] | (simp only [i64_w, i32_w]; rw [c21b0]) | skip)
            by_cases c22 : (t161 != t163) = true
            · rw [if_pos c22] at H
              have c22b0 : (t161 != t163) = true := c22
              (try (have c22b1 : decide (t161 = t163) = false := by simpa using c22))
              (try (have c22b2 : (t161 == t163) = false := by simpa using c22))
              (try (have c22b3 : ¬ (t161 = t163) := by simpa using c22))
              clear c22
              have H' := Aside0.mk H
              clear H
              go_wp2
              go_meet
              case rel => exact ⟨_, (true), (by first | rfl | (simp; done) | (simp [*]; done)), H', ⟨by have := HJ3.out; first | omega | exact Nat.le_refl _⟩, ⟨by repeat (first | (with_reducible first | exact HB.out | apply below_alloc | apply pw_below_drewN | apply below_drew1) | exact HB.out)⟩⟩
            · rw [if_neg c22] at H
              have c22b0 : (t161 != t163) = false := by simpa using c22
              (try (have c22b1 : decide (t161 = t163) = true := by simpa using c22))
              (try (have c22b2 : (t161 == t163) = true := by simpa using c22))
              clear c22
              replace H := Option.bind_eq_some_iff.mp H
              obtain ⟨t167, A230, H⟩ := H
              replace H : (gantletlaw12_BitstrPuts.j1 kj3 a2 t164 t165 t166 (t166 != t167)) = some r := H
              have A23 := Aside0.mk A230
              clear A230
              have H' := Aside0.mk H
              clear H
              go_wp2_with (first | (go_at_call 16; (with_reducible refine (gantletref12_Right.calls kj3 a2 t167 _ A23.out).mono ?_); rintro e w' ⟨rfl, ⟨nd, rfl⟩⟩))
              go_meet
              case rel => exact ⟨_, ((t166 != t167)), (by first | rfl | (simp; done) | (simp [*]; done)), H', ⟨by have := HJ3.out; first | omega | exact Nat.le_refl _⟩, ⟨by repeat (first | (with_reducible first | exact HB.out | apply below_alloc | apply pw_below_drewN | apply below_drew1) | exact HB.out)⟩⟩
          · rw [if_neg c21] at H
            have c21b0 : (t160.toList == t162.toList) = false := beq_eq_false_iff_ne.mpr c21
            have c21b1 : (t160.toList != t162.toList) = true := bne_iff_ne.mpr c21
            (first | rw [c21b0] | (simp only [i64_w, i32_w]; rw [c21b0]) | skip)
            have H' := Aside0.mk H
            clear H
            go_wp2
            go_meet
            case rel => exact ⟨_, (true), (by first | rfl | (simp; done) | (simp [*]; done)), H', ⟨by have := HJ3.out; first | omega | exact Nat.le_refl _⟩, ⟨by repeat (first | (with_reducible first | exact HB.out | apply below_alloc | apply pw_below_drewN | apply below_drew1) | exact HB.out)⟩⟩
        case rest =>
          clear HC17
          try clear c1
          try clear c2
          try clear p2
          try clear c4
          try clear c6
          try clear c7
          try clear c7b0
          try clear c7b1
          try clear c9
          try clear c11
          try clear c13
          try clear c14
          try clear c15
          try clear c21
          try clear c21b0
          try clear c21b1
          try clear c22
          try clear c22b0
          try clear c22b1
          try clear c22b2
          try clear p2
          obtain ⟨kq, x58_16, rfl, HA, HJ16, HB⟩ := hcut
          cases kq with
          | zero => exact absurd HA.out (by simp [gantletlaw12_BitstrPuts.j1])
          | succ kj16 =>
            have H := HA.out
            clear HA
            simp only [gantletlaw12_BitstrPuts.j1] at H
            by_cases c24 : x58_16 = true
            · subst c24
              have H1 : (some false) = some r := by rw [if_pos rfl] at H; exact H
              clear H
              have H := H1
              clear H1
              obtain rfl := Option.some.inj H
              go_wp2
              go_ret
              exact ⟨by first | rfl | (simp [errW_none, errW_some] <;> rfl) | (simp [*, errW_none, errW_some] <;> rfl), by repeat (first | (with_reducible first | exact HB.out | apply below_alloc | apply pw_below_drewN | apply below_drew1) | exact HB.out)⟩
            · replace c24 := Bool.eq_false_iff.mpr c24
              subst c24
              have H1 : (if t166 = true then (if 0 < (a2.size : Int) then (if t164 = (wrap64 (bt a2 0)) then (if 1 ≤ (a2.size : Int) then (some (t165.toList == (a2.extract 1 a2.size).toList)) else (none)) else (some false)) else (none)) else (if t164 = 0 then (some (t165.toList == ([] : List UInt8))) else (some false))) = some r := by rw [if_neg (show ¬ (false = true) by decide)] at H; exact H
              clear H
              have H := H1
              clear H1
              by_cases c25 : t166 = true
              · subst c25
                have H1 : (if 0 < (a2.size : Int) then (if t164 = (wrap64 (bt a2 0)) then (if 1 ≤ (a2.size : Int) then (some (t165.toList == (a2.extract 1 a2.size).toList)) else (none)) else (some false)) else (none)) = some r := by rw [if_pos rfl] at H; exact H
                clear H
                have H := H1
                clear H1
                by_cases c26 : 0 < (a2.size : Int)
                · rw [if_pos c26] at H
                  have c26b0 : decide (0 < (a2.size : Int)) = true := decide_eq_true c26
                  have c26b1 : decide (0 < a2.size) = true := decide_eq_true (by omega)
                  clear c26
                  by_cases c28 : t164 = (wrap64 (bt a2 0))
                  · rw [if_pos c28] at H
                    have c28b0 : (t164 == (wrap64 (bt a2 0))) = true := beq_iff_eq.mpr c28
                    have c28b1 : (t164 != (wrap64 (bt a2 0))) = false := bne_eq_false_iff_eq.mpr c28
                    clear c28
                    by_cases c29 : 1 ≤ (a2.size : Int)
                    · rw [if_pos c29] at H
                      have c29b0 := eq_true c29
                      have c29b1 : decide (1 ≤ (a2.size : Int)) = true := decide_eq_true c29
                      clear c29
                      obtain rfl := Option.some.inj H
                      have p27 : 0 ≤ (0 : Int) := (by omega)
                      have q27 : 0 < a2.size := (by have : (0 : Int) < (a2.size : Int) := of_decide_eq_true (by first | (with_reducible assumption) | assumption); omega)
                      have hx27 : ∀ h : 0 < a2.size, ((a2[0]'h).toNat : Int) = bt a2 0 := bt_at a2 0
                      clear p27
                      have qi27 : (0 < (a2.size : Int)) = True := eq_true (of_decide_eq_true (by first | (with_reducible assumption) | assumption))
                      replace q27 := eq_true q27
                      go_wp2
                      go_ret
                      exact ⟨by first | rfl | (simp [errW_none, errW_some] <;> rfl) | (simp [*, errW_none, errW_some] <;> rfl), by repeat (first | (with_reducible first | exact HB.out | apply below_alloc | apply pw_below_drewN | apply below_drew1) | exact HB.out)⟩
                    · rw [if_neg c29] at H
                      exact absurd H (by simp)
                  · rw [if_neg c28] at H
                    have c28b0 : (t164 == (wrap64 (bt a2 0))) = false := beq_eq_false_iff_ne.mpr c28
                    have c28b1 : (t164 != (wrap64 (bt a2 0))) = true := bne_iff_ne.mpr c28
                    obtain rfl := Option.some.inj H
                    have p27 : 0 ≤ (0 : Int) := (by omega)
                    have q27 : 0 < a2.size := (by have : (0 : Int) < (a2.size : Int) := of_decide_eq_true (by first | (with_reducible assumption) | assumption); omega)
                    have hx27 : ∀ h : 0 < a2.size, ((a2[0]'h).toNat : Int) = bt a2 0 := bt_at a2 0
                    clear p27
                    have qi27 : (0 < (a2.size : Int)) = True := eq_true (of_decide_eq_true (by first | (with_reducible assumption) | assumption))
                    replace q27 := eq_true q27
                    go_wp2
                    go_ret
                    exact ⟨by first | rfl | (simp [errW_none, errW_some] <;> rfl) | (simp [*, errW_none, errW_some] <;> rfl), by repeat (first | (with_reducible first | exact HB.out | apply below_alloc | apply pw_below_drewN | apply below_drew1) | exact HB.out)⟩
                · rw [if_neg c26] at H
                  exact absurd H (by simp)
              · replace c25 := Bool.eq_false_iff.mpr c25
                subst c25
                have H1 : (if t164 = 0 then (some (t165.toList == ([] : List UInt8))) else (some false)) = some r := by rw [if_neg (show ¬ (false = true) by decide)] at H; exact H
                clear H
                have H := H1
                clear H1
                by_cases c30 : t164 = 0
                · rw [if_pos c30] at H
                  have c30b0 : (t164 == 0) = true := beq_iff_eq.mpr c30
                  have c30b1 : (t164 != 0) = false := bne_eq_false_iff_eq.mpr c30
                  clear c30
                  obtain rfl := Option.some.inj H
                  go_wp2
                  go_ret
                  exact ⟨by first | rfl | (simp [errW_none, errW_some] <;> rfl) | (simp [*, errW_none, errW_some] <;> rfl), by repeat (first | (with_reducible first | exact HB.out | apply below_alloc | apply pw_below_drewN | apply below_drew1) | exact HB.out)⟩
                · rw [if_neg c30] at H
                  have c30b0 : (t164 == 0) = false := beq_eq_false_iff_ne.mpr c30
                  have c30b1 : (t164 != 0) = true := bne_iff_ne.mpr c30
                  obtain rfl := Option.some.inj H
                  go_wp2
                  go_ret
                  exact ⟨by first | rfl | (simp [errW_none, errW_some] <;> rfl) | (simp [*, errW_none, errW_some] <;> rfl), by repeat (first | (with_reducible first | exact HB.out | apply below_alloc | apply pw_below_drewN | apply below_drew1) | exact HB.out)⟩

/-- THE ONE PURE STATEMENT of gantletlaw12_BitstrPuts: yours. -/
def gantletlaw12_BitstrPuts.Pure : Prop := ∀ (a0 : Int) (a1 : ByteArray) (a2 : ByteArray), (Lit.int .i64 a0).wf = true → a1.size ≤ 140737488351232 → a2.size ≤ 140737488351232 → ∃ k, gantletlaw12_BitstrPuts.f k a0 a1 a2 = some true
theorem gantletlaw12_BitstrPuts.walk (P : gantletlaw12_BitstrPuts.Pure) (a0 : Int) (a1 : ByteArray) (a2 : ByteArray) (w : World) (w0 : (Lit.int .i64 a0).wf = true) (w1 : a1.size ≤ 140737488351232) (w2 : a2.size ≤ 140737488351232) :
    Calls Try.prog 4 #[.int .i64 a0, .string a1, .string a2] w fun e w' => e = .returned (.bool true) ∧ Below w.heap.size w w' := by
  obtain ⟨k, h⟩ := P a0 a1 a2 w0 w1 w2
  refine (gantletlaw12_BitstrPuts.calls k a0 a1 a2 true w h).mono ?_
  rintro e w' ⟨rfl, hd⟩
  exact ⟨rfl, hd⟩

end Go.Proofs.Ytlncpjjeieajmaa.PBitstrPuts
