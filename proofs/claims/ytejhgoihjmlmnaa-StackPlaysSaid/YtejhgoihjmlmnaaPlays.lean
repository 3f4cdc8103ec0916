/- In every order of calls just the elements are open that the document says: the walk of StackPlays. -/
import Derived.Test.YtejhgoihjmlmnaaSref
import Derived.Deep.RegionHeld3
namespace Go.Proofs.Ytejhgoihjmlmnaa.Plays
open Go.RowKit
open Go.Proofs.Ytejhgoihjmlmnaa.Obj Go.Proofs.Ytejhgoihjmlmnaa.Acts Go.Proofs.Ytejhgoihjmlmnaa.Copies Go.Proofs.Ytejhgoihjmlmnaa.Sref
set_option linter.unusedVariables false

theorem depth_q (b most : Nat) (s : PS) (w : World) (n : Nat) (h : Stk w b s.1 s.2 most) :
    Calls Try.prog 14 #[.pointer (some ⟨b, 0, none⟩)] (w.drewN n) fun e w' => e = .returned (.int .i64 s.2) ∧ ∃ m, w' = w.drewN m :=
  (depth_c b s.2 most s.1 _ (h.drewN n)).mono fun _ _ ⟨he, hw⟩ => ⟨he, n, hw.symm⟩
theorem left_none' (b most : Nat) (f : Nat → Int) (w : World) (h : Stk w b f 0 most) :
    Calls Try.prog 13 #[.pointer (some ⟨b, 0, none⟩)] w fun e w' => e = .returned (.int .i64 (-1)) ∧ ∃ m, w' = w.drewN m := by
  have cd := h.cd
  rw [show ((0 : Nat) : Int) = 0 from rfl] at cd
  go_enter Try.func13, Try.ntmps13
  go_wp2
  go_ret
  exact ⟨rfl, 0, rfl⟩
theorem left_some' (b k most : Nat) (f : Nat → Int) (w : World) (h : Stk w b f (k + 1) most) :
    Calls Try.prog 13 #[.pointer (some ⟨b, 0, none⟩)] w fun e w' => e = .returned (.int .i64 (f k)) ∧ ∃ m, w' = w.drewN m := by
  obtain ⟨ce, cd, cm, fr, dm, m64, lo, hi, lt⟩ := h
  have ck := ce k (by omega)
  have hk64 : (k : Int) < 64 := by omega
  have t1 : ((k : Int) + 1 == 0) = false := by simp; omega
  rw [show ((k + 1 : Nat) : Int) = (k : Int) + 1 from rfl] at cd
  clear ce fr lo hi
  go_enter Try.func13, Try.ntmps13
  go_wp2
  go_quiet (fail)
  go_wp2
  go_ret
  exact ⟨rfl, ⟨_, rfl⟩⟩
theorem left_q (b most : Nat) (s : PS) (w : World) (n : Nat) (h : Stk w b s.1 s.2 most) :
    Calls Try.prog 13 #[.pointer (some ⟨b, 0, none⟩)] (w.drewN n) fun e w' => e = .returned (.int .i64 (pLeft s)) ∧ ∃ m, w' = w.drewN m := by
  obtain ⟨f, d⟩ := s
  unfold pLeft
  cases d with
  | zero => exact (left_none' b most f _ (h.drewN n)).mono fun _ _ ⟨he, m, hw⟩ => ⟨he, n + m, by rw [hw, dn]⟩
  | succ k => exact (left_some' b k most f _ (h.drewN n)).mono fun _ _ ⟨he, m, hw⟩ => ⟨he, n + m, by rw [hw, dn]⟩
theorem rlast_q (r g most : Nat) (s : PS) (w : World) (n : Nat) (h : Rsk w r g most s.1 s.2) (hd : s.2 ≤ 64) :
    Calls Try.prog 20 #[.pointer (some ⟨r, 0, none⟩)] (w.drewN n) fun e w' => e = .returned (.int .i64 (pLeft s)) ∧ ∃ m, w' = w.drewN m :=
  (rlast_p r g most s _ (h.drewN n) hd).mono fun _ _ ⟨he, m, hw⟩ => ⟨he, n + m, by rw [hw, dn]⟩

theorem Rsk.drew {w : World} {r g most d : Nat} {f : Nat → Int} (h : Rsk w r g most f d) : Rsk w.drew r g most f d := ⟨h.c0, h.c1, h.f0, h.f1, h.ne, h.lb, h.lg⟩
theorem Rsk.zero {w : World} {r g most d : Nat} {f : Nat → Int} (h : Rsk w r g most f d) (hd : d = 0) (g' : Nat) : Rsk w r g' most f d := by
  obtain ⟨A, cap, h1, h2, h3, h4⟩ := h.c1
  exact ⟨h.c0, ⟨A, cap, h1, h2, h3, h4.imp id (fun ⟨a, ha, _⟩ => ⟨a, ha, .inl hd⟩)⟩, h.f0, h.f1, .inl hd, h.lb, .inl hd⟩

theorem walk_out (d : Int) (A : Option Addr) (cap : Nat) (st : List (Int × Int)) (w : World) (hl : st.length ≤ 9223372036854775807) (h : 300 < st.length) :
    Calls Try.prog 6 #[.int .i64 d, .slice A st.length cap] w fun e w' => e = .returned (.bool true) ∧ Below w.heap.size w w' := by
  have h' : (300 : Int) < (st.length : Int) := by omega
  go_enter Try.func6, Try.ntmps6
  go_wp2_with fail
  refine (awake_c w).mono ?_
  rintro e w2 ⟨rfl, hb2⟩
  go_wp2_with fail
  refine (awake_c _).mono ?_
  rintro e w3 ⟨rfl, hb3⟩
  go_wp2_with fail
  go_ret
  exact ⟨rfl, Nested.step hb2 hb3⟩

set_option maxHeartbeats 4000000 in
theorem walk_within (d : Int) (A : Option Addr) (cap : Nat) (st : List (Int × Int)) (w : World) (hl : st.length ≤ 300) (G : Given w A st cap) :
    Calls Try.prog 6 #[.int .i64 d, .slice A st.length cap] w fun e w' => e = .returned (.bool true) ∧ Below w.heap.size w w' := by
  have a2 : ¬(300 : Int) < (st.length : Int) := by omega
  go_enter Try.func6, Try.ntmps6
  go_wp2_with fail
  refine (awake_c w).mono ?_
  rintro e w1 ⟨rfl, hb1⟩
  have B1 := Lib.hid (Kept.of_below hb1 (fun i => w.heap.size ≤ i))
  have hs1 := hb1.size
  clear hb1
  go_wp2_with fail
  refine (new_c d w1).mono ?_
  rintro e w2 ⟨rfl, S1, K1⟩
  have B2 := Lib.hid (B1.out.trans (K1.mono (fun _ h => h.elim)))
  have hb0 : Hid (w.heap.size ≤ w1.heap.size) := hs1
  have hb1 : Hid (w1.heap.size < w2.heap.size) := S1.lt
  have hs2 := K1.size
  generalize w1.heap.size = b at S1 hb0 hb1 hs1 hs2 ⊢
  clear K1 B1
  go_wp2_with fail
  refine (rnew_c d w2).mono ?_
  rintro e w3 ⟨rfl, R1, K2⟩
  have B3 := Lib.hid (B2.out.trans (K2.mono (fun _ h => h.elim)))
  have S2 := S1.keep K2 (fun h => h)
  have hr0 : Hid (w.heap.size ≤ w2.heap.size) := Nat.le_trans hs1 hs2
  generalize w2.heap.size = r at R1 hb1 hr0 ⊢
  obtain ⟨M, hM⟩ : ∃ M, M = clamp d := ⟨_, rfl⟩
  rw [← hM] at S2 R1
  have R2 := R1 (fun _ => 0)
  clear S1 K2 B2 R1 hM hs1 hs2
  go_wp2_with fail
  go_loopw [5, 27] (fun v i wr => ∃ (k b g : Nat) (s : PS), k ≤ st.length ∧ i = .int .i64 k ∧ v = .pointer (some ⟨b, 0, none⟩) ∧ Stk wr b s.1 s.2 M ∧ Rsk wr r g M s.1 s.2 ∧ b ≠ r ∧ g ≠ b ∧ w.heap.size ≤ b ∧ Kept (fun i => w.heap.size ≤ i) w wr) (fun _ i _ => st.length - (intOf i).toNat)
  case atStart => exact ⟨0, b, r, (fun _ => 0, 0), Nat.zero_le _, rfl, rfl, S2, Rsk.zero R2 rfl r, Nat.ne_of_lt hb1.out, (Nat.ne_of_lt hb1.out).symm, hb0.out, B3.out⟩
  case round =>
    obtain ⟨k, b, g, s, hk, rfl, rfl, S, R, hbr, hgb, hb, K⟩ := hrel
    have K0 := Lib.hid K
    have hbr6 := Lib.hid hbr
    have hgb0 := Lib.hid hgb
    have hb6 := Lib.hid hb
    clear K S2 R2 B3 hb0 hb1 hbr hgb hb
    by_cases hlt : k < st.length
    · obtain ⟨gg, oo, rfl, hgg, hcell⟩ := G.plain (by omega)
      obtain ⟨z0, z1⟩ := hcell k hlt
      have hbl := K0.out.block gg hgg (by omega)
      replace z0 := (World.cell?_of_block (w := w) (a := ⟨gg, oo + k * 2, none⟩) hbl).trans z0
      replace z1 := (World.cell?_of_block (w := w) (a := ⟨gg, oo + k * 2 + 1, none⟩) hbl).trans z1
      have hwf := (G.wf k hlt).2
      generalize st.getD k (0, 0) = x at z0 z1 hwf
      obtain ⟨p, q⟩ := x
      simp only at z0 z1 hwf
      have t1 : (k : Int) < (st.length : Int) := by omega
      have hlo := Lib.hid S.lo
      have hhi := Lib.hid S.hi
      have lbS := S.lt
      have lbR := R.lb
      clear hcell hbl
      have S1 := S.keep ((Kept.refl (fun _ => False) wr).alloc (.cells #[.int .i64 p, .int .i64 q] 37)) (fun h => h)
      have R1 := R.keep ((Kept.refl (fun _ => False) wr).alloc (.cells #[.int .i64 p, .int .i64 q] 37)) (fun h => h) (.inr (fun h => h))
      have K1 := Lib.hid (K0.out.alloc (.cells #[.int .i64 p, .int .i64 q] 37))
      have y0 : (wr.alloc (.cells #[.int .i64 p, .int .i64 q] 37)).cell? ⟨wr.heap.size, 0, none⟩ = some (.int .i64 p) := World.cell?_alloc_new _ _ _ _
      have y1 : (wr.alloc (.cells #[.int .i64 p, .int .i64 q] 37)).cell? ⟨wr.heap.size, 1, none⟩ = some (.int .i64 q) := World.cell?_alloc_new _ _ _ _
      have hzs : wr.heap.size < (wr.alloc (.cells #[.int .i64 p, .int .i64 q] 37)).heap.size := by simp
      have hS0 : Hid (w.heap.size ≤ r) := hr0.out
      clear S R
      by_cases p1 : p = 1
      · skip
        subst p1
        go_wp2_with fail
        generalize (wr.alloc (.cells #[.int .i64 1, .int .i64 q] 37)) = W1 at S1 R1 K1 y0 y1 hzs ⊢
        generalize wr.heap.size = zz at y0 y1 hzs lbS lbR ⊢
        have nzb : ¬zz = b := by omega
        have nzr : ¬zz = r := by omega
        go_region_held3 (fun w' => w'.cell? ⟨zz, 1, none⟩ = some (.int .i64 q)) (first | exact y1 | exact x1 | exact x2) (first | (go_at_call 10; refine (enter_p b M s q _ S1.drew hwf).mono ?_; rintro e w6 ⟨rfl, S5, K5⟩; have x1 := (World.cell?_of_block (w := W1.drew) (a := ⟨zz, 1, none⟩) (K5.block zz hzs nzb)).trans y1; have R5 := (Rsk.drew R1).keep K5 (fun h => hbr6.out h.symm) (.inr hgb0.out); have z6 : zz < w6.heap.size := Nat.lt_of_lt_of_le hzs K5.size) | (go_at_call 16; refine (renter_p r g M s q _ R5 S1.dm S1.m64 hlo.out hhi.out).mono ?_; rintro e w7 ⟨rfl, ⟨g6, R6, hg6⟩, K6⟩; have x2 := (World.cell?_of_block (w := w6) (a := ⟨zz, 1, none⟩) (K6.block zz z6 nzr)).trans x1))
        have S6 := S5.keep K6 hbr6.out
        have hgb6 : Hid (g6 ≠ b) := by
          rcases hg6 with h | h
          · rw [h]; exact hgb0.out
          · have := S5.lt; show g6 ≠ b; omega
        have K9 := Lib.hid (K1.out.drew.trans ((K5.mono (T := fun i => w.heap.size ≤ i) (fun i hi => by rw [hi]; exact hb6.out)).trans (K6.mono (T := fun i => w.heap.size ≤ i) (fun i hi => by rw [hi]; exact hS0.out))))
        generalize pEnter M s q = rs at S6 R6 ⊢
        obtain ⟨res, s6⟩ := rs
        simp only at S6 R6
        clear S5 K5 K6 x1 x2 R5 y0 y1 S1 R1 K1 hg6
        obtain ⟨A6, cap6, c6, x6⟩ := R6.c1
        clear x6
        have S9 := Lib.hid S6
        have R9 := Lib.hid R6
        have m64 := S6.m64
        have hdm := S6.dm
        go_wp2_with fail
        go_quiet (first
          | (go_at_call 14; exact depth_q b M s6 _ _ S6)
          | (go_at_call 13; exact left_q b M s6 _ _ S6)
          | (go_at_call 20; exact rlast_q r g6 M s6 _ _ R6 (by omega)))
        go_wp2_with fail
        go_roundw
        case rel => exact ⟨k + 1, b, g6, s6, by omega, by go_num, rfl, S9.out.drewN _, R9.out.drewN _, hbr6.out, hgb6.out, hb6.out, K9.out.drewN _⟩
        case measure => simp [intOf]; omega
      · by_cases p2 : p = 2
        · skip
          subst p2
          go_wp2_with fail
          generalize (wr.alloc (.cells #[.int .i64 2, .int .i64 q] 37)) = W1 at S1 R1 K1 y0 y1 hzs ⊢
          generalize wr.heap.size = zz at y0 y1 hzs lbS lbR ⊢
          have nzb : ¬zz = b := by omega
          have nzr : ¬zz = r := by omega
          refine (take_p b M s _ S1).mono ?_
          rintro e w6 ⟨rfl, S5, K5⟩
          have R5 := R1.keep K5 (fun h => hbr6.out h.symm) (.inr hgb0.out)
          go_wp2_with fail
          refine (rtake_p r g M s _ R5 (Nat.le_trans S1.dm S1.m64) hlo.out hhi.out).mono ?_
          rintro e w7 ⟨rfl, ⟨g6, R6, hg6⟩, K6⟩
          have S6 := S5.keep K6 hbr6.out
          have hgb6 : Hid (g6 ≠ b) := by
            rcases hg6 with h | h
            · rw [h]; exact hgb0.out
            · have := S5.lt; show g6 ≠ b; omega
          have K9 := Lib.hid (K1.out.trans ((K5.mono (T := fun i => w.heap.size ≤ i) (fun i hi => by rw [hi]; exact hb6.out)).trans (K6.mono (T := fun i => w.heap.size ≤ i) (fun i hi => by rw [hi]; exact hS0.out))))
          generalize pTake s = rs at S6 R6 ⊢
          obtain ⟨res, s6⟩ := rs
          simp only at S6 R6
          clear S5 K5 K6 R5 y0 y1 S1 R1 K1 hg6
          obtain ⟨A6, cap6, c6, x6⟩ := R6.c1
          clear x6
          have S9 := Lib.hid S6
          have R9 := Lib.hid R6
          have m64 := S6.m64
          have hdm := S6.dm
          go_wp2_with fail
          go_quiet (first
            | (go_at_call 14; exact depth_q b M s6 _ _ S6)
            | (go_at_call 13; exact left_q b M s6 _ _ S6)
            | (go_at_call 20; exact rlast_q r g6 M s6 _ _ R6 (by omega)))
          go_wp2_with fail
          go_roundw
          case rel => exact ⟨k + 1, b, g6, s6, by omega, by go_num, rfl, S9.out.drewN _, R9.out.drewN _, hbr6.out, hgb6.out, hb6.out, K9.out.drewN _⟩
          case measure => simp [intOf]; omega
        · by_cases p3 : p = 3
          · skip
            subst p3
            go_wp2_with fail
            generalize (wr.alloc (.cells #[.int .i64 3, .int .i64 q] 37)) = W1 at S1 R1 K1 y0 y1 hzs ⊢
            generalize wr.heap.size = zz at y0 y1 hzs lbS lbR ⊢
            have nzb : ¬zz = b := by omega
            have nzr : ¬zz = r := by omega
            refine (leave_p b M s _ S1).mono ?_
            rintro e w6 ⟨rfl, S5, K5⟩
            have R5 := R1.keep K5 (fun h => hbr6.out h.symm) (.inr hgb0.out)
            go_wp2_with fail
            refine (rleave_p r g M s _ R5 (Nat.le_trans S1.dm S1.m64) hlo.out).mono ?_
            rintro e w7 ⟨rfl, ⟨g6, R6, hg6⟩, K6⟩
            have S6 := S5.keep K6 hbr6.out
            have hgb6 : Hid (g6 ≠ b) := by
              rcases hg6 with h | h
              · rw [h]; exact hgb0.out
              · have := S5.lt; show g6 ≠ b; omega
            have K9 := Lib.hid (K1.out.trans ((K5.mono (T := fun i => w.heap.size ≤ i) (fun i hi => by rw [hi]; exact hb6.out)).trans (K6.mono (T := fun i => w.heap.size ≤ i) (fun i hi => by rw [hi]; exact hS0.out))))
            generalize pLeave s = rs at S6 R6 ⊢
            obtain ⟨res, s6⟩ := rs
            simp only at S6 R6
            clear S5 K5 K6 R5 y0 y1 S1 R1 K1 hg6
            obtain ⟨A6, cap6, c6, x6⟩ := R6.c1
            clear x6
            have S9 := Lib.hid S6
            have R9 := Lib.hid R6
            have m64 := S6.m64
            have hdm := S6.dm
            go_wp2_with fail
            go_quiet (first
              | (go_at_call 14; exact depth_q b M s6 _ _ S6)
              | (go_at_call 13; exact left_q b M s6 _ _ S6)
              | (go_at_call 20; exact rlast_q r g6 M s6 _ _ R6 (by omega)))
            go_wp2_with fail
            go_roundw
            case rel => exact ⟨k + 1, b, g6, s6, by omega, by go_num, rfl, S9.out.drewN _, R9.out.drewN _, hbr6.out, hgb6.out, hb6.out, K9.out.drewN _⟩
            case measure => simp [intOf]; omega
          · by_cases p4 : p = 4
            · skip
              subst p4
              go_wp2_with fail
              generalize (wr.alloc (.cells #[.int .i64 4, .int .i64 q] 37)) = W1 at S1 R1 K1 y0 y1 hzs ⊢
              generalize wr.heap.size = zz at y0 y1 hzs lbS lbR ⊢
              have nzb : ¬zz = b := by omega
              have nzr : ¬zz = r := by omega
              refine (copy_c b s.2 M s.1 _ S1).mono ?_
              rintro e w6 ⟨rfl, S5, C5, K5⟩
              have hgf : ∃ g2, Rsk W1 r g2 M s.1 s.2 ∧ g2 ≠ b ∧ g2 < W1.heap.size := by
                rcases R1.lg with h | h
                · exact ⟨r, Rsk.zero R1 h r, fun h => hbr6.out h.symm, R1.lb⟩
                · exact ⟨g, R1, hgb0.out, h⟩
              obtain ⟨g6, R2, hgb1, hgc⟩ := hgf
              have R3 := R2.keep K5 (fun h => h) (.inr (fun h => h))
              have hcb : Hid (b < W1.heap.size) := S1.lt
              have hcr : Hid (r ≠ W1.heap.size) := Nat.ne_of_lt R1.lb
              have hgb6 : Hid (g6 ≠ W1.heap.size) := Nat.ne_of_lt hgc
              have hb7 : Hid (w.heap.size ≤ W1.heap.size) := K1.out.size
              have K6 := Lib.hid (K1.out.trans (K5.mono (T := fun i => w.heap.size ≤ i) (fun i hi => hi.elim)))
              generalize W1.heap.size = c at C5 hcb hcr hgb6 hb7 ⊢
              clear K5 R1 S1 R2 hzs y0 y1
              go_wp2_with fail
              refine (enter_p b M s 0 _ S5 (by omega)).mono ?_
              rintro e w7 ⟨rfl, S7, K7⟩
              have C7 := C5.keep K7 (fun h => by have := hcb.out; omega)
              have R7 := R3.keep K7 (fun h => hbr6.out h.symm) (.inr hgb1)
              have K8 := Lib.hid (K6.out.trans (K7.mono (T := fun i => w.heap.size ≤ i) (fun i hi => by rw [hi]; exact hb6.out)))
              clear K7 C5 R3 S5
              go_wp2_with fail
              refine (leave_p b M _ _ S7).mono ?_
              rintro e w8 ⟨rfl, S8, K9⟩
              have C8 := C7.keep K9 (fun h => by have := hcb.out; omega)
              have R8 := R7.keep K9 (fun h => hbr6.out h.symm) (.inr hgb1)
              have K10 := Lib.hid (K8.out.trans (K9.mono (T := fun i => w.heap.size ≤ i) (fun i hi => by rw [hi]; exact hb6.out)))
              clear K9 C7 R7 S7
              go_wp2_with fail
              refine (take_p b M _ _ S8).mono ?_
              rintro e w9 ⟨rfl, S9, K11⟩
              have S6 := C8.keep K11 (fun h => by have := hcb.out; omega)
              have R6 := R8.keep K11 (fun h => hbr6.out h.symm) (.inr hgb1)
              have K9 := Lib.hid (K10.out.trans (K11.mono (T := fun i => w.heap.size ≤ i) (fun i hi => by rw [hi]; exact hb6.out)))
              clear K11 C8 R8 S8 S9
              obtain ⟨s6, hs6⟩ : ∃ s6, s6 = s := ⟨_, rfl⟩
              rw [← hs6] at S6 R6
              clear hs6
              replace hbr6 : Hid (c ≠ r) := fun h => hcr.out h.symm
              replace hb6 := hb7
              obtain ⟨A6, cap6, c6, x6⟩ := R6.c1
              clear x6
              have S9 := Lib.hid S6
              have R9 := Lib.hid R6
              have m64 := S6.m64
              have hdm := S6.dm
              go_wp2_with fail
              go_quiet (first
                | (go_at_call 14; exact depth_q c M s6 _ _ S6)
                | (go_at_call 13; exact left_q c M s6 _ _ S6)
                | (go_at_call 20; exact rlast_q r g6 M s6 _ _ R6 (by omega)))
              go_wp2_with fail
              go_roundw
              case rel => exact ⟨k + 1, c, g6, s6, by omega, by go_num, rfl, S9.out.drewN _, R9.out.drewN _, hbr6.out, hgb6.out, hb6.out, K9.out.drewN _⟩
              case measure => simp [intOf]; omega
            · skip
              have q1 : (p == 1) = false := by simpa using p1
              have q2 : (p == 2) = false := by simpa using p2
              have q3 : (p == 3) = false := by simpa using p3
              have q4 : (p == 4) = false := by simpa using p4
              have S6 := S1
              have R6 := R1
              have K9 := K1
              obtain ⟨g6, hg6⟩ : ∃ g6, g6 = g := ⟨_, rfl⟩
              obtain ⟨s6, hs6⟩ : ∃ s6, s6 = s := ⟨_, rfl⟩
              rw [← hs6, ← hg6] at R6
              rw [← hs6] at S6
              have hgb6 : Hid (g6 ≠ b) := by rw [hg6]; exact hgb0.out
              clear S1 R1 hg6 hs6
              obtain ⟨A6, cap6, c6, x6⟩ := R6.c1
              clear x6
              go_wp2_with fail
              obtain ⟨A6, cap6, c6, x6⟩ := R6.c1
              clear x6
              have S9 := Lib.hid S6
              have R9 := Lib.hid R6
              have m64 := S6.m64
              have hdm := S6.dm
              go_wp2_with fail
              go_quiet (first
                | (go_at_call 14; exact depth_q b M s6 _ _ S6)
                | (go_at_call 13; exact left_q b M s6 _ _ S6)
                | (go_at_call 20; exact rlast_q r g6 M s6 _ _ R6 (by omega)))
              go_wp2_with fail
              go_roundw
              case rel => exact ⟨k + 1, b, g6, s6, by omega, by go_num, rfl, S9.out.drewN _, R9.out.drewN _, hbr6.out, hgb6.out, hb6.out, K9.out.drewN _⟩
              case measure => simp [intOf]; omega
    · obtain rfl : k = st.length := by omega
      have t1 : ¬(st.length : Int) < (st.length : Int) := by omega
      go_wp2_with fail
      go_ret
      exact ⟨rfl, Kept.below (Below.refl _ w) K0.out (fun i hi => hi)⟩

theorem walk (d : Int) (A : Option Addr) (cap : Nat) (st : List (Int × Int)) (w : World) (hl : st.length ≤ 9223372036854775807) (G : Given w A st cap) :
    Calls Try.prog 6 #[.int .i64 d, .slice A st.length cap] w fun e w' => e = .returned (.bool true) ∧ Below w.heap.size w w' := by
  by_cases h : 300 < st.length
  · exact walk_out d A cap st w hl h
  · exact walk_within d A cap st w (by omega) G
end Go.Proofs.Ytejhgoihjmlmnaa.Plays
