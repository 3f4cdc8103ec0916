/- Peek, Next, At, Held; great, Clamp (layer 4). -/
import Derived.Test.YtakhdkfcnanglaaFill
namespace Go.Proofs.Ytakhdkfcnanglaa.Win
open Go.RowKit
open Go.Proofs.Ytakhdkfcnanglaa.Obj Go.Proofs.Ytakhdkfcnanglaa.New Go.Proofs.Ytakhdkfcnanglaa.Play Go.Proofs.Ytakhdkfcnanglaa.Ref Go.Proofs.Ytakhdkfcnanglaa.Flow
set_option linter.unusedVariables false

abbrev B3 (b q sb : Nat) : Nat → Prop := fun i => i = b ∨ i = q ∨ i = sb
set_option maxHeartbeats 400000 in
theorem peek_over (b q sb g N Z : Nat) (d : ByteArray) (x : Ab) (w : World) (h : W w b q sb g N Z d x) (h0 : (x.fill N Z d.size).held = 0) :
    Calls Try.prog 29 #[.pointer (some ⟨b, 0, none⟩)] w fun e w' => e = .returned (.tuple #[.int .u8 0, .int .i64 (x.fill N Z d.size).e]) ∧ W w' b q sb g N Z d (x.fill N Z d.size) ∧ Kept (fun i => i = b ∨ i = q ∨ i = sb) w w' := by
  have F := fill_c b q sb g N Z d x w h
  generalize x.fill N Z d.size = y at F h0 ⊢
  go_enter Try.func29, Try.ntmps29
  go_wp2_with fail
  refine F.mono ?_
  rintro e w1 ⟨rfl, H1, K1⟩
  clear F
  have HW := Lib.hid H1
  obtain ⟨frm, o, H⟩ := H1
  have K := Lib.hid K1
  have c2 := H.wb.c2
  have c3 := H.wb.c3
  have c6 := H.wb.c6
  rw [h0, Nat.add_zero] at c3
  clear K1 H h0 h
  go_wp2_with fail
  go_quiet (fail)
  go_wp2_with fail
  go_quiet (fail)
  go_wp2_with fail
  go_ret2
  exact ⟨rfl, (HW.out.drewN _).drewN _, (K.out.drewN _).drewN _⟩
set_option maxHeartbeats 400000 in
theorem peek_go (b q sb g N Z : Nat) (d : ByteArray) (x : Ab) (w : World) (h : W w b q sb g N Z d x) (h0 : 0 < (x.fill N Z d.size).held) :
    Calls Try.prog 29 #[.pointer (some ⟨b, 0, none⟩)] w fun e w' => e = .returned (.tuple #[.int .u8 (bt d x.p), .int .i64 0]) ∧ W w' b q sb g N Z d (x.fill N Z d.size) ∧ Kept (fun i => i = b ∨ i = q ∨ i = sb) w w' := by
  have hp := x.fill_p N Z d.size
  have F := fill_c b q sb g N Z d x w h
  generalize x.fill N Z d.size = y at F h0 hp ⊢
  rw [← hp]
  clear hp
  go_enter Try.func29, Try.ntmps29
  go_wp2_with fail
  refine F.mono ?_
  rintro e w1 ⟨rfl, H1, K1⟩
  clear F
  have HW := Lib.hid H1
  obtain ⟨frm, o, H⟩ := H1
  have K := Lib.hid K1
  have c1 := H.wb.c1
  have c2 := H.wb.c2
  have c3 := H.wb.c3
  have hr := H.wb.room
  have hnm := H.nm
  have cr := H.wb.cell 0 h0
  rw [Nat.add_zero, Nat.add_zero] at cr
  have hne : ((frm : Int) == (frm : Int) + (y.held : Int)) = false := by simp; omega
  have hlt : (frm : Int) < (N : Int) := by omega
  clear K1 H h0 h
  go_wp2_with fail
  go_quiet (fail)
  go_wp2_with fail
  go_quiet (fail)
  go_wp2_with fail
  go_ret2
  exact ⟨rfl, (HW.out.drewN _).drewN _, (K.out.drewN _).drewN _⟩
set_option maxHeartbeats 400000 in
theorem next_over (b q sb g N Z : Nat) (d : ByteArray) (x : Ab) (w : World) (h : W w b q sb g N Z d x) (h0 : (x.fill N Z d.size).held = 0) :
    Calls Try.prog 24 #[.pointer (some ⟨b, 0, none⟩)] w fun e w' => e = .returned (.tuple #[.int .u8 0, .int .i64 (x.fill N Z d.size).e]) ∧ W w' b q sb g N Z d (x.next N Z d.size) ∧ Kept (fun i => i = b ∨ i = q ∨ i = sb) w w' := by
  have hn1 : 1 ≤ N := by obtain ⟨_, _, h⟩ := h; exact h.n1
  have he : ((x.fill N Z d.size).e == 0) = false := by simpa using Ab.over_of (N := (N : Int)) (by omega) h0
  have hx : Hid (x.next N Z d.size = x.fill N Z d.size) := by
    unfold Ab.next Ab.take
    exact if_pos h0
  rw [hx.out]
  have F := peek_over b q sb g N Z d x w h h0
  clear h h0 hx
  generalize x.fill N Z d.size = y at F he ⊢
  go_enter Try.func24, Try.ntmps24
  go_wp2_with fail
  refine F.mono ?_
  rintro e w1 ⟨rfl, H1, K1⟩
  have HW := Lib.hid H1
  have K := Lib.hid K1
  clear H1 K1 F
  go_wp2_with fail
  go_ret2
  exact ⟨rfl, HW.out, K.out⟩
set_option maxHeartbeats 400000 in
theorem next_go (b q sb g N Z : Nat) (d : ByteArray) (x : Ab) (w : World) (h : W w b q sb g N Z d x) (h0 : 0 < (x.fill N Z d.size).held) :
    Calls Try.prog 24 #[.pointer (some ⟨b, 0, none⟩)] w fun e w' => e = .returned (.tuple #[.int .u8 (bt d x.p), .int .i64 0]) ∧ W w' b q sb g N Z d (x.next N Z d.size) ∧ Kept (fun i => i = b ∨ i = q ∨ i = sb) w w' := by
  have hx : Hid (x.next N Z d.size = ⟨(x.fill N Z d.size).s, (x.fill N Z d.size).p + 1, (x.fill N Z d.size).held - 1, (x.fill N Z d.size).calls, (x.fill N Z d.size).e⟩) := by
    unfold Ab.next Ab.take
    exact if_neg (by omega)
  rw [hx.out]
  have F := peek_go b q sb g N Z d x w h h0
  clear h hx
  generalize x.fill N Z d.size = y at F h0 ⊢
  go_enter Try.func24, Try.ntmps24
  go_wp2_with fail
  refine F.mono ?_
  rintro e w1 ⟨rfl, H1, K1⟩
  clear F
  obtain ⟨frm, o, H⟩ := H1
  have K := Lib.hid K1
  have c2 := H.wb.c2
  have c5 := H.wb.c5
  have f2 := H.wb.fz 2 (by omega)
  have f5 := H.wb.fz 5 (by omega)
  have hr := H.wb.room
  have hnm := H.nm
  have hle := H.ok.le
  have hdm := H.dm
  have WB := Lib.hid (H.wb.taken h0)
  have HS : Hid (Src ((w1.setCell ⟨b, 2, none⟩ (.int .i64 ((frm : Int) + 1))).setCell ⟨b, 5, none⟩ (.int .i64 ((y.p : Int) + 1))) sb g (d.extract (y.p + 1 + (y.held - 1)) d.size) y.s o ((y.p + 1 + (y.held - 1) : Nat) : Int) (y.calls : Int)) := by
    rw [show y.p + 1 + (y.held - 1) = y.p + y.held from by omega]
    exact Src.keep' (S := (· = b)) H.src (Kept.setIn (Kept.setIn (Kept.refl _ _))) (fun h => H.bs h.symm) (H.gb.imp id (fun h => h.1))
  have HH := Lib.hid H
  have HO : Hid ((⟨y.s, y.p + 1, y.held - 1, y.calls, y.e⟩ : Ab).Ok d.size) := by
    have := H.ok.take
    unfold Ab.take at this
    rw [if_neg (by omega)] at this
    exact this
  clear H K1 h0
  go_wp2_with fail
  go_ret2
  refine ⟨rfl, ?_, (K.out.setCell (.inl rfl) _).setCell (.inl rfl) _⟩
  exact ⟨frm + 1, o, WB.out, HS.out, HH.out.on, HO.out, HH.out.bs, HH.out.qs, HH.out.gb, HH.out.n1, HH.out.nm, HH.out.zm, HH.out.dm⟩
theorem at_c (b q sb g N Z : Nat) (d : ByteArray) (x : Ab) (w : World) (h : W w b q sb g N Z d x) :
    Calls Try.prog 27 #[.pointer (some ⟨b, 0, none⟩)] w fun e w' => e = .returned (.int .i64 x.p) ∧ w = w' := by
  obtain ⟨frm, o, H⟩ := h
  have c5 := H.wb.c5
  clear H
  go_enter Try.func27, Try.ntmps27
  go_wp2
  go_ret
  exact ⟨rfl, rfl⟩
theorem at_q (b q sb g N Z : Nat) (d : ByteArray) (x : Ab) (w : World) (n : Nat) (h : W w b q sb g N Z d x) :
    Calls Try.prog 27 #[.pointer (some ⟨b, 0, none⟩)] (w.drewN n) fun e w' => e = .returned (.int .i64 x.p) ∧ ∃ m, w' = w.drewN m :=
  (at_c b q sb g N Z d x _ (h.drewN n)).mono fun _ _ ⟨he, hw⟩ => ⟨he, n, hw.symm⟩
theorem held_q (b q sb g N Z : Nat) (d : ByteArray) (x : Ab) (w : World) (n : Nat) (h : W w b q sb g N Z d x) :
    Calls Try.prog 26 #[.pointer (some ⟨b, 0, none⟩)] (w.drewN n) fun e w' => e = .returned (.int .i64 x.held) ∧ ∃ m, w' = w.drewN m := by
  obtain ⟨frm, o, H⟩ := h
  have c2 := H.wb.c2
  have c3 := H.wb.c3
  have hr := H.wb.room
  have hnm := H.nm
  clear H
  go_enter Try.func26, Try.ntmps26
  go_wp2
  go_quiet (fail)
  go_wp2
  go_ret
  exact ⟨ret_int (by omega), _, by first | rfl | (simp only [World.drewN_drewN]; rfl)⟩
theorem calls_w (b q sb g N Z : Nat) (d : ByteArray) (x : Ab) (w : World) (n : Nat) (h : W w b q sb g N Z d x) :
    Calls Try.prog 19 #[.pointer (some ⟨sb, 0, none⟩)] (w.drewN n) fun e w' => e = .returned (.int .i64 x.calls) ∧ ∃ m, w' = w.drewN m := by
  obtain ⟨frm, o, H⟩ := h
  have hc := H.ok.calls
  exact (calls_c sb g _ _ _ _ _ _ (H.src.drewN n) (by omega) (by omega)).mono fun _ _ ⟨he, hw⟩ => ⟨he, n, hw.symm⟩
theorem given_w (b q sb g N Z : Nat) (d : ByteArray) (x : Ab) (w : World) (n : Nat) (h : W w b q sb g N Z d x) :
    Calls Try.prog 20 #[.pointer (some ⟨sb, 0, none⟩)] (w.drewN n) fun e w' => e = .returned (.int .i64 ((x.p + x.held : Nat) : Int)) ∧ ∃ m, w' = w.drewN m := by
  obtain ⟨frm, o, H⟩ := h
  exact (given_c sb g _ _ _ _ _ _ (H.src.drewN n)).mono fun _ _ ⟨he, hw⟩ => ⟨he, n, hw.symm⟩
theorem great_w (d : ByteArray) (A : Option Addr) (n c : Nat) (w : World) (hd : d.size ≤ 140737488351232) (hn : n ≤ 9223372036854775807) :
    Calls Try.prog 22 #[.string d, .slice A n c] w fun e w' => e = .returned (.bool (decide (1000 < d.size ∨ 300 < n))) ∧ w = w' := by
  by_cases h1 : 1000 < d.size
  · go_enter Try.func22, Try.ntmps22
    go_wp2
    go_ret
    exact ⟨ret_bool (by simp), rfl⟩
  · by_cases h2 : 300 < n
    · go_enter Try.func22, Try.ntmps22
      go_wp2
      go_ret
      exact ⟨ret_bool (by simp [h2]; omega), rfl⟩
    · go_enter Try.func22, Try.ntmps22
      go_wp2
      go_ret
      exact ⟨ret_bool (by simp [h1, h2]; omega), rfl⟩
theorem clamp_c (n lo hi : Int) (w : World) : Calls Try.prog 25 #[.int .i64 n, .int .i64 lo, .int .i64 hi] w fun e w' => e = .returned (.int .i64 (if n < lo then lo else if n > hi then hi else n)) ∧ w = w' := by
  by_cases h1 : n < lo
  · go_enter Try.func25, Try.ntmps25
    go_wp2
    go_ret
    exact ⟨ret_int (by ((repeat' split) <;> omega)), rfl⟩
  · by_cases h2 : n > hi
    · go_enter Try.func25, Try.ntmps25
      go_wp2
      go_ret
      exact ⟨ret_int (by ((repeat' split) <;> omega)), rfl⟩
    · go_enter Try.func25, Try.ntmps25
      go_wp2
      go_ret
      exact ⟨ret_int (by ((repeat' split) <;> omega)), rfl⟩
end Go.Proofs.Ytakhdkfcnanglaa.Win
