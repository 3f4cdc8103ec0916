/- The walk of WGives. -/
import Derived.Test.YtakhdkfcnanglaaWcom
import Derived.Test.YtakhdkfcnanglaaWrun
namespace Go.Proofs.Ytakhdkfcnanglaa.WGives
open Go.RowKit
open Go.Proofs.Ytakhdkfcnanglaa.Obj Go.Proofs.Ytakhdkfcnanglaa.New Go.Proofs.Ytakhdkfcnanglaa.Play Go.Proofs.Ytakhdkfcnanglaa.Ref Go.Proofs.Ytakhdkfcnanglaa.Flow Go.Proofs.Ytakhdkfcnanglaa.Win Go.Proofs.Ytakhdkfcnanglaa.Wrun
set_option linter.unusedVariables false

theorem at_p (b q sb g N Z : Nat) (d : ByteArray) (x : Ab) (w : World) (m : Nat) (hm : x.p = m) (h : W w b q sb g N Z d x) :
    Calls Try.prog 27 #[.pointer (some ⟨b, 0, none⟩)] w fun e w' => e = .returned (.int .i64 m) ∧ w = w' := by
  subst hm
  exact at_c b q sb g N Z d x w h
set_option maxRecDepth 10000 in
set_option maxHeartbeats 4000000 in
theorem walk_out (x y : Int) (d : ByteArray) (A : Option Addr) (cap : Nat) (st : List (Int × Int)) (w : World) (hd : d.size ≤ 140737488351232) (hn : st.length ≤ 9223372036854775807) (h : 1000 < d.size ∨ 300 < st.length) :
    Calls Try.prog 10 #[.agg #[.int .i64 x, .int .i64 y], .string d, .slice A st.length cap] w fun e w' => e = .returned (.bool true) ∧ Below w.heap.size w w' := by
  have y0 : (w.alloc (.cells #[.int .i64 x, .int .i64 y] 46)).cell? ⟨w.heap.size, 0, none⟩ = some (.int .i64 x) := World.cell?_alloc_new _ _ _ _
  have y1 : (w.alloc (.cells #[.int .i64 x, .int .i64 y] 46)).cell? ⟨w.heap.size, 1, none⟩ = some (.int .i64 y) := World.cell?_alloc_new _ _ _ _
  have K0 := Lib.hid ((Kept.refl (fun i => w.heap.size ≤ i) w).alloc (.cells #[.int .i64 x, .int .i64 y] 46))
  have hpp : w.heap.size < (w.alloc (.cells #[.int .i64 x, .int .i64 y] 46)).heap.size := by simp
  go_enter Try.func10, Try.ntmps10
  go_wp2_with fail
  generalize (w.alloc (.cells #[.int .i64 x, .int .i64 y] 46)) = w0 at y0 y1 K0 hpp ⊢
  obtain ⟨pp, hq⟩ : ∃ pp, pp = w.heap.size := ⟨_, rfl⟩
  rw [← hq] at y0 y1 hpp
  rw [← hq]
  have HQ := Lib.hid hq
  clear hq
  refine (awake_w w0).mono ?_
  rintro e w1 ⟨rfl, hb1⟩
  have y0 := (World.cell?_of_block (w := w0) (a := ⟨pp, 0, none⟩) (hb1.block pp hpp)).trans y0
  have y1 := (World.cell?_of_block (w := w0) (a := ⟨pp, 1, none⟩) (hb1.block pp hpp)).trans y1
  have K1 := Lib.hid (K0.out.trans (Kept.of_below hb1 (fun i => w.heap.size ≤ i)))
  have hpp := Nat.lt_of_lt_of_le hpp hb1.size
  clear hb1 K0
  go_wp2_with fail
  refine (great_w d A st.length cap w1 (by omega) (by omega)).mono ?_
  rintro e w2 ⟨rfl, rfl⟩
  rw [show decide (1000 < d.size ∨ 300 < st.length) = true from by simp; omega]
  clear y0 y1
  go_wp2_with fail
  refine (awake_w w1).mono ?_
  rintro e w2 ⟨rfl, hb2⟩
  go_wp2_with fail
  go_ret
  exact ⟨rfl, Kept.below (Below.refl _ w) (K1.out.trans (Kept.of_below hb2 _)) (fun i h => h)⟩

set_option maxRecDepth 10000 in
set_option maxHeartbeats 4000000 in
theorem walk_within (x y : Int) (d : ByteArray) (A : Option Addr) (cap : Nat) (st : List (Int × Int)) (w : World) (hd : d.size ≤ 1000) (hn : st.length ≤ 300) (G : Given w A st cap) :
    Calls Try.prog 10 #[.agg #[.int .i64 x, .int .i64 y], .string d, .slice A st.length cap] w fun e w' => e = .returned (.bool true) ∧ Below w.heap.size w w' := by
  have y0 : (w.alloc (.cells #[.int .i64 x, .int .i64 y] 46)).cell? ⟨w.heap.size, 0, none⟩ = some (.int .i64 x) := World.cell?_alloc_new _ _ _ _
  have y1 : (w.alloc (.cells #[.int .i64 x, .int .i64 y] 46)).cell? ⟨w.heap.size, 1, none⟩ = some (.int .i64 y) := World.cell?_alloc_new _ _ _ _
  have K0 := Lib.hid ((Kept.refl (fun i => w.heap.size ≤ i) w).alloc (.cells #[.int .i64 x, .int .i64 y] 46))
  have hpp : w.heap.size < (w.alloc (.cells #[.int .i64 x, .int .i64 y] 46)).heap.size := by simp
  go_enter Try.func10, Try.ntmps10
  go_wp2_with fail
  generalize (w.alloc (.cells #[.int .i64 x, .int .i64 y] 46)) = w0 at y0 y1 K0 hpp ⊢
  obtain ⟨pp, hq⟩ : ∃ pp, pp = w.heap.size := ⟨_, rfl⟩
  rw [← hq] at y0 y1 hpp
  rw [← hq]
  have HQ := Lib.hid hq
  clear hq
  refine (awake_w w0).mono ?_
  rintro e w1 ⟨rfl, hb1⟩
  have y0 := (World.cell?_of_block (w := w0) (a := ⟨pp, 0, none⟩) (hb1.block pp hpp)).trans y0
  have y1 := (World.cell?_of_block (w := w0) (a := ⟨pp, 1, none⟩) (hb1.block pp hpp)).trans y1
  have G1 : Given w1 A st cap := (G.keep K0.out (fun i h => h)).keep (Kept.of_below hb1 (fun _ => False)) (fun _ h => h.elim)
  have K1 := Lib.hid (K0.out.trans (Kept.of_below hb1 (fun i => w.heap.size ≤ i)))
  have hpp := Nat.lt_of_lt_of_le hpp hb1.size
  clear hb1 K0
  go_wp2_with fail
  refine (great_w d A st.length cap w1 (by omega) (by omega)).mono ?_
  rintro e w2 ⟨rfl, rfl⟩
  rw [show decide (1000 < d.size ∨ 300 < st.length) = false from by simp; omega]
  go_wp2_with (at_builtin; refine wpList_copy rfl (.tmp 24) (.tmp 25) rfl A cap st w1 G1 (by omega) rfl rfl ?_)
  intro A' cap' w3 G3 K3
  have y0 := keep_cell K3 (fun h => h) y0
  have y1 := keep_cell K3 (fun h => h) y1
  have K4 := Lib.hid (kup K1.out K3 (fun _ h => h.elim))
  have hpp := Nat.lt_of_lt_of_le hpp K3.size
  have G3b := G1.keep K3 (fun _ h => h.elim)
  clear K3 G1 K1 G
  go_wp2_with fail
  refine (new_c d A' cap' st w3 G3 (by omega)).mono ?_
  rintro e w4 ⟨sb, g, rfl, S4, K5, hb, hg⟩
  have y0 := keep_cell K5 (fun h => h) y0
  have y1 := keep_cell K5 (fun h => h) y1
  have K6 := Lib.hid (kup K4.out K5 (fun _ h => h.elim))
  have hsb := S4.lb
  have HG : Hid (st = [] ∨ (w3.heap.size ≤ g ∧ g < w4.heap.size)) := by
    rcases hg with h | h
    · exact .inl h
    · exact S4.lg.imp id (fun k => ⟨h, k⟩)
  have hpp4 := Nat.lt_of_lt_of_le hpp hb
  have G5 := G3b.keep K5 (fun _ h => h.elim)
  clear K4 G3 K5 hg G3b
  go_wp2_with fail
  refine (win_new x y sb g d st w4 S4 (by omega) (by omega)).mono ?_
  rintro e w5 ⟨rfl, X5, K5⟩
  have y0 := keep_cell K5 (fun h => h) y0
  have y1 := keep_cell K5 (fun h => h) y1
  have K7 := Lib.hid (kup K6.out K5 (fun _ h => h.elim))
  have hw : w.heap.size ≤ pp := by have := HQ.out; omega
  have hq5 : w4.heap.size + 1 < w5.heap.size := by obtain ⟨_, _, h⟩ := X5; exact h.wb.lb
  clear K6 S4
  generalize w4.heap.size = q at X5 hsb HG hq5 ⊢
  generalize w3.heap.size = lo at hpp hb HG
  have G6 := G5.keep K5 (fun _ h => h.elim)
  have hn1 : 1 ≤ clampN x := by unfold clampN; omega
  clear K5 G5
  go_wp2_with fail
  refine (calls_w0 (q + 1) q sb g _ _ _ _ _ X5).mono ?_
  rintro e w6 ⟨rfl, rfl⟩
  go_wp2_with fail
  refine (run_c x y d A cap st _ hd hn G6).mono ?_
  rintro e w6 ⟨T, E, C, rfl, hflow, hT, B6⟩
  generalize clampN x = N at X5 hn1 hflow ⊢
  generalize clampZ y = Z at X5 hflow ⊢
  have K8 := Kept.of_below B6 (fun _ => False)
  have X6 := X5.keep K8 (fun h => h) (fun h => h) (fun h => h) (.inr (fun h => h))
  have K9 := Lib.hid (kup K7.out K8 (fun _ h => h.elim))
  have hz6 := K8.size
  clear K8 B6 X5 K7 G6 y0 y1
  go_wp2_with fail
  have X7 := X6.keep ((Kept.refl (fun _ => False) w6).alloc (.cells #[.string (d.extract 0 T), .int .i64 E, .int .i64 C] 50)) (fun h => h) (fun h => h) (fun h => h) (.inr (fun h => h))
  have K10 := Lib.hid (K9.out.alloc (.cells #[.string (d.extract 0 T), .int .i64 E, .int .i64 C] 50))
  have O7 : Out (w6.alloc (.cells #[.string (d.extract 0 T), .int .i64 E, .int .i64 C] 50)) w6.heap.size (d.extract 0 T) E C := ⟨heap_alloc_new _ _⟩
  generalize (w6.alloc (.cells #[.string (d.extract 0 T), .int .i64 E, .int .i64 C] 50)) = w7 at X7 K10 O7 ⊢
  generalize w6.heap.size = ob at O7 hz6 ⊢
  clear X6 K9
  obtain ⟨X, hX⟩ : ∃ X, X = d.extract 0 T := ⟨_, rfl⟩
  have sX : X.size = T := by rw [hX, ByteArray.size_extract]; omega
  rw [← hX] at O7
  rw [← hX]
  have HX := Lib.hid hX
  have HF := Lib.hid hflow
  clear hX hflow
  go_loopw [53] (fun i wr => ∃ (k : Nat) (a : Ab), k ≤ T ∧ i = .int .i64 k ∧ W wr (q + 1) q sb g N Z d a ∧ a.p = k ∧ a.Rest N Z d.size (T - k) E C ∧ Out wr ob X E C ∧ Kept (fun i => w.heap.size ≤ i) w wr) (fun i _ => T - (intOf i).toNat)
  case atStart => exact ⟨0, _, by omega, rfl, X7, rfl, .inr ⟨rfl, T, C, by simp, by simp, by simpa using HF.out⟩, O7, K10.out⟩
  case round =>
    obtain ⟨k, a, hk, rfl, W1, hp, hr, O, K⟩ := hrel
    have HP := Lib.hid hp
    have HR := Lib.hid hr
    have K0 := Lib.hid K
    have x0 := O.c0
    clear K hp hr X7 O7 K10
    by_cases hlt : k < T
    · have t1 : (k : Int) < (T : Int) := by omega
      have hf := HR.out.fill (by omega)
      have hpos : 0 < (a.fill N Z d.size).held := by
        rcases Nat.eq_zero_or_pos (a.fill N Z d.size).held with h | h
        · have := (hf.none_ (Ab.over_of (by omega) h)).1
          omega
        · exact h
      have hrn : (a.next N Z d.size).Rest N Z d.size (T - (k + 1)) E C := by
        have := hf.take hpos
        rw [show T - (k + 1) = T - k - 1 from by omega]
        exact this
      have hpn : (a.next N Z d.size).p = k + 1 := by rw [Ab.next_some hpos, HP.out]
      have C1 := next_go (q + 1) q sb g N Z d a wr W1 hpos
      rw [HP.out] at C1
      have A1 := fun w h => at_p (q + 1) q sb g N Z d (a.next N Z d.size) w (k + 1) hpn h
      have HRN := Lib.hid hrn
      have HPN := Lib.hid hpn
      have HA := Lib.hid A1
      clear hf hpos hrn hpn A1
      generalize a.next N Z d.size = a2 at C1 HRN HPN HA
      have hkX : k < X.size := by omega
      have hxb : ((X[k]'hkX).toNat : Int) = bt d k := by
        unfold bt
        have := HX.out
        subst this
        have hkd : k < d.size := by omega
        rw [ByteArray.getElem_extract]
        simp [Array.getD, hkd]
        rfl
      go_wp2_with fail
      refine C1.mono ?_
      rintro e w8 ⟨rfl, X8, K8⟩
      have O8 := O.keep K8 (by omega)
      have y0 := O8.c0
      have K11 := Lib.hid (kup K0.out K8 (fun i h => by omega))
      clear C1 K8 K0 W1 O x0
      go_wp2_with fail
      refine (HA.out _ X8).mono ?_
      rintro e w9 ⟨rfl, rfl⟩
      go_wp2_with fail
      go_roundw
      case rel => exact ⟨k + 1, a2, by omega, by go_num, X8, HPN.out, HRN.out, O8, K11.out⟩
      case measure => simp [intOf]; omega
    · obtain rfl : k = T := by omega
      have t1 : ¬(k : Int) < (k : Int) := by omega
      have hf := HR.out.fill (by omega)
      rw [Nat.sub_self] at hf
      have h0 : (a.fill N Z d.size).held = 0 := by have := hf.le; omega
      obtain ⟨hq1, hE, hC⟩ := hf.none_ (Ab.over_of (by omega) h0)
      clear hq1
      have C1 := next_over (q + 1) q sb g N Z d a wr W1 h0
      have hnx : a.next N Z d.size = a.fill N Z d.size := by
        unfold Ab.next Ab.take
        exact if_pos h0
      rw [hnx, ← hE] at C1
      have hpf : (a.fill N Z d.size).p = k := by rw [Ab.fill_p, HP.out]
      have HE := Lib.hid hE
      have HC := Lib.hid hC
      have H0 := Lib.hid h0
      have HPF := Lib.hid hpf
      clear hf hE hC h0 hpf hnx
      generalize a.fill N Z d.size = a2 at C1 HE HC H0 HPF
      go_wp2_with fail
      refine C1.mono ?_
      rintro e w8 ⟨rfl, X8, K8⟩
      have O8 := O.keep K8 (by omega)
      have K11 := Lib.hid (kup K0.out K8 (fun i h => by omega))
      have y0 := O8.c0
      have y1 := O8.c1
      have y2 := O8.c2
      have Q1 := fun n => calls_w (q + 1) q sb g N Z d a2 w8 n X8
      have Q2 := fun n => at_q (q + 1) q sb g N Z d a2 w8 n X8
      have Q3 := fun n => held_q (q + 1) q sb g N Z d a2 w8 n X8
      rw [← HC.out] at Q1
      rw [HPF.out] at Q2
      rw [H0.out] at Q3
      have HQ1 := Lib.hid Q1
      have HQ2 := Lib.hid Q2
      have HQ3 := Lib.hid Q3
      clear C1 K8 K0 W1 O x0 O8 Q1 Q2 Q3
      go_wp2_with fail
      go_quiet (first
        | (go_at_call 19; exact HQ1.out _)
        | (go_at_call 27; exact HQ2.out _)
        | (go_at_call 26; exact HQ3.out _))
      go_wp2_with fail
      go_ret
      exact ⟨by first | rfl | (simp; done), Kept.below (Below.refl _ w) (K11.out.drewN _) (fun i h => h)⟩

theorem walk (x y : Int) (d : ByteArray) (A : Option Addr) (cap : Nat) (st : List (Int × Int)) (w : World) (hd : d.size ≤ 140737488351232) (hn : st.length ≤ 9223372036854775807) (G : Given w A st cap) :
    Calls Try.prog 10 #[.agg #[.int .i64 x, .int .i64 y], .string d, .slice A st.length cap] w fun e w' => e = .returned (.bool true) ∧ Below w.heap.size w w' := by
  by_cases h : 1000 < d.size ∨ 300 < st.length
  · exact walk_out x y d A cap st w hd hn h
  · exact walk_within x y d A cap st w (by omega) (by omega) G
end Go.Proofs.Ytakhdkfcnanglaa.WGives
