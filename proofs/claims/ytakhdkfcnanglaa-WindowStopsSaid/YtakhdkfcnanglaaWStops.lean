/- The walk of WStops. -/
import Derived.Test.YtakhdkfcnanglaaWcom
namespace Go.Proofs.Ytakhdkfcnanglaa.WStops
open Go.RowKit
open Go.Proofs.Ytakhdkfcnanglaa.Obj Go.Proofs.Ytakhdkfcnanglaa.New Go.Proofs.Ytakhdkfcnanglaa.Play Go.Proofs.Ytakhdkfcnanglaa.Ref Go.Proofs.Ytakhdkfcnanglaa.Flow Go.Proofs.Ytakhdkfcnanglaa.Win
set_option linter.unusedVariables false

set_option maxRecDepth 10000 in
set_option maxHeartbeats 4000000 in
theorem walk_out (x y : Int) (d : ByteArray) (A : Option Addr) (cap : Nat) (st : List (Int × Int)) (w : World) (hd : d.size ≤ 140737488351232) (hn : st.length ≤ 9223372036854775807) (h : 1000 < d.size ∨ 300 < st.length) :
    Calls Try.prog 11 #[.agg #[.int .i64 x, .int .i64 y], .string d, .slice A st.length cap] w fun e w' => e = .returned (.bool true) ∧ Below w.heap.size w w' := by
  have y0 : (w.alloc (.cells #[.int .i64 x, .int .i64 y] 46)).cell? ⟨w.heap.size, 0, none⟩ = some (.int .i64 x) := World.cell?_alloc_new _ _ _ _
  have y1 : (w.alloc (.cells #[.int .i64 x, .int .i64 y] 46)).cell? ⟨w.heap.size, 1, none⟩ = some (.int .i64 y) := World.cell?_alloc_new _ _ _ _
  have K0 := Lib.hid ((Kept.refl (fun i => w.heap.size ≤ i) w).alloc (.cells #[.int .i64 x, .int .i64 y] 46))
  have hpp : w.heap.size < (w.alloc (.cells #[.int .i64 x, .int .i64 y] 46)).heap.size := by simp
  go_enter Try.func11, Try.ntmps11
  go_wp2_with fail
  generalize (w.alloc (.cells #[.int .i64 x, .int .i64 y] 46)) = w0 at y0 y1 K0 hpp ⊢
  obtain ⟨pp, hq⟩ : ∃ pp, pp = w.heap.size := ⟨_, rfl⟩
  rw [← hq] at y0 y1 hpp
  rw [← hq]
  have HQ := Lib.hid hq
  clear hq
  refine (awake_w w0).mono ?_
  rintro e w1 ⟨rfl, hb1⟩
  have y0 := (World.cell?_of_block (w := w0) (a := ⟨pp, 0, none⟩) (hb1.block pp hpp)).trans y0
  have y1 := (World.cell?_of_block (w := w0) (a := ⟨pp, 1, none⟩) (hb1.block pp hpp)).trans y1
  have K1 := Lib.hid (K0.out.trans (Kept.of_below hb1 (fun i => w.heap.size ≤ i)))
  have hpp := Nat.lt_of_lt_of_le hpp hb1.size
  clear hb1 K0
  go_wp2_with fail
  refine (great_w d A st.length cap w1 (by omega) (by omega)).mono ?_
  rintro e w2 ⟨rfl, rfl⟩
  rw [show decide (1000 < d.size ∨ 300 < st.length) = true from by simp; omega]
  clear y0 y1
  go_wp2_with fail
  refine (awake_w w1).mono ?_
  rintro e w2 ⟨rfl, hb2⟩
  go_wp2_with fail
  go_ret
  exact ⟨rfl, Kept.below (Below.refl _ w) (K1.out.trans (Kept.of_below hb2 _)) (fun i h => h)⟩

set_option maxRecDepth 10000 in
set_option maxHeartbeats 4000000 in
theorem walk_within (x y : Int) (d : ByteArray) (A : Option Addr) (cap : Nat) (st : List (Int × Int)) (w : World) (hd : d.size ≤ 1000) (hn : st.length ≤ 300) (G : Given w A st cap) :
    Calls Try.prog 11 #[.agg #[.int .i64 x, .int .i64 y], .string d, .slice A st.length cap] w fun e w' => e = .returned (.bool true) ∧ Below w.heap.size w w' := by
  have y0 : (w.alloc (.cells #[.int .i64 x, .int .i64 y] 46)).cell? ⟨w.heap.size, 0, none⟩ = some (.int .i64 x) := World.cell?_alloc_new _ _ _ _
  have y1 : (w.alloc (.cells #[.int .i64 x, .int .i64 y] 46)).cell? ⟨w.heap.size, 1, none⟩ = some (.int .i64 y) := World.cell?_alloc_new _ _ _ _
  have K0 := Lib.hid ((Kept.refl (fun i => w.heap.size ≤ i) w).alloc (.cells #[.int .i64 x, .int .i64 y] 46))
  have hpp : w.heap.size < (w.alloc (.cells #[.int .i64 x, .int .i64 y] 46)).heap.size := by simp
  go_enter Try.func11, Try.ntmps11
  go_wp2_with fail
  generalize (w.alloc (.cells #[.int .i64 x, .int .i64 y] 46)) = w0 at y0 y1 K0 hpp ⊢
  obtain ⟨pp, hq⟩ : ∃ pp, pp = w.heap.size := ⟨_, rfl⟩
  rw [← hq] at y0 y1 hpp
  rw [← hq]
  have HQ := Lib.hid hq
  clear hq
  refine (awake_w w0).mono ?_
  rintro e w1 ⟨rfl, hb1⟩
  have y0 := (World.cell?_of_block (w := w0) (a := ⟨pp, 0, none⟩) (hb1.block pp hpp)).trans y0
  have y1 := (World.cell?_of_block (w := w0) (a := ⟨pp, 1, none⟩) (hb1.block pp hpp)).trans y1
  have G1 : Given w1 A st cap := (G.keep K0.out (fun i h => h)).keep (Kept.of_below hb1 (fun _ => False)) (fun _ h => h.elim)
  have K1 := Lib.hid (K0.out.trans (Kept.of_below hb1 (fun i => w.heap.size ≤ i)))
  have hpp := Nat.lt_of_lt_of_le hpp hb1.size
  clear hb1 K0
  go_wp2_with fail
  refine (great_w d A st.length cap w1 (by omega) (by omega)).mono ?_
  rintro e w2 ⟨rfl, rfl⟩
  rw [show decide (1000 < d.size ∨ 300 < st.length) = false from by simp; omega]
  go_wp2_with (at_builtin; refine wpList_copy rfl (.tmp 26) (.tmp 27) rfl A cap st w1 G1 (by omega) rfl rfl ?_)
  intro A' cap' w3 G3 K3
  have y0 := keep_cell K3 (fun h => h) y0
  have y1 := keep_cell K3 (fun h => h) y1
  have K4 := Lib.hid (kup K1.out K3 (fun _ h => h.elim))
  have hpp := Nat.lt_of_lt_of_le hpp K3.size
  clear K3 G1 K1 G
  go_wp2_with fail
  refine (new_c d A' cap' st w3 G3 (by omega)).mono ?_
  rintro e w4 ⟨sb, g, rfl, S4, K5, hb, hg⟩
  have y0 := keep_cell K5 (fun h => h) y0
  have y1 := keep_cell K5 (fun h => h) y1
  have K6 := Lib.hid (kup K4.out K5 (fun _ h => h.elim))
  have hsb := S4.lb
  have HG : Hid (st = [] ∨ (w3.heap.size ≤ g ∧ g < w4.heap.size)) := by
    rcases hg with h | h
    · exact .inl h
    · exact S4.lg.imp id (fun k => ⟨h, k⟩)
  have hpp4 := Nat.lt_of_lt_of_le hpp hb
  clear K4 G3 K5 hg
  go_wp2_with fail
  refine (win_new x y sb g d st w4 S4 (by omega) (by omega)).mono ?_
  rintro e w5 ⟨rfl, X5, K5⟩
  have y0 := keep_cell K5 (fun h => h) y0
  have y1 := keep_cell K5 (fun h => h) y1
  have K7 := Lib.hid (kup K6.out K5 (fun _ h => h.elim))
  have hw : w.heap.size ≤ pp := by have := HQ.out; omega
  have hq5 : w4.heap.size + 1 < w5.heap.size := by obtain ⟨_, _, h⟩ := X5; exact h.wb.lb
  clear K6 K5 S4
  generalize w4.heap.size = q at X5 hsb HG hq5 ⊢
  generalize w3.heap.size = lo at hpp hb HG
  go_wp2_with fail
  have hn1 : 1 ≤ clampN x := by unfold clampN; omega
  generalize clampN x = N at X5 hn1 ⊢
  generalize clampZ y = Z at X5 ⊢
  clear y0 y1
  go_loopw [43] (fun i wr => ∃ (k : Nat) (a : Ab), k ≤ d.size + 1 ∧ i = .int .i64 k ∧ W wr (q + 1) q sb g N Z d a ∧ (a.p = k ∨ a.Over) ∧ a.Kd ∧ Kept (fun i => w.heap.size ≤ i) w wr) (fun i _ => d.size + 1 - (intOf i).toNat)
  case atStart => exact ⟨0, _, by omega, rfl, X5, .inl rfl, .inl rfl, K7.out⟩
  case round =>
    obtain ⟨k, a, hk, rfl, X, hp, hkd, K⟩ := hrel
    have HP := Lib.hid hp
    have HKD := Lib.hid hkd
    have K0 := Lib.hid K
    clear K hp hkd X5 K7
    by_cases hlt : k < d.size + 1
    · have t1 : (k : Int) < (d.size : Int) + 1 := by omega
      by_cases h0 : (a.fill N Z d.size).held = 0
      · have HO : Hid ((a.next N Z d.size).Over) := Ab.next_none (by omega) h0
        have C := next_over (q + 1) q sb g N Z d a wr X h0
        have HKN : Hid ((a.next N Z d.size).Kd) := HKD.out.next (by omega)
        clear h0 X
        generalize a.next N Z d.size = a' at C HO HKN ⊢
        generalize (a.fill N Z d.size).e = e' at C ⊢
        go_wp2_with fail
        refine C.mono ?_
        rintro e w6 ⟨rfl, X6, K6⟩
        have K8 := Lib.hid (kup K0.out K6 (fun i h => by omega))
        clear C K6
        go_wp2_with fail
        go_roundw
        case rel => exact ⟨k + 1, a', by omega, by go_num, X6, .inr HO.out, HKN.out, K8.out⟩
        case measure => simp [intOf]; omega
      · have hpos : 0 < (a.fill N Z d.size).held := by omega
        have HO : Hid ((a.next N Z d.size).p = k + 1) := by
          show (a.next N Z d.size).p = k + 1
          have hs := Ab.next_some hpos
          rcases HP.out with h | h
          · omega
          · rw [h.fill] at hpos
            have := h.1
            omega
        have C := next_go (q + 1) q sb g N Z d a wr X hpos
        have HKN : Hid ((a.next N Z d.size).Kd) := HKD.out.next (by omega)
        clear h0 X hpos
        generalize a.next N Z d.size = a' at C HO HKN ⊢
        generalize bt d a.p = v at C ⊢
        go_wp2_with fail
        refine C.mono ?_
        rintro e w6 ⟨rfl, X6, K6⟩
        have K8 := Lib.hid (kup K0.out K6 (fun i h => by omega))
        clear C K6
        go_wp2_with fail
        go_roundw
        case rel => exact ⟨k + 1, a', by omega, by go_num, X6, .inl HO.out, HKN.out, K8.out⟩
        case measure => simp [intOf]; omega
    · obtain rfl : k = d.size + 1 := by omega
      have t1 : ¬(d.size : Int) + 1 < (d.size : Int) + 1 := by omega
      have HO : Hid a.Over := by
        rcases HP.out with h | h
        · obtain ⟨_, _, H⟩ := X
          have := H.ok.le
          omega
        · exact h
      rw [show (((d.size + 1 : Nat)) : Int) = (d.size : Int) + 1 from by omega]
      have C := fun w h => next_over (q + 1) q sb g N Z d a w h (by rw [HO.out.fill]; exact HO.out.1)
      rw [HO.out.fill, HO.out.next] at C
      have CP := fun w h => peek_over (q + 1) q sb g N Z d a w h (by rw [HO.out.fill]; exact HO.out.1)
      rw [HO.out.fill] at CP
      have HE := Lib.hid (HO.out.2)
      have HC := Lib.hid C
      have HCP := Lib.hid CP
      clear C CP HP
      go_wp2_with fail
      refine (HC.out _ X).mono ?_
      rintro e w6 ⟨rfl, X6, K6⟩
      have K8 := Lib.hid (kup K0.out K6 (fun i h => by omega))
      clear K6 K0 X
      go_wp2_with fail
      refine (calls_w0 (q + 1) q sb g N Z d a w6 X6).mono ?_
      rintro e w7 ⟨rfl, rfl⟩
      go_wp2_with fail
      refine (at_c (q + 1) q sb g N Z d a w6 X6).mono ?_
      rintro e w7 ⟨rfl, rfl⟩
      go_wp2_with fail
      obtain ⟨wo, hwo⟩ : ∃ wo : World, wo = wr := ⟨wr, rfl⟩
      clear hwo
      go_loopw [57] (fun i wr => ∃ (k : Nat), k ≤ 5 ∧ i = .int .i64 k ∧ W wr (q + 1) q sb g N Z d a ∧ Kept (fun i => w.heap.size ≤ i) w wr) (fun i _ => 5 - (intOf i).toNat)
      case atStart => exact ⟨0, by omega, rfl, X6, K8.out⟩
      case round =>
        obtain ⟨k, hk, rfl, X, K⟩ := hrel
        have K0 := Lib.hid K
        clear K X6 K8
        by_cases hlt : k < 5
        · have t1 : (k : Int) < 5 := by omega
          go_wp2_with fail
          refine (HC.out _ X).mono ?_
          rintro e w7 ⟨rfl, X7, K6⟩
          have K9 := Lib.hid (kup K0.out K6 (fun i h => by omega))
          clear K6 K0 X
          go_wp2_with fail
          refine (HCP.out _ X7).mono ?_
          rintro e w8 ⟨rfl, X8, K6⟩
          have K10 := Lib.hid (kup K9.out K6 (fun i h => by omega))
          clear K6 K9 X7
          go_wp2_with fail
          refine (calls_w0 (q + 1) q sb g N Z d a w8 X8).mono ?_
          rintro e w9 ⟨rfl, rfl⟩
          go_wp2_with fail
          refine (at_c (q + 1) q sb g N Z d a w8 X8).mono ?_
          rintro e w9 ⟨rfl, rfl⟩
          go_wp2_with fail
          go_roundw
          case rel => exact ⟨k + 1, by omega, by go_num, X8, K10.out⟩
          case measure => simp [intOf]; omega
        · obtain rfl : k = 5 := by omega
          rcases HKD.out with h | h | h | h
          · exact absurd h HE.out
          all_goals
            go_wp2_with fail
            go_ret
            exact ⟨by first | rfl | (simp; done), Kept.below (Below.refl _ w) K0.out (fun i h => h)⟩

theorem walk (x y : Int) (d : ByteArray) (A : Option Addr) (cap : Nat) (st : List (Int × Int)) (w : World) (hd : d.size ≤ 140737488351232) (hn : st.length ≤ 9223372036854775807) (G : Given w A st cap) :
    Calls Try.prog 11 #[.agg #[.int .i64 x, .int .i64 y], .string d, .slice A st.length cap] w fun e w' => e = .returned (.bool true) ∧ Below w.heap.size w w' := by
  by_cases h : 1000 < d.size ∨ 300 < st.length
  · exact walk_out x y d A cap st w hd hn h
  · exact walk_within x y d A cap st w (by omega) (by omega) G
end Go.Proofs.Ytakhdkfcnanglaa.WStops
