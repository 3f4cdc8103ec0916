/- The walk of WPeeks. -/
import Derived.Test.YtakhdkfcnanglaaWcom
import Derived.Deep.RegionHeld3
namespace Go.Proofs.Ytakhdkfcnanglaa.WPeeks
open Go.RowKit
open Go.Proofs.Ytakhdkfcnanglaa.Obj Go.Proofs.Ytakhdkfcnanglaa.New Go.Proofs.Ytakhdkfcnanglaa.Play Go.Proofs.Ytakhdkfcnanglaa.Ref Go.Proofs.Ytakhdkfcnanglaa.Flow Go.Proofs.Ytakhdkfcnanglaa.Win
set_option linter.unusedVariables false

set_option maxRecDepth 10000 in
set_option maxHeartbeats 4000000 in
theorem walk_out (x y : Int) (d : ByteArray) (A : Option Addr) (cap : Nat) (st : List (Int × Int)) (w : World) (hd : d.size ≤ 140737488351232) (hn : st.length ≤ 9223372036854775807) (h : 1000 < d.size ∨ 300 < st.length) :
    Calls Try.prog 12 #[.agg #[.int .i64 x, .int .i64 y], .string d, .slice A st.length cap] w fun e w' => e = .returned (.bool true) ∧ Below w.heap.size w w' := by
  have y0 : (w.alloc (.cells #[.int .i64 x, .int .i64 y] 46)).cell? ⟨w.heap.size, 0, none⟩ = some (.int .i64 x) := World.cell?_alloc_new _ _ _ _
  have y1 : (w.alloc (.cells #[.int .i64 x, .int .i64 y] 46)).cell? ⟨w.heap.size, 1, none⟩ = some (.int .i64 y) := World.cell?_alloc_new _ _ _ _
  have K0 := Lib.hid ((Kept.refl (fun i => w.heap.size ≤ i) w).alloc (.cells #[.int .i64 x, .int .i64 y] 46))
  have hpp : w.heap.size < (w.alloc (.cells #[.int .i64 x, .int .i64 y] 46)).heap.size := by simp
  go_enter Try.func12, Try.ntmps12
  go_wp2_with fail
  generalize (w.alloc (.cells #[.int .i64 x, .int .i64 y] 46)) = w0 at y0 y1 K0 hpp ⊢
  obtain ⟨pp, hq⟩ : ∃ pp, pp = w.heap.size := ⟨_, rfl⟩
  rw [← hq] at y0 y1 hpp
  rw [← hq]
  have HQ := Lib.hid hq
  clear hq
  refine (awake_w w0).mono ?_
  rintro e w1 ⟨rfl, hb1⟩
  have y0 := (World.cell?_of_block (w := w0) (a := ⟨pp, 0, none⟩) (hb1.block pp hpp)).trans y0
  have y1 := (World.cell?_of_block (w := w0) (a := ⟨pp, 1, none⟩) (hb1.block pp hpp)).trans y1
  have K1 := Lib.hid (K0.out.trans (Kept.of_below hb1 (fun i => w.heap.size ≤ i)))
  have hpp := Nat.lt_of_lt_of_le hpp hb1.size
  clear hb1 K0
  go_wp2_with fail
  refine (great_w d A st.length cap w1 (by omega) (by omega)).mono ?_
  rintro e w2 ⟨rfl, rfl⟩
  rw [show decide (1000 < d.size ∨ 300 < st.length) = true from by simp; omega]
  clear y0 y1
  go_wp2_with fail
  refine (awake_w w1).mono ?_
  rintro e w2 ⟨rfl, hb2⟩
  go_wp2_with fail
  go_ret
  exact ⟨rfl, Kept.below (Below.refl _ w) (K1.out.trans (Kept.of_below hb2 _)) (fun i h => h)⟩

set_option maxRecDepth 10000 in
set_option maxHeartbeats 4000000 in
theorem walk_within (x y : Int) (d : ByteArray) (A : Option Addr) (cap : Nat) (st : List (Int × Int)) (w : World) (hd : d.size ≤ 1000) (hn : st.length ≤ 300) (G : Given w A st cap) :
    Calls Try.prog 12 #[.agg #[.int .i64 x, .int .i64 y], .string d, .slice A st.length cap] w fun e w' => e = .returned (.bool true) ∧ Below w.heap.size w w' := by
  have y0 : (w.alloc (.cells #[.int .i64 x, .int .i64 y] 46)).cell? ⟨w.heap.size, 0, none⟩ = some (.int .i64 x) := World.cell?_alloc_new _ _ _ _
  have y1 : (w.alloc (.cells #[.int .i64 x, .int .i64 y] 46)).cell? ⟨w.heap.size, 1, none⟩ = some (.int .i64 y) := World.cell?_alloc_new _ _ _ _
  have K0 := Lib.hid ((Kept.refl (fun i => w.heap.size ≤ i) w).alloc (.cells #[.int .i64 x, .int .i64 y] 46))
  have hpp : w.heap.size < (w.alloc (.cells #[.int .i64 x, .int .i64 y] 46)).heap.size := by simp
  go_enter Try.func12, Try.ntmps12
  go_wp2_with fail
  generalize (w.alloc (.cells #[.int .i64 x, .int .i64 y] 46)) = w0 at y0 y1 K0 hpp ⊢
  obtain ⟨pp, hq⟩ : ∃ pp, pp = w.heap.size := ⟨_, rfl⟩
  rw [← hq] at y0 y1 hpp
  rw [← hq]
  have HQ := Lib.hid hq
  clear hq
  refine (awake_w w0).mono ?_
  rintro e w1 ⟨rfl, hb1⟩
  have y0 := (World.cell?_of_block (w := w0) (a := ⟨pp, 0, none⟩) (hb1.block pp hpp)).trans y0
  have y1 := (World.cell?_of_block (w := w0) (a := ⟨pp, 1, none⟩) (hb1.block pp hpp)).trans y1
  have G1 : Given w1 A st cap := (G.keep K0.out (fun i h => h)).keep (Kept.of_below hb1 (fun _ => False)) (fun _ h => h.elim)
  have K1 := Lib.hid (K0.out.trans (Kept.of_below hb1 (fun i => w.heap.size ≤ i)))
  have hpp := Nat.lt_of_lt_of_le hpp hb1.size
  clear hb1 K0
  go_wp2_with fail
  refine (great_w d A st.length cap w1 (by omega) (by omega)).mono ?_
  rintro e w2 ⟨rfl, rfl⟩
  rw [show decide (1000 < d.size ∨ 300 < st.length) = false from by simp; omega]
  go_wp2_with (at_builtin; refine wpList_copy rfl (.tmp 28) (.tmp 29) rfl A cap st w1 G1 (by omega) rfl rfl ?_)
  intro A' cap' w3 G3 K3
  have y0 := keep_cell K3 (fun h => h) y0
  have y1 := keep_cell K3 (fun h => h) y1
  have K4 := Lib.hid (kup K1.out K3 (fun _ h => h.elim))
  have hpp := Nat.lt_of_lt_of_le hpp K3.size
  have G3b := G1.keep K3 (fun _ h => h.elim)
  clear K3 G1 K1 G
  go_wp2_with fail
  refine (new_c d A' cap' st w3 G3 (by omega)).mono ?_
  rintro e w4 ⟨sb, g, rfl, S4, K5, hb, hg⟩
  have y0 := keep_cell K5 (fun h => h) y0
  have y1 := keep_cell K5 (fun h => h) y1
  have K6 := Lib.hid (kup K4.out K5 (fun _ h => h.elim))
  have hsb := S4.lb
  have HG : Hid (st = [] ∨ (w3.heap.size ≤ g ∧ g < w4.heap.size)) := by
    rcases hg with h | h
    · exact .inl h
    · exact S4.lg.imp id (fun k => ⟨h, k⟩)
  have hpp4 := Nat.lt_of_lt_of_le hpp hb
  clear hg
  have G4 := G3b.keep K5 (fun _ h => h.elim)
  go_wp2_with (at_builtin; refine wpList_copy rfl (.tmp 33) (.tmp 34) rfl A cap st w4 G4 (by omega) rfl rfl ?_)
  intro A2 cap2 w5 G5 K8
  have y0 := keep_cell K8 (fun h => h) y0
  have y1 := keep_cell K8 (fun h => h) y1
  have S5 := Src.keep' S4 K8 (fun h => h) (.inr (fun h => h))
  have K9 := Lib.hid (kup K6.out K8 (fun _ h => h.elim))
  have hz5 := K8.size
  clear K8 G4 G3b K6 S4 K5 G3 K4
  go_wp2_with fail
  refine (new_c d A2 cap2 st w5 G5 (by omega)).mono ?_
  rintro e w6 ⟨tb, g2, rfl, T6, K8, hb2, hg2⟩
  have y0 := keep_cell K8 (fun h => h) y0
  have y1 := keep_cell K8 (fun h => h) y1
  have S6 := Src.keep' S5 K8 (fun h => h) (.inr (fun h => h))
  have K10 := Lib.hid (kup K9.out K8 (fun _ h => h.elim))
  have htb := T6.lb
  have HG2 : Hid (st = [] ∨ (w5.heap.size ≤ g2 ∧ g2 < w6.heap.size)) := by
    rcases hg2 with h | h
    · exact .inl h
    · exact T6.lg.imp id (fun k => ⟨h, k⟩)
  clear K8 G5 K9 S5 hg2
  have hpp6 : pp < w6.heap.size := by omega
  go_wp2_with fail
  go_region_held3 (fun w' => w'.cell? ⟨pp, 0, none⟩ = some (.int .i64 x) ∧ w'.cell? ⟨pp, 1, none⟩ = some (.int .i64 y)) (first | exact ⟨y0, y1⟩ | exact ⟨x0, x1⟩ | exact ⟨v0, v1⟩) (first | (go_at_call 23; have C2 := X7; refine (win_new x y tb g2 d st w7 (Src.keep' T6.drew K7 (fun h => h) (.inr (fun h => h))) (by omega) (by omega)).mono ?_; rintro e w8 ⟨rfl, Y8, K8⟩; have v0 := keep_cell K8 (fun h => h) x0; have v1 := keep_cell K8 (fun h => h) x1) | (go_at_call 23; refine (win_new x y sb g d st _ S6.drew (by omega) (by omega)).mono ?_; rintro e w7 ⟨rfl, X7, K7⟩; have x0 := keep_cell K7 (fun h => h) y0; have x1 := keep_cell K7 (fun h => h) y1))
  all_goals
    rename_i hHeld
    clear hHeld x0 x1 v0 v1 y0 y1
    have X8 : W w8 (w6.heap.size + 1) w6.heap.size sb g (clampN x) (clampZ y) d ⟨st, 0, 0, 0, 0⟩ := X7.keep K8 (fun h => h) (fun h => h) (fun h => h) (.inr (fun h => h))
    have hq7 : w6.heap.size + 1 < w7.heap.size := by obtain ⟨_, _, h⟩ := X7; exact h.wb.lb
    have K11 := Lib.hid (kup (kup K10.out.drew K7 (fun _ h => h.elim)) K8 (fun _ h => h.elim))
    have hw : w.heap.size ≤ pp := by have := HQ.out; omega
    have HGG : Hid (st = [] ∨ (g < tb ∧ g < w6.heap.size ∧ sb < g2 ∧ g2 < w6.heap.size)) := by
      rcases HG.out with h | h
      · exact .inl h
      · rcases HG2.out with h2 | h2
        · exact .inl h2
        · exact .inr (by omega)
    have hst : sb < tb := by omega
    have hn1 : 1 ≤ clampN x := by unfold clampN; omega
    clear K10 K8 K7 X7 C2 T6 S6 HG HG2
    generalize w6.heap.size = q at X8 hq7 htb HGG ⊢
    generalize w7.heap.size = r at Y8 hq7 ⊢
    generalize clampN x = N at X8 Y8 hn1 ⊢
    generalize clampZ y = Z at X8 Y8 ⊢
    go_wp2_with fail
    go_loopw [64] (fun i wr => ∃ (k : Nat) (a : Ab), k ≤ d.size + 2 ∧ i = .int .i64 k ∧ W wr (q + 1) q sb g N Z d a ∧ W wr (r + 1) r tb g2 N Z d a ∧ (a.s = [] ∨ (g < tb ∧ g < q ∧ sb < g2 ∧ g2 < q)) ∧ Kept (fun i => w.heap.size ≤ i) w wr) (fun i _ => d.size + 2 - (intOf i).toNat)
    case atStart => exact ⟨0, _, by omega, rfl, X8, Y8, HGG.out, K11.out⟩
    case round =>
      obtain ⟨k, a, hk, rfl, X, Y, hgg, K⟩ := hrel
      have HG := Lib.hid hgg
      have K0 := Lib.hid K
      clear K hgg X8 Y8 K11 HGG
      by_cases hlt : k < d.size + 2
      · have t1 : (k : Int) < (d.size : Int) + 2 := by omega
        have P1 := fun w h => peek_any (q + 1) q sb g N Z d a w h
        have P2 := fun w h => peek_any (q + 1) q sb g N Z d (a.fill N Z d.size) w h
        have N1 := fun w h => next_any (q + 1) q sb g N Z d (a.fill N Z d.size) w h
        have N2 := fun w h => next_any (r + 1) r tb g2 N Z d a w h
        rw [Ab.fill_fill (by omega), tells_fill] at P2 N1
        rw [fill_next hn1] at N1
        have G1 : Hid ((a.fill N Z d.size).s = [] ∨ (g < tb ∧ g < q ∧ sb < g2 ∧ g2 < q)) := HG.out.imp (fun h => fill_nil h) id
        have G2 : Hid ((a.next N Z d.size).s = [] ∨ (g < tb ∧ g < q ∧ sb < g2 ∧ g2 < q)) := HG.out.imp (fun h => next_nil h) id
        generalize Ab.tells d a (a.fill N Z d.size) = v at P1 P2 N1 N2
        generalize a.next N Z d.size = a2 at N1 N2 G2
        generalize a.fill N Z d.size = a1 at P1 P2 N1 G1
        have HP1 := Lib.hid P1
        have HP2 := Lib.hid P2
        have HN1 := Lib.hid N1
        have HN2 := Lib.hid N2
        clear P1 P2 N1 N2
        go_wp2_with fail
        refine (HP1.out _ X).mono ?_
        rintro e w9 ⟨rfl, X9, K9⟩
        have Y9 := Y.keep K9 (by omega) (by omega) (by omega) (HG.out.imp id (fun h => by omega))
        have K12 := Lib.hid (kup K0.out K9 (fun i h => by omega))
        clear K9 K0 X Y
        go_wp2_with fail
        refine (HP2.out _ X9).mono ?_
        rintro e w10 ⟨rfl, X10, K9⟩
        have Y10 := Y9.keep K9 (by omega) (by omega) (by omega) (HG.out.imp id (fun h => by omega))
        have K13 := Lib.hid (kup K12.out K9 (fun i h => by omega))
        clear K9 K12 X9 Y9
        go_wp2_with fail
        refine (HN1.out _ X10).mono ?_
        rintro e w11 ⟨rfl, X11, K9⟩
        have Y11 := Y10.keep K9 (by omega) (by omega) (by omega) (HG.out.imp id (fun h => by omega))
        have K14 := Lib.hid (kup K13.out K9 (fun i h => by omega))
        clear K9 K13 X10 Y10
        go_wp2_with fail
        refine (HN2.out _ Y11).mono ?_
        rintro e w12 ⟨rfl, Y12, K9⟩
        have X12 := X11.keep K9 (by omega) (by omega) (by omega) (G2.out.imp id (fun h => by omega))
        have K15 := Lib.hid (kup K14.out K9 (fun i h => by omega))
        clear K9 K14 X11 Y11
        go_wp2_with fail
        refine (calls_w0 (q + 1) q sb g N Z d a2 w12 X12).mono ?_
        rintro e w13 ⟨rfl, rfl⟩
        go_wp2_with fail
        refine (calls_w0 (r + 1) r tb g2 N Z d a2 w12 Y12).mono ?_
        rintro e w13 ⟨rfl, rfl⟩
        go_wp2_with fail
        go_roundw
        case rel => exact ⟨k + 1, a2, by omega, by go_num, X12, Y12, G2.out, K15.out⟩
        case measure => simp [intOf]; omega
      · obtain rfl : k = d.size + 2 := by omega
        have t1 : ¬(d.size : Int) + 2 < (d.size : Int) + 2 := by omega
        rw [show (((d.size + 2 : Nat)) : Int) = (d.size : Int) + 2 from by omega]
        go_wp2_with fail
        go_ret
        exact ⟨rfl, Kept.below (Below.refl _ w) K0.out (fun i h => h)⟩

theorem walk (x y : Int) (d : ByteArray) (A : Option Addr) (cap : Nat) (st : List (Int × Int)) (w : World) (hd : d.size ≤ 140737488351232) (hn : st.length ≤ 9223372036854775807) (G : Given w A st cap) :
    Calls Try.prog 12 #[.agg #[.int .i64 x, .int .i64 y], .string d, .slice A st.length cap] w fun e w' => e = .returned (.bool true) ∧ Below w.heap.size w w' := by
  by_cases h : 1000 < d.size ∨ 300 < st.length
  · exact walk_out x y d A cap st w hd hn h
  · exact walk_within x y d A cap st w (by omega) (by omega) G
end Go.Proofs.Ytakhdkfcnanglaa.WPeeks
