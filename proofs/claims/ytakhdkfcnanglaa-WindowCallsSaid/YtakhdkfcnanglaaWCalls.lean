/- The walk of WCalls. -/
import Derived.Test.YtakhdkfcnanglaaWcom
namespace Go.Proofs.Ytakhdkfcnanglaa.WCalls
open Go.RowKit
open Go.Proofs.Ytakhdkfcnanglaa.Obj Go.Proofs.Ytakhdkfcnanglaa.New Go.Proofs.Ytakhdkfcnanglaa.Play Go.Proofs.Ytakhdkfcnanglaa.Ref Go.Proofs.Ytakhdkfcnanglaa.Flow Go.Proofs.Ytakhdkfcnanglaa.Win
set_option linter.unusedVariables false

set_option maxRecDepth 10000 in
set_option maxHeartbeats 4000000 in
theorem walk_out (x y : Int) (d : ByteArray) (A : Option Addr) (cap : Nat) (st : List (Int × Int)) (w : World) (hd : d.size ≤ 140737488351232) (hn : st.length ≤ 9223372036854775807) (h : 1000 < d.size ∨ 300 < st.length) :
    Calls Try.prog 9 #[.agg #[.int .i64 x, .int .i64 y], .string d, .slice A st.length cap] w fun e w' => e = .returned (.bool true) ∧ Below w.heap.size w w' := by
  have y0 : (w.alloc (.cells #[.int .i64 x, .int .i64 y] 46)).cell? ⟨w.heap.size, 0, none⟩ = some (.int .i64 x) := World.cell?_alloc_new _ _ _ _
  have y1 : (w.alloc (.cells #[.int .i64 x, .int .i64 y] 46)).cell? ⟨w.heap.size, 1, none⟩ = some (.int .i64 y) := World.cell?_alloc_new _ _ _ _
  have K0 := Lib.hid ((Kept.refl (fun i => w.heap.size ≤ i) w).alloc (.cells #[.int .i64 x, .int .i64 y] 46))
  have hpp : w.heap.size < (w.alloc (.cells #[.int .i64 x, .int .i64 y] 46)).heap.size := by simp
  go_enter Try.func9, Try.ntmps9
  go_wp2_with fail
  generalize (w.alloc (.cells #[.int .i64 x, .int .i64 y] 46)) = w0 at y0 y1 K0 hpp ⊢
  obtain ⟨pp, hq⟩ : ∃ pp, pp = w.heap.size := ⟨_, rfl⟩
  rw [← hq] at y0 y1 hpp
  rw [← hq]
  have HQ := Lib.hid hq
  clear hq
  refine (awake_w w0).mono ?_
  rintro e w1 ⟨rfl, hb1⟩
  have y0 := (World.cell?_of_block (w := w0) (a := ⟨pp, 0, none⟩) (hb1.block pp hpp)).trans y0
  have y1 := (World.cell?_of_block (w := w0) (a := ⟨pp, 1, none⟩) (hb1.block pp hpp)).trans y1
  have K1 := Lib.hid (K0.out.trans (Kept.of_below hb1 (fun i => w.heap.size ≤ i)))
  have hpp := Nat.lt_of_lt_of_le hpp hb1.size
  clear hb1 K0
  go_wp2_with fail
  refine (great_w d A st.length cap w1 (by omega) (by omega)).mono ?_
  rintro e w2 ⟨rfl, rfl⟩
  rw [show decide (1000 < d.size ∨ 300 < st.length) = true from by simp; omega]
  clear y0 y1
  go_wp2_with fail
  refine (awake_w w1).mono ?_
  rintro e w2 ⟨rfl, hb2⟩
  go_wp2_with fail
  go_ret
  exact ⟨rfl, Kept.below (Below.refl _ w) (K1.out.trans (Kept.of_below hb2 _)) (fun i h => h)⟩

set_option maxRecDepth 10000 in
set_option maxHeartbeats 4000000 in
theorem walk_within (x y : Int) (d : ByteArray) (A : Option Addr) (cap : Nat) (st : List (Int × Int)) (w : World) (hd : d.size ≤ 1000) (hn : st.length ≤ 300) (G : Given w A st cap) :
    Calls Try.prog 9 #[.agg #[.int .i64 x, .int .i64 y], .string d, .slice A st.length cap] w fun e w' => e = .returned (.bool true) ∧ Below w.heap.size w w' := by
  have y0 : (w.alloc (.cells #[.int .i64 x, .int .i64 y] 46)).cell? ⟨w.heap.size, 0, none⟩ = some (.int .i64 x) := World.cell?_alloc_new _ _ _ _
  have y1 : (w.alloc (.cells #[.int .i64 x, .int .i64 y] 46)).cell? ⟨w.heap.size, 1, none⟩ = some (.int .i64 y) := World.cell?_alloc_new _ _ _ _
  have K0 := Lib.hid ((Kept.refl (fun i => w.heap.size ≤ i) w).alloc (.cells #[.int .i64 x, .int .i64 y] 46))
  have hpp : w.heap.size < (w.alloc (.cells #[.int .i64 x, .int .i64 y] 46)).heap.size := by simp
  go_enter Try.func9, Try.ntmps9
  go_wp2_with fail
  generalize (w.alloc (.cells #[.int .i64 x, .int .i64 y] 46)) = w0 at y0 y1 K0 hpp ⊢
  obtain ⟨pp, hq⟩ : ∃ pp, pp = w.heap.size := ⟨_, rfl⟩
  rw [← hq] at y0 y1 hpp
  rw [← hq]
  have HQ := Lib.hid hq
  clear hq
  refine (awake_w w0).mono ?_
  rintro e w1 ⟨rfl, hb1⟩
  have y0 := (World.cell?_of_block (w := w0) (a := ⟨pp, 0, none⟩) (hb1.block pp hpp)).trans y0
  have y1 := (World.cell?_of_block (w := w0) (a := ⟨pp, 1, none⟩) (hb1.block pp hpp)).trans y1
  have G1 : Given w1 A st cap := (G.keep K0.out (fun i h => h)).keep (Kept.of_below hb1 (fun _ => False)) (fun _ h => h.elim)
  have K1 := Lib.hid (K0.out.trans (Kept.of_below hb1 (fun i => w.heap.size ≤ i)))
  have hpp := Nat.lt_of_lt_of_le hpp hb1.size
  clear hb1 K0
  go_wp2_with fail
  refine (great_w d A st.length cap w1 (by omega) (by omega)).mono ?_
  rintro e w2 ⟨rfl, rfl⟩
  rw [show decide (1000 < d.size ∨ 300 < st.length) = false from by simp; omega]
  go_wp2_with (at_builtin; refine wpList_copy rfl (.tmp 19) (.tmp 20) rfl A cap st w1 G1 (by omega) rfl rfl ?_)
  intro A' cap' w3 G3 K3
  have y0 := keep_cell K3 (fun h => h) y0
  have y1 := keep_cell K3 (fun h => h) y1
  have K4 := Lib.hid (kup K1.out K3 (fun _ h => h.elim))
  have hpp := Nat.lt_of_lt_of_le hpp K3.size
  clear K3 G1 K1 G
  go_wp2_with fail
  refine (new_c d A' cap' st w3 G3 (by omega)).mono ?_
  rintro e w4 ⟨sb, g, rfl, S4, K5, hb, hg⟩
  have y0 := keep_cell K5 (fun h => h) y0
  have y1 := keep_cell K5 (fun h => h) y1
  have K6 := Lib.hid (kup K4.out K5 (fun _ h => h.elim))
  have hsb := S4.lb
  have HG : Hid (st = [] ∨ (w3.heap.size ≤ g ∧ g < w4.heap.size)) := by
    rcases hg with h | h
    · exact .inl h
    · exact S4.lg.imp id (fun k => ⟨h, k⟩)
  have hpp4 := Nat.lt_of_lt_of_le hpp hb
  clear K4 G3 K5 hg
  go_wp2_with fail
  refine (win_new x y sb g d st w4 S4 (by omega) (by omega)).mono ?_
  rintro e w5 ⟨rfl, X5, K5⟩
  have y0 := keep_cell K5 (fun h => h) y0
  have y1 := keep_cell K5 (fun h => h) y1
  have K7 := Lib.hid (kup K6.out K5 (fun _ h => h.elim))
  have hw : w.heap.size ≤ pp := by have := HQ.out; omega
  have hq5 : w4.heap.size + 1 < w5.heap.size := by obtain ⟨_, _, h⟩ := X5; exact h.wb.lb
  clear K6 K5 S4
  generalize w4.heap.size = q at X5 hsb HG hq5 ⊢
  generalize w3.heap.size = lo at hpp hb HG
  go_wp2_with fail
  have hN : clampN x = (if x < 1 then 1 else if x > 65536 then 65536 else x) := by unfold clampN; (repeat' split) <;> omega
  have hZ : clampZ y = (if y < 0 then 0 else if y > 1000 then 1000 else y) := by unfold clampZ; (repeat' split) <;> omega
  have hn1 : 1 ≤ clampN x := by unfold clampN; omega
  have hnm : clampN x ≤ 65536 := by unfold clampN; omega
  have hzm : clampZ y ≤ 1000 := by unfold clampZ; omega
  have CN := fun w => clamp_c x 1 65536 w
  have CZ := fun w => clamp_c y 0 1000 w
  rw [← hN] at CN
  rw [← hZ] at CZ
  clear hN hZ
  have HCN := Lib.hid CN
  generalize clampN x = N at X5 hn1 hnm HCN ⊢
  generalize clampZ y = Z at X5 CZ hzm ⊢
  refine (CZ _).mono ?_
  rintro e w6 ⟨rfl, rfl⟩
  clear CZ CN
  go_wp2_with fail
  have P5 := Lib.hid (And.intro y0 y1)
  clear y0 y1
  go_loopw [39] (fun i wr => ∃ (k : Nat) (a : Ab), k ≤ d.size + 2 ∧ i = .int .i64 k ∧ W wr (q + 1) q sb g N Z d a ∧ a.Ct Z ∧ wr.cell? ⟨pp, 0, none⟩ = some (.int .i64 x) ∧ Kept (fun i => w.heap.size ≤ i) w wr) (fun i _ => d.size + 2 - (intOf i).toNat)
  case atStart => exact ⟨0, _, by omega, rfl, X5, ⟨by simp, by simp⟩, P5.out.1, K7.out⟩
  case round =>
    obtain ⟨k, a, hk, rfl, X, hct, hy0, K⟩ := hrel
    have HCT := Lib.hid hct
    have HY := Lib.hid hy0
    have K0 := Lib.hid K
    clear K hct hy0 X5 K7 P5
    by_cases hlt : k < d.size + 2
    · have t1 : (k : Int) < (d.size : Int) + 2 := by omega
      have HNX : Hid ((a.next N Z d.size).Ct Z) := HCT.out.next (by omega)
      have C := next_any (q + 1) q sb g N Z d a wr X
      have hroom : (a.next N Z d.size).held < N := next_room hn1 X.room
      have hok : (a.next N Z d.size).Ok d.size := X.ok.next (by omega)
      generalize a.next N Z d.size = a' at C HNX hroom hok ⊢
      generalize Ab.tells d a (a.fill N Z d.size) = v at C ⊢
      clear X HCT
      go_wp2_with fail
      refine C.mono ?_
      rintro e w6 ⟨rfl, X6, K6⟩
      have hy0 := keep_cell K6 (by omega) HY.out
      have HY' := Lib.hid hy0
      have K8 := Lib.hid (kup K0.out K6 (fun i h => by omega))
      clear C K6
      go_wp2_with fail
      have hle := hok.le
      have hcl := hok.calls
      have hc1 := HNX.out.1
      obtain ⟨G, hG⟩ : ∃ G, a'.p + a'.held = G := ⟨_, rfl⟩
      rw [hG] at hle hc1
      have HG2 := Lib.hid hG
      have hmul : (1 + Z) * (G + 1) ≤ 1001 * 1001 := Nat.mul_le_mul (by omega) (by omega)
      obtain ⟨PR, hPR⟩ : ∃ PR : Nat, (1 + Z) * (G + 1) = PR := ⟨_, rfl⟩
      rw [hPR] at hc1 hmul
      have m1 : (1 + (Z : Int)) * ((G : Int) + 1) = (PR : Int) := by rw [← hPR, Int.natCast_mul]; rfl
      have u1 : IntKind.i64.wrap (1 + (Z : Int)) = 1 + (Z : Int) := by rw [IntKind.wrap_i64]; omega
      have u2 : IntKind.i64.wrap ((G : Int) + 1) = (G : Int) + 1 := by rw [IntKind.wrap_i64]; omega
      have u3 : IntKind.i64.wrap (PR : Int) = (PR : Int) := by rw [IntKind.wrap_i64]; omega
      have u4 : IntKind.i64.wrap ((PR : Int) + 1) = (PR : Int) + 1 := by rw [IntKind.wrap_i64]; omega
      have u5 : IntKind.i64.wrap ((a'.held : Int) + (a'.p : Int)) = (G : Int) := by rw [IntKind.wrap_i64]; omega
      have t2 : decide ((PR : Int) + 1 < (a'.calls : Int)) = false := by simp; omega
      have t3 : decide (N ≤ a'.held) = false := by simp; omega
      have t4 : decide ((a'.held : Int) < 0) = false := by simp
      have C1 := fun n => calls_w (q + 1) q sb g N Z d a' w6 n X6
      have C2 := fun n => given_w (q + 1) q sb g N Z d a' w6 n X6
      rw [hG] at C2
      have HC1 := Lib.hid C1
      have HC2 := Lib.hid C2
      have HX := Lib.hid X6
      clear hG hPR C1 C2 X6 hok
      go_quiet (first
        | (go_at_call 19; exact HC1.out _)
        | (go_at_call 20; exact HC2.out _)
        | (go_at_call 26; exact held_q (q + 1) q sb g N Z d a' w6 _ HX.out)
        | (go_at_call 27; exact at_q (q + 1) q sb g N Z d a' w6 _ HX.out)
        | (go_at_call 25; exact (HCN.out _).mono fun _ _ ⟨he, hw⟩ => ⟨he, _, hw.symm⟩))
      go_wp2_with fail
      go_roundw
      case rel => exact ⟨k + 1, a', by omega, by go_num, HX.out.drewN _, HNX.out, HY'.out, K8.out.drewN _⟩
      case measure => simp [intOf]; omega
    · obtain rfl : k = d.size + 2 := by omega
      have t1 : ¬(d.size : Int) + 2 < (d.size : Int) + 2 := by omega
      rw [show (((d.size + 2 : Nat)) : Int) = (d.size : Int) + 2 from by omega]
      go_wp2_with fail
      go_ret
      exact ⟨rfl, Kept.below (Below.refl _ w) K0.out (fun i h => h)⟩

theorem walk (x y : Int) (d : ByteArray) (A : Option Addr) (cap : Nat) (st : List (Int × Int)) (w : World) (hd : d.size ≤ 140737488351232) (hn : st.length ≤ 9223372036854775807) (G : Given w A st cap) :
    Calls Try.prog 9 #[.agg #[.int .i64 x, .int .i64 y], .string d, .slice A st.length cap] w fun e w' => e = .returned (.bool true) ∧ Below w.heap.size w w' := by
  by_cases h : 1000 < d.size ∨ 300 < st.length
  · exact walk_out x y d A cap st w hd hn h
  · exact walk_within x y d A cap st w (by omega) (by omega) G
end Go.Proofs.Ytakhdkfcnanglaa.WCalls
