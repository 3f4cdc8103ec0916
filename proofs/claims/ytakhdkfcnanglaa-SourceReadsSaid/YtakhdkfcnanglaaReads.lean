/- The walk of Reads. -/
import Derived.Test.YtakhdkfcnanglaaRef
namespace Go.Proofs.Ytakhdkfcnanglaa.Reads
open Go.RowKit
open Go.Proofs.Ytakhdkfcnanglaa.Obj Go.Proofs.Ytakhdkfcnanglaa.New Go.Proofs.Ytakhdkfcnanglaa.Play Go.Proofs.Ytakhdkfcnanglaa.Ref
set_option linter.unusedVariables false

theorem calls_q (b g : Nat) (left : ByteArray) (st : List (Int × Int)) (over given calls : Int) (w : World) (n : Nat) (h : Src w b g left st over given calls) (h0 : 0 ≤ calls) (h1 : calls ≤ 1000000000000) :
    Calls Try.prog 19 #[.pointer (some ⟨b, 0, none⟩)] (w.drewN n) fun e w' => e = .returned (.int .i64 calls) ∧ ∃ m, w' = w.drewN m :=
  (calls_c b g left st over given calls _ (h.drewN n) h0 h1).mono fun _ _ ⟨he, hw⟩ => ⟨he, n, hw.symm⟩
theorem given_q (b g : Nat) (left : ByteArray) (st : List (Int × Int)) (over given calls : Int) (w : World) (n : Nat) (h : Src w b g left st over given calls) :
    Calls Try.prog 20 #[.pointer (some ⟨b, 0, none⟩)] (w.drewN n) fun e w' => e = .returned (.int .i64 given) ∧ ∃ m, w' = w.drewN m :=
  (given_c b g left st over given calls _ (h.drewN n)).mono fun _ _ ⟨he, hw⟩ => ⟨he, n, hw.symm⟩

theorem walk_out (d : ByteArray) (A : Option Addr) (cap : Nat) (st : List (Int × Int)) (A2 : Option Addr) (len cap2 : Nat) (zs : List Int) (w : World) (hd : d.size ≤ 140737488351232) (hn : st.length ≤ 9223372036854775807) (hl : len ≤ 9223372036854775807) (h : 2000 < d.size ∨ 500 < st.length ∨ 500 < len) :
    Calls Try.prog 3 #[.string d, .slice A st.length cap, .slice A2 len cap2] w fun e w' => e = .returned (.bool true) ∧ Below w.heap.size w w' := by
  go_enter Try.func3, Try.ntmps3
  go_wp2_with fail
  refine (awake_c w).mono ?_
  rintro e w1 ⟨rfl, B1⟩
  go_wp2_with fail
  refine (great_c d A A2 st.length cap len cap2 w1 hd hn (by omega)).mono ?_
  rintro e w2 ⟨rfl, rfl⟩
  rw [show decide (2000 < d.size ∨ 500 < st.length ∨ 500 < len) = true from by simp; omega]
  go_wp2_with fail
  refine (awake_c w1).mono ?_
  rintro e w2 ⟨rfl, B2⟩
  go_wp2_with fail
  go_ret
  exact ⟨rfl, Obj.step B1 B2⟩

set_option maxHeartbeats 4000000 in
theorem walk_within (d : ByteArray) (A : Option Addr) (cap : Nat) (st : List (Int × Int)) (A2 : Option Addr) (len cap2 : Nat) (zs : List Int) (w : World) (hd : d.size ≤ 2000) (hn : st.length ≤ 500) (hl : len ≤ 500) (G : Given w A st cap) (hZ : Ints w A2 len zs) :
    Calls Try.prog 3 #[.string d, .slice A st.length cap, .slice A2 len cap2] w fun e w' => e = .returned (.bool true) ∧ Below w.heap.size w w' := by
  go_enter Try.func3, Try.ntmps3
  go_wp2_with fail
  refine (awake_c w).mono ?_
  rintro e w1 ⟨rfl, B1⟩
  have G1 : Given w1 A st cap := G.keep (Kept.of_below B1 (fun _ => False)) (fun _ h => h.elim)
  have K1 := Lib.hid (Kept.of_below B1 (fun _ => False))
  clear B1
  go_wp2_with fail
  refine (great_c d A A2 st.length cap len cap2 w1 (by omega) (by omega) (by omega)).mono ?_
  rintro e w2 ⟨rfl, rfl⟩
  rw [show decide (2000 < d.size ∨ 500 < st.length ∨ 500 < len) = false from by simp; omega]
  go_wp2_with (at_builtin; refine wpList_copy rfl (.tmp 25) (.tmp 26) rfl A cap st w1 G1 (by omega) rfl rfl ?_)
  intro A' cap' w3 G3 K3
  have K4 := Lib.hid (K1.out.trans K3)
  clear K3 G1 K1
  go_wp2_with fail
  refine (new_c d A' cap' st w3 G3 (by omega)).mono ?_
  rintro e w4 ⟨b, g, rfl, S4, K5, hb, hg⟩
  have HB : Hid (w.heap.size ≤ b) := Nat.le_trans K4.out.size hb
  have K6 := Lib.hid ((K4.out.trans K5).mono (T := (· = b)) (fun _ h => h.elim))
  have S0 : Src w4 b g (d.extract 0 d.size) st 0 ((0 : Nat) : Int) ((0 : Nat) : Int) := by rw [ByteArray.extract_zero_size]; exact S4
  clear K4 G3 K5 hb hg S4
  go_wp2_with fail
  have S1 := S0.alloc (.cells #[.string d, .slice A st.length cap, .int .i64 0, .int .i64 0, .int .i64 0] 30)
  have K7 := Lib.hid ((K6.out.mono (T := fun i => i = b ∨ i = w4.heap.size) (fun i hi => .inl hi)).alloc (.cells #[.string d, .slice A st.length cap, .int .i64 0, .int .i64 0, .int .i64 0] 30))
  have R1 : Rsc (w4.alloc (.cells #[.string d, .slice A st.length cap, .int .i64 0, .int .i64 0, .int .i64 0] 30)) w4.heap.size A cap st d 0 0 0 :=
    ⟨World.cell?_alloc_new _ _ _ _, World.cell?_alloc_new _ _ _ _, World.cell?_alloc_new _ _ _ _, World.cell?_alloc_new _ _ _ _, World.cell?_alloc_new _ _ _ _, fun j hj => by simp, by simp⟩
  have HR : Hid (w.heap.size ≤ w4.heap.size) := K6.out.size
  have HBR : Hid (b ≠ w4.heap.size) := Nat.ne_of_lt S0.lb
  generalize hr : w4.heap.size = r at R1 HR HBR K7 ⊢
  generalize (w4.alloc (.cells #[.string d, .slice A st.length cap, .int .i64 0, .int .i64 0, .int .i64 0] 30)) = w5 at R1 S1 K7 ⊢
  have HGR : Hid (st = [] ∨ g ≠ r) := S0.lg.imp id (fun h => by rw [← hr]; exact Nat.ne_of_lt h)
  clear hr S0 K6
  go_loopw [37] (fun i wr => ∃ (k a : Nat) (s : List (Int × Int)) (o : Int), k ≤ len ∧ a ≤ d.size ∧ i = .int .i64 k ∧ Src wr b g (d.extract a d.size) s o a k ∧ (s = [] ∨ g ≠ r) ∧ Rsc wr r A cap st d a k o ∧ (o = 0 → s = st.drop k) ∧ Kept (fun i => i = b ∨ i = r) w wr) (fun i _ => len - (intOf i).toNat)
  case atStart => exact ⟨0, 0, st, 0, Nat.zero_le _, Nat.zero_le _, rfl, S1, HGR.out, R1, fun _ => rfl, K7.out⟩
  case round =>
    obtain ⟨k, a, s, o, hk, ha, rfl, S, hgr, R, hs, K⟩ := hrel
    have K0 := Lib.hid K
    have HA := Lib.hid ha
    have HH := Lib.hid hgr
    have HS := Lib.hid hs
    clear K S1 R1 K7 hgr hs
    by_cases hlt : k < len
    · rcases hZ with h0 | ⟨ab, off, rfl, hab, hc⟩
      · omega
      obtain ⟨hcell, hz0, hz1⟩ := hc k hlt
      have hcr : wr.cell? ⟨ab, off + k, none⟩ = some (.int .i64 (zs.getD k 0)) := (World.cell?_of_block (w := w) (K0.out.block ab hab (by have h1 := HB.out; have h2 := HR.out; omega))).trans hcell
      clear hcell hc
      obtain ⟨p, hp⟩ : ∃ p, p = zs.getD k 0 := ⟨_, rfl⟩
      rw [← hp] at hcr hz0 hz1
      clear hp
      have t1 : (k : Int) < (len : Int) := by omega
      by_cases h0 : o = 0
      · subst h0
        obtain rfl := HS.out rfl
        go_wp2_with fail
        refine (read_d b g d a (st.drop k) k p wr (by omega) (by omega) S ha (by omega)).mono ?_
        rintro e w5 ⟨rfl, S5, K5⟩
        go_wp2_with fail
        refine (ref_run r A cap st d a k p w5 (R.keep K5 HBR.out.symm) (by omega) ha (by omega) (by omega) (fun hp => by
          obtain ⟨gg, oo, hA, hgg, hc⟩ := G.plain hp
          have e1 : gg ≠ b := by have := HB.out; omega
          have e2 : gg ≠ r := by have := HR.out; omega
          refine ⟨gg, oo, hA, e2, fun i hi => ?_⟩
          have hb1 := (K5.block gg (Nat.lt_of_lt_of_le hgg K0.out.size) e1).trans (K0.out.block gg hgg (by omega))
          exact ⟨(World.cell?_of_block (w := w) (a := ⟨gg, oo + i * 2, none⟩) hb1).trans (hc i hi).1, (World.cell?_of_block (w := w) (a := ⟨gg, oo + i * 2 + 1, none⟩) hb1).trans (hc i hi).2⟩)).mono ?_
        have hcn := cn_le p (st.drop k) (d.size - a)
        rintro e w6 ⟨rfl, R6, K6⟩
        have hgr' : (st.drop k).tail = [] ∨ g ≠ r := HH.out.imp (fun h => by rw [h]; rfl) id
        have S6 := Src.keep' (S := fun i => i = r) S5 K6 HBR.out hgr'
        rw [List.tail_drop] at S6 hgr'
        have HH' := Lib.hid hgr'
        clear hgr'
        generalize ov p (st.drop k) (d.size - a) = o' at S6 R6 ⊢
        generalize cn p (st.drop k) (d.size - a) = c at S6 R6 hcn ⊢
        generalize d.extract a (a + c) = y
        rw [show ((k : Int) + 1) = ((k + 1 : Nat) : Int) from by omega] at S6
        have S7 := Lib.hid S6
        have R7 := Lib.hid R6
        have r2 := R6.c2
        have r3 := R6.c3
        have K8 := Lib.hid (K0.out.trans ((K5.mono (T := fun i => i = b ∨ i = r) (fun i hi => .inl hi)).trans (K6.mono (T := fun i => i = b ∨ i = r) (fun i hi => .inr hi))))
        clear R6 K5 K6 R S S5
        go_wp2_with fail
        go_quiet (first
          | (go_at_call 19; exact calls_q b g _ _ _ _ _ _ _ S6 (by omega) (by omega))
          | (go_at_call 20; exact given_q b g _ _ _ _ _ _ _ S6))
        go_wp2_with fail
        go_roundw
        case rel => exact ⟨k + 1, a + c, st.drop (k + 1), o', by omega, by omega, by go_num, S7.out.drewN _, HH'.out, R7.out.drewN _, fun _ => rfl, K8.out.drewN _⟩
        case measure => simp [intOf]; omega
      · have h0' : (o == 0) = false := by simpa using h0
        go_wp2_with fail
        refine (read_over b g _ s o a k p wr S (by omega) (by omega) h0').mono ?_
        rintro e w5 ⟨rfl, S5, K5⟩
        go_wp2_with fail
        refine (ref_over r A cap st d a k o p w5 (R.keep K5 HBR.out.symm) (by omega) h0').mono ?_
        rintro e w6 ⟨rfl, R6, K6⟩
        have S6 := Src.keep' (S := fun i => i = r) S5 K6 HBR.out HH.out
        rw [show ((k : Int) + 1) = ((k + 1 : Nat) : Int) from by omega] at S6
        have S7 := Lib.hid S6
        have R7 := Lib.hid R6
        have r2 := R6.c2
        have r3 := R6.c3
        have K8 := Lib.hid (K0.out.trans ((K5.mono (T := fun i => i = b ∨ i = r) (fun i hi => .inl hi)).trans (K6.mono (T := fun i => i = b ∨ i = r) (fun i hi => .inr hi))))
        clear R6 K5 K6 R S S5
        go_wp2_with fail
        go_quiet (first
          | (go_at_call 19; exact calls_q b g _ _ _ _ _ _ _ S6 (by omega) (by omega))
          | (go_at_call 20; exact given_q b g _ _ _ _ _ _ _ S6))
        go_wp2_with fail
        go_roundw
        case rel => exact ⟨k + 1, a, s, o, by omega, HA.out, by go_num, S7.out.drewN _, HH.out, R7.out.drewN _, fun h => absurd h h0, K8.out.drewN _⟩
        case measure => simp [intOf]; omega
    · obtain rfl : k = len := by omega
      have t1 : ¬(k : Int) < (k : Int) := by omega
      go_wp2_with fail
      go_ret
      exact ⟨rfl, Kept.below (Below.refl _ w) K0.out (fun i hi => by have h1 := HB.out; have h2 := HR.out; rcases hi with rfl | rfl <;> omega)⟩

theorem walk (d : ByteArray) (A : Option Addr) (cap : Nat) (st : List (Int × Int)) (A2 : Option Addr) (len cap2 : Nat) (zs : List Int) (w : World) (hd : d.size ≤ 140737488351232) (hn : st.length ≤ 9223372036854775807) (hl : len ≤ 9223372036854775807) (G : Given w A st cap) (hZ : Ints w A2 len zs) :
    Calls Try.prog 3 #[.string d, .slice A st.length cap, .slice A2 len cap2] w fun e w' => e = .returned (.bool true) ∧ Below w.heap.size w w' := by
  by_cases h : 2000 < d.size ∨ 500 < st.length ∨ 500 < len
  · exact walk_out d A cap st A2 len cap2 zs w hd hn hl h
  · exact walk_within d A cap st A2 len cap2 zs w (by omega) (by omega) (by omega) G hZ
end Go.Proofs.Ytakhdkfcnanglaa.Reads
