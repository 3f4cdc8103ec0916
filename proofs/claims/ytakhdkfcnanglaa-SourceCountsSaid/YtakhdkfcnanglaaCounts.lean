/- The walk of Counts. -/
import Derived.Test.YtakhdkfcnanglaaPlay
namespace Go.Proofs.Ytakhdkfcnanglaa.Counts
open Go.RowKit
open Go.Proofs.Ytakhdkfcnanglaa.Obj Go.Proofs.Ytakhdkfcnanglaa.New Go.Proofs.Ytakhdkfcnanglaa.Play
set_option linter.unusedVariables false

theorem walk_out (d : ByteArray) (A : Option Addr) (cap : Nat) (st : List (Int × Int)) (A2 : Option Addr) (len cap2 : Nat) (zs : List Int) (w : World) (hd : d.size ≤ 140737488351232) (hn : st.length ≤ 9223372036854775807) (hl : len ≤ 9223372036854775807) (h : 2000 < d.size ∨ 500 < st.length ∨ 500 < len) :
    Calls Try.prog 6 #[.string d, .slice A st.length cap, .slice A2 len cap2] w fun e w' => e = .returned (.bool true) ∧ Below w.heap.size w w' := by
  go_enter Try.func6, Try.ntmps6
  go_wp2_with fail
  refine (awake_c w).mono ?_
  rintro e w1 ⟨rfl, B1⟩
  go_wp2_with fail
  refine (great_c d A A2 st.length cap len cap2 w1 hd hn (by omega)).mono ?_
  rintro e w2 ⟨rfl, rfl⟩
  rw [show decide (2000 < d.size ∨ 500 < st.length ∨ 500 < len) = true from by simp; omega]
  go_wp2_with fail
  refine (awake_c w1).mono ?_
  rintro e w2 ⟨rfl, B2⟩
  go_wp2_with fail
  go_ret
  exact ⟨rfl, Obj.step B1 B2⟩

set_option maxHeartbeats 4000000 in
theorem walk_within (d : ByteArray) (A : Option Addr) (cap : Nat) (st : List (Int × Int)) (A2 : Option Addr) (len cap2 : Nat) (zs : List Int) (w : World) (hd : d.size ≤ 2000) (hn : st.length ≤ 500) (hl : len ≤ 500) (G : Given w A st cap) (hZ : Ints w A2 len zs) :
    Calls Try.prog 6 #[.string d, .slice A st.length cap, .slice A2 len cap2] w fun e w' => e = .returned (.bool true) ∧ Below w.heap.size w w' := by
  go_enter Try.func6, Try.ntmps6
  go_wp2_with fail
  refine (awake_c w).mono ?_
  rintro e w1 ⟨rfl, B1⟩
  have G1 : Given w1 A st cap := G.keep (Kept.of_below B1 (fun _ => False)) (fun _ h => h.elim)
  have K1 := Lib.hid (Kept.of_below B1 (fun _ => False))
  clear B1
  go_wp2_with fail
  refine (great_c d A A2 st.length cap len cap2 w1 (by omega) (by omega) (by omega)).mono ?_
  rintro e w2 ⟨rfl, rfl⟩
  rw [show decide (2000 < d.size ∨ 500 < st.length ∨ 500 < len) = false from by simp; omega]
  go_wp2_with (at_builtin; refine wpList_copy rfl (.tmp 23) (.tmp 24) rfl A cap st w1 G1 (by omega) rfl rfl ?_)
  intro A' cap' w3 G3 K3
  have K4 := Lib.hid (K1.out.trans K3)
  clear K3 G1 K1
  go_wp2_with fail
  refine (new_c d A' cap' st w3 G3 (by omega)).mono ?_
  rintro e w4 ⟨b, g, rfl, S4, K5, hb, hg⟩
  have HB : Hid (w.heap.size ≤ b) := Nat.le_trans K4.out.size hb
  have K6 := Lib.hid ((K4.out.trans K5).mono (T := (· = b)) (fun _ h => h.elim))
  have S0 : Src w4 b g (d.extract 0 d.size) st 0 ((0 : Nat) : Int) ((0 : Nat) : Int) := by rw [ByteArray.extract_zero_size]; exact S4
  clear K4 G3 K5 hb hg S4
  go_wp2_with fail
  go_loopw [8, 31] (fun c i wr => ∃ (k a : Nat) (s : List (Int × Int)) (o : Int), k ≤ len ∧ a ≤ d.size ∧ i = .int .i64 k ∧ c = .int .i64 a ∧ Src wr b g (d.extract a d.size) s o a k ∧ Kept (· = b) w wr) (fun _ i _ => len - (intOf i).toNat)
  case atStart => exact ⟨0, 0, st, 0, Nat.zero_le _, Nat.zero_le _, rfl, rfl, S0, K6.out⟩
  case round =>
    obtain ⟨k, a, s, o, hk, ha, rfl, rfl, S, K⟩ := hrel
    have K0 := Lib.hid K
    have HA := Lib.hid ha
    clear K S0 K6
    by_cases hlt : k < len
    · rcases hZ with h0 | ⟨ab, off, rfl, hab, hc⟩
      · omega
      obtain ⟨hcell, hz0, hz1⟩ := hc k hlt
      have hcr : wr.cell? ⟨ab, off + k, none⟩ = some (.int .i64 (zs.getD k 0)) := (World.cell?_of_block (w := w) (K0.out.block ab hab (by have := HB.out; omega))).trans hcell
      clear hcell hc
      obtain ⟨p, hp⟩ : ∃ p, p = zs.getD k 0 := ⟨_, rfl⟩
      rw [← hp] at hcr hz0 hz1
      clear hp
      have t1 : (k : Int) < (len : Int) := by omega
      have R : Calls Try.prog 17 #[.pointer (some ⟨b, 0, none⟩), .int .i64 p] wr fun e w' => ∃ (x : ByteArray) (o' : Int) (s' : List (Int × Int)), e = .returned (.tuple #[.string x, .int .i64 o']) ∧ (x.size : Int) ≤ max p 0 ∧ a + x.size ≤ d.size ∧ Src w' b g (d.extract (a + x.size) d.size) s' o' ((a + x.size : Nat) : Int) ((k + 1 : Nat) : Int) ∧ Kept (· = b) wr w' := by
        by_cases ho : o = 0
        · subst ho
          refine (read_d b g d a s k p wr (by omega) (by omega) S ha (by omega)).mono ?_
          rintro e w5 ⟨rfl, S5, K5⟩
          have hx : (d.extract a (a + cn p s (d.size - a))).size = cn p s (d.size - a) := by
            have := cn_le p s (d.size - a)
            rw [ByteArray.size_extract]; omega
          refine ⟨_, _, s.tail, rfl, ?_, ?_, ?_, K5⟩
          · rw [hx]; unfold cn came; omega
          · rw [hx]; have := cn_le p s (d.size - a); omega
          · rw [hx]; exact S5
        · refine (read_over b g _ s o a k p wr S (by omega) (by omega) (by simpa using ho)).mono ?_
          rintro e w5 ⟨rfl, S5, K5⟩
          refine ⟨⟨#[]⟩, o, s, rfl, ?_, ?_, S5, K5⟩
          · show ((0 : Nat) : Int) ≤ _; omega
          · exact ha
      go_wp2_with fail
      refine R.mono ?_
      rintro e w5 ⟨x, o', s', rfl, hx, hax, S5, K5⟩
      have K7 := Lib.hid (K0.out.trans K5)
      have HX := Lib.hid hax
      have hxb : (x.size : Int) ≤ 2000 := by omega
      have ha2 : (a : Int) ≤ 2000 := by omega
      clear R K5 S hax ha
      go_wp2_with fail
      refine (calls_c b g _ _ _ _ _ _ S5 (by omega) (by omega)).mono ?_
      rintro e w6 ⟨rfl, rfl⟩
      have t2 : ((k + 1 : Nat) : Int) = (k : Int) + 1 := by omega
      rw [t2]
      clear t2
      go_wp2_with fail
      refine (given_c b g _ _ _ _ _ _ S5).mono ?_
      rintro e w6 ⟨rfl, rfl⟩
      have S6 := Lib.hid S5
      clear S5
      rw [show ((a + x.size : Nat) : Int) = (a : Int) + x.size from by omega]
      have hy0 : (0 : Int) ≤ x.size := by omega
      generalize hy : (x.size : Int) = y at hx hxb hy0 ⊢
      by_cases hp : p < 0
      · have hx0 : ¬(0 : Int) < y := by omega
        clear hx
        go_wp2_with fail
        go_roundw
        case rel => exact ⟨k + 1, a + x.size, s', o', by omega, HX.out, by go_num, by rw [← hy]; go_num, S6.out, K7.out⟩
        case measure => simp [intOf]; omega
      · have hx0 : ¬p < y := by omega
        clear hx
        go_wp2_with fail
        go_roundw
        case rel => exact ⟨k + 1, a + x.size, s', o', by omega, HX.out, by go_num, by rw [← hy]; go_num, S6.out, K7.out⟩
        case measure => simp [intOf]; omega
    · obtain rfl : k = len := by omega
      have t1 : ¬(k : Int) < (k : Int) := by omega
      have t2 : (a : Int) ≤ d.size := by omega
      go_wp2_with fail
      go_ret
      exact ⟨rfl, Kept.below (Below.refl _ w) K0.out (fun i hi => by have := HB.out; omega)⟩

theorem walk (d : ByteArray) (A : Option Addr) (cap : Nat) (st : List (Int × Int)) (A2 : Option Addr) (len cap2 : Nat) (zs : List Int) (w : World) (hd : d.size ≤ 140737488351232) (hn : st.length ≤ 9223372036854775807) (hl : len ≤ 9223372036854775807) (G : Given w A st cap) (hZ : Ints w A2 len zs) :
    Calls Try.prog 6 #[.string d, .slice A st.length cap, .slice A2 len cap2] w fun e w' => e = .returned (.bool true) ∧ Below w.heap.size w w' := by
  by_cases h : 2000 < d.size ∨ 500 < st.length ∨ 500 < len
  · exact walk_out d A cap st A2 len cap2 zs w hd hn hl h
  · exact walk_within d A cap st A2 len cap2 zs w (by omega) (by omega) (by omega) G hZ
end Go.Proofs.Ytakhdkfcnanglaa.Counts
