/- The walk of Steps. -/
import Derived.Test.YtakhdkfcnanglaaPlay
namespace Go.Proofs.Ytakhdkfcnanglaa.Steps
open Go.RowKit
open Go.Proofs.Ytakhdkfcnanglaa.Obj Go.Proofs.Ytakhdkfcnanglaa.New Go.Proofs.Ytakhdkfcnanglaa.Play
set_option linter.unusedVariables false

theorem came_all (n : Int) (l D : Nat) (h : l ≤ D) : came D n l = (min (max n 0) l).toNat := by unfold came; omega
theorem getD_drop (st : List (Int × Int)) (k : Nat) (h : k < st.length) : st.drop k = st.getD k (0, 0) :: st.drop (k + 1) := by
  rw [List.drop_eq_getElem_cons h]
  congr 1
  simp [List.getD, h]
theorem walk_out (d : ByteArray) (A : Option Addr) (cap : Nat) (st : List (Int × Int)) (w : World) (hd : d.size ≤ 140737488351232) (hn : st.length ≤ 9223372036854775807) (h : 2000 < d.size ∨ 500 < st.length ∨ 500 < 0) :
    Calls Try.prog 8 #[.string d, .slice A st.length cap] w fun e w' => e = .returned (.bool true) ∧ Below w.heap.size w w' := by
  go_enter Try.func8, Try.ntmps8
  go_wp2_with fail
  refine (awake_c w).mono ?_
  rintro e w1 ⟨rfl, B1⟩
  go_wp2_with fail
  refine (great_c d A none st.length cap 0 0 w1 hd hn (by omega)).mono ?_
  rintro e w2 ⟨rfl, rfl⟩
  rw [show decide (2000 < d.size ∨ 500 < st.length ∨ 500 < 0) = true from by simp; omega]
  go_wp2_with fail
  refine (awake_c w1).mono ?_
  rintro e w2 ⟨rfl, B2⟩
  go_wp2_with fail
  go_ret
  exact ⟨rfl, Obj.step B1 B2⟩

set_option maxHeartbeats 4000000 in
theorem walk_within (d : ByteArray) (A : Option Addr) (cap : Nat) (st : List (Int × Int)) (w : World) (hd : d.size ≤ 2000) (hn : st.length ≤ 500) (G : Given w A st cap) :
    Calls Try.prog 8 #[.string d, .slice A st.length cap] w fun e w' => e = .returned (.bool true) ∧ Below w.heap.size w w' := by
  go_enter Try.func8, Try.ntmps8
  go_wp2_with fail
  refine (awake_c w).mono ?_
  rintro e w1 ⟨rfl, B1⟩
  have G1 : Given w1 A st cap := G.keep (Kept.of_below B1 (fun _ => False)) (fun _ h => h.elim)
  have K1 := Lib.hid (Kept.of_below B1 (fun _ => False))
  clear B1
  go_wp2_with fail
  refine (great_c d A none st.length cap 0 0 w1 (by omega) (by omega) (by omega)).mono ?_
  rintro e w2 ⟨rfl, rfl⟩
  rw [show decide (2000 < d.size ∨ 500 < st.length ∨ 500 < 0) = false from by simp; omega]
  go_wp2_with (at_builtin; refine wpList_copy rfl (.tmp 21) (.tmp 22) rfl A cap st w1 G1 (by omega) rfl rfl ?_)
  intro A' cap' w3 G3 K3
  have K4 := Lib.hid (K1.out.trans K3)
  clear K3 G1 K1
  go_wp2_with fail
  refine (new_c d A' cap' st w3 G3 (by omega)).mono ?_
  rintro e w4 ⟨b, g, rfl, S4, K5, hb, hg⟩
  have HB : Hid (w.heap.size ≤ b) := Nat.le_trans K4.out.size hb
  have K6 := Lib.hid ((K4.out.trans K5).mono (T := (· = b)) (fun _ h => h.elim))
  have S0 : Src w4 b g (d.extract 0 d.size) st 0 ((0 : Nat) : Int) ((0 : Nat) : Int) := by rw [ByteArray.extract_zero_size]; exact S4
  clear K4 G3 K5 hb hg S4
  go_wp2_with fail
  go_loopw [6, 31] (fun v i wr => ∃ (k a : Nat), k ≤ st.length ∧ a ≤ d.size ∧ i = .int .i64 k ∧ v = .int .i64 (d.size - a : Nat) ∧ Src wr b g (d.extract a d.size) (st.drop k) 0 a k ∧ Kept (· = b) w wr) (fun _ i _ => st.length - (intOf i).toNat)
  case atStart => exact ⟨0, 0, Nat.zero_le _, Nat.zero_le _, rfl, rfl, S0, K6.out⟩
  case round =>
    obtain ⟨k, a, hk, ha, rfl, rfl, S, K⟩ := hrel
    have K0 := Lib.hid K
    clear K S0 K6
    by_cases hlt : k < st.length
    · have t1 : (k : Int) < (st.length : Int) := by omega
      rw [getD_drop st k hlt] at S
      obtain ⟨gg, oo, rfl, hgg, hcell⟩ := G.plain (by omega)
      obtain ⟨z0, z1⟩ := hcell k hlt
      have hbl := K0.out.block gg hgg (by have := HB.out; omega)
      replace z0 := (World.cell?_of_block (w := w) (a := ⟨gg, oo + k * 2, none⟩) hbl).trans z0
      replace z1 := (World.cell?_of_block (w := w) (a := ⟨gg, oo + k * 2 + 1, none⟩) hbl).trans z1
      clear hcell hbl
      generalize st.getD k (0, 0) = x at S z0 z1
      obtain ⟨p, q⟩ := x
      simp only at z0 z1
      obtain ⟨l, hl⟩ : ∃ l, l = d.size - a := ⟨_, rfl⟩
      rw [← hl]
      have HL := Lib.hid hl
      have hlb : (l : Int) ≤ 2000 := by omega
      have lb := S.lb
      by_cases hq : q = 0
      · subst hq
        by_cases p0 : p < 0
        · clear hl
          go_wp2_with fail
          refine (read_d b g d a ((p, 0) :: st.drop (k + 1)) k d.size _ (by omega) (by omega) ((S.alloc _)) ha (by omega)).mono ?_
          rintro e w5 ⟨rfl, S5, K5⟩
          rw [show cn d.size ((p, 0) :: st.drop (k + 1)) (d.size - a) = 0 from by unfold cn; rw [show (top ((p, 0) :: st.drop (k + 1)) (d.size - a)).1 = p from rfl, came_all _ _ _ (by omega)]; have := HL.out; omega] at S5 ⊢
          rw [show ov d.size ((p, 0) :: st.drop (k + 1)) (d.size - a) = 0 from rfl] at S5 ⊢
          have S6 := Lib.hid S5
          have K7 := Lib.hid ((K0.out.alloc _).trans K5)
          obtain ⟨y, hy⟩ : ∃ y, y = d.extract a (a + 0) := ⟨_, rfl⟩
          have hys : y.size = 0 := by have := HL.out; rw [hy, ByteArray.size_extract]; omega
          rw [← hy]
          clear S5 K5 S hy
          go_wp2_with fail
          go_roundw
          case rel => exact ⟨k + 1, a + 0, by omega, by have := HL.out; omega, by go_num, by have := HL.out; first | go_num | (congr 1; omega), S6.out, K7.out⟩
          case measure => simp [intOf]; omega
        · by_cases p1 : (l : Int) < p
          · clear hl
            go_wp2_with fail
            refine (read_d b g d a ((p, 0) :: st.drop (k + 1)) k d.size _ (by omega) (by omega) ((S.alloc _)) ha (by omega)).mono ?_
            rintro e w5 ⟨rfl, S5, K5⟩
            rw [show cn d.size ((p, 0) :: st.drop (k + 1)) (d.size - a) = l from by unfold cn; rw [show (top ((p, 0) :: st.drop (k + 1)) (d.size - a)).1 = p from rfl, came_all _ _ _ (by omega)]; have := HL.out; omega] at S5 ⊢
            rw [show ov d.size ((p, 0) :: st.drop (k + 1)) (d.size - a) = 0 from rfl] at S5 ⊢
            have S6 := Lib.hid S5
            have K7 := Lib.hid ((K0.out.alloc _).trans K5)
            obtain ⟨y, hy⟩ : ∃ y, y = d.extract a (a + l) := ⟨_, rfl⟩
            have hys : y.size = l := by have := HL.out; rw [hy, ByteArray.size_extract]; omega
            rw [← hy]
            clear S5 K5 S hy
            go_wp2_with fail
            go_roundw
            case rel => exact ⟨k + 1, a + l, by omega, by have := HL.out; omega, by go_num, by have := HL.out; first | go_num | (congr 1; omega), S6.out, K7.out⟩
            case measure => simp [intOf]; omega
          · obtain ⟨p, rfl⟩ : ∃ m : Nat, p = m := ⟨p.toNat, by omega⟩
            clear hl
            go_wp2_with fail
            refine (read_d b g d a ((p, 0) :: st.drop (k + 1)) k d.size _ (by omega) (by omega) ((S.alloc _)) ha (by omega)).mono ?_
            rintro e w5 ⟨rfl, S5, K5⟩
            rw [show cn d.size ((p, 0) :: st.drop (k + 1)) (d.size - a) = p from by unfold cn; rw [show (top ((p, 0) :: st.drop (k + 1)) (d.size - a)).1 = p from rfl, came_all _ _ _ (by omega)]; have := HL.out; omega] at S5 ⊢
            rw [show ov d.size ((p, 0) :: st.drop (k + 1)) (d.size - a) = 0 from rfl] at S5 ⊢
            have S6 := Lib.hid S5
            have K7 := Lib.hid ((K0.out.alloc _).trans K5)
            obtain ⟨y, hy⟩ : ∃ y, y = d.extract a (a + p) := ⟨_, rfl⟩
            have hys : y.size = p := by have := HL.out; rw [hy, ByteArray.size_extract]; omega
            rw [← hy]
            clear S5 K5 S hy
            go_wp2_with fail
            go_roundw
            case rel => exact ⟨k + 1, a + p, by omega, by have := HL.out; omega, by go_num, by have := HL.out; first | go_num | (congr 1; omega), S6.out, K7.out⟩
            case measure => simp [intOf]; omega
      · go_wp2_with fail
        go_ret
        exact ⟨rfl, Kept.below (Below.refl _ w) (K0.out.alloc _) (fun i hi => by have := HB.out; omega)⟩
    · obtain rfl : k = st.length := by omega
      have t1 : ¬(st.length : Int) < (st.length : Int) := by omega
      have t2 : ((d.size - a : Nat) : Int) = d.size - a := by omega
      rw [t2]
      clear t2
      have t3 : (a : Int) ≤ d.size := by omega
      have t4 : (d.size : Int) - (d.size - a) = a := by omega
      go_wp2_with fail
      refine (given_c b g _ _ _ _ _ _ S).mono ?_
      rintro e w6 ⟨rfl, rfl⟩
      go_wp2_with fail
      go_ret
      exact ⟨rfl, Kept.below (Below.refl _ w) K0.out (fun i hi => by have := HB.out; omega)⟩

theorem walk (d : ByteArray) (A : Option Addr) (cap : Nat) (st : List (Int × Int)) (w : World) (hd : d.size ≤ 140737488351232) (hn : st.length ≤ 9223372036854775807) (G : Given w A st cap) :
    Calls Try.prog 8 #[.string d, .slice A st.length cap] w fun e w' => e = .returned (.bool true) ∧ Below w.heap.size w w' := by
  by_cases h : 2000 < d.size ∨ 500 < st.length
  · exact walk_out d A cap st w hd hn (by omega)
  · exact walk_within d A cap st w (by omega) (by omega) G
end Go.Proofs.Ytakhdkfcnanglaa.Steps
