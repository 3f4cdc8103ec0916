/- The walk of All. -/
import Derived.Test.YtakhdkfcnanglaaPlay
namespace Go.Proofs.Ytakhdkfcnanglaa.All
open Go.RowKit
open Go.Proofs.Ytakhdkfcnanglaa.Obj Go.Proofs.Ytakhdkfcnanglaa.New Go.Proofs.Ytakhdkfcnanglaa.Play
set_option linter.unusedVariables false

theorem ov_ways (n : Int) (s : List (Int × Int)) (l : Nat) : ov n s l = 0 ∨ (ov n s l = 1 ∧ cn n s l = l) ∨ ov n s l = 2 := by
  have := cn_le n s l
  unfold ov fin
  by_cases h2 : (top s l).2 = 2
  · rw [if_pos h2]; exact .inr (.inr rfl)
  · rw [if_neg h2]
    by_cases h1 : (top s l).2 = 1 ∧ l - cn n s l = 0
    · rw [if_pos h1]; exact .inr (.inl ⟨rfl, by omega⟩)
    · rw [if_neg h1]; exact .inl rfl
theorem go_on (n : Int) (s : List (Int × Int)) (l : Nat) (hn : 1 ≤ n) (ho : ov n s l = 0) : s.tail.length + (l - cn n s l) + 1 ≤ s.length + l := by
  cases s with
  | cons x s => simp; omega
  | nil =>
    by_cases hl : l = 0
    · subst hl
      exact absurd ho (by unfold ov fin top; simp)
    · have : cn n [] l = came n l l := by unfold cn top; simp only [if_neg hl]
      rw [this]
      unfold came
      simp
      omega
theorem join (d : ByteArray) (a c : Nat) (h : a + c ≤ d.size) : d.extract 0 a ++ d.extract a (a + c) = d.extract 0 (a + c) := by
  rw [ByteArray.extract_append_extract]
  congr 1 <;> omega

theorem walk_out (d : ByteArray) (A : Option Addr) (cap : Nat) (st : List (Int × Int)) (n : Int) (w : World) (hd : d.size ≤ 140737488351232) (hn : st.length ≤ 9223372036854775807) (h : 2000 < d.size ∨ 500 < st.length ∨ n < 1) :
    Calls Try.prog 4 #[.string d, .slice A st.length cap, .int .i64 n] w fun e w' => e = .returned (.bool true) ∧ Below w.heap.size w w' := by
  by_cases hg : 2000 < d.size ∨ 500 < st.length
  · go_enter Try.func4, Try.ntmps4
    go_wp2_with fail
    refine (awake_c w).mono ?_
    rintro e w1 ⟨rfl, B1⟩
    go_wp2_with fail
    refine (great_c d A none st.length cap 0 0 w1 hd hn (by omega)).mono ?_
    rintro e w2 ⟨rfl, rfl⟩
    rw [show decide (2000 < d.size ∨ 500 < st.length ∨ 500 < 0) = true from by simp; omega]
    go_wp2_with fail
    refine (awake_c w1).mono ?_
    rintro e w2 ⟨rfl, B2⟩
    go_wp2_with fail
    go_ret
    exact ⟨rfl, Obj.step B1 B2⟩
  · have h1 : n < 1 := by omega
    go_enter Try.func4, Try.ntmps4
    go_wp2_with fail
    refine (awake_c w).mono ?_
    rintro e w1 ⟨rfl, B1⟩
    go_wp2_with fail
    refine (great_c d A none st.length cap 0 0 w1 hd hn (by omega)).mono ?_
    rintro e w2 ⟨rfl, rfl⟩
    rw [show decide (2000 < d.size ∨ 500 < st.length ∨ 500 < 0) = false from by simp; omega]
    go_wp2_with fail
    refine (awake_c w1).mono ?_
    rintro e w2 ⟨rfl, B2⟩
    go_wp2_with fail
    go_ret
    exact ⟨rfl, Obj.step B1 B2⟩

set_option maxHeartbeats 4000000 in
theorem walk_within (d : ByteArray) (A : Option Addr) (cap : Nat) (st : List (Int × Int)) (n : Int) (w : World) (hd : d.size ≤ 2000) (hn : st.length ≤ 500) (h1 : 1 ≤ n) (G : Given w A st cap) :
    Calls Try.prog 4 #[.string d, .slice A st.length cap, .int .i64 n] w fun e w' => e = .returned (.bool true) ∧ Below w.heap.size w w' := by
  have n1 : ¬n < 1 := by omega
  go_enter Try.func4, Try.ntmps4
  go_wp2_with fail
  refine (awake_c w).mono ?_
  rintro e w1 ⟨rfl, B1⟩
  have G1 : Given w1 A st cap := G.keep (Kept.of_below B1 (fun _ => False)) (fun _ h => h.elim)
  have K1 := Lib.hid (Kept.of_below B1 (fun _ => False))
  clear B1
  go_wp2_with fail
  refine (great_c d A none st.length cap 0 0 w1 (by omega) (by omega) (by omega)).mono ?_
  rintro e w2 ⟨rfl, rfl⟩
  rw [show decide (2000 < d.size ∨ 500 < st.length ∨ 500 < 0) = false from by simp; omega]
  go_wp2_with (at_builtin; refine wpList_copy rfl (.tmp 25) (.tmp 26) rfl A cap st w1 G1 (by omega) rfl rfl ?_)
  intro A' cap' w3 G3 K3
  have K4 := Lib.hid (K1.out.trans K3)
  clear K3 G1 K1
  go_wp2_with fail
  refine (new_c d A' cap' st w3 G3 (by omega)).mono ?_
  rintro e w4 ⟨b, g, rfl, S4, K5, hb, hg⟩
  have HB : Hid (w.heap.size ≤ b) := Nat.le_trans K4.out.size hb
  have K6 := Lib.hid ((K4.out.trans K5).mono (T := (· = b)) (fun _ h => h.elim))
  have S0 : Src w4 b g (d.extract 0 d.size) st 0 ((0 : Nat) : Int) ((0 : Nat) : Int) := by rw [ByteArray.extract_zero_size]; exact S4
  clear K4 G3 K5 hb hg S4
  go_wp2_with fail
  go_loopw [8, 9, 37] (fun t v i wr => ∃ (k a : Nat) (s : List (Int × Int)) (o : Int) (x : ByteArray), k ≤ st.length + d.size + 2 ∧ a ≤ d.size ∧ i = .int .i64 k ∧ v = .int .i64 o ∧ t = .string x ∧ x = d.extract 0 a ∧ (o = 0 ∨ (o = 1 ∧ a = d.size) ∨ o = 2) ∧ (o = 0 → k + s.length + (d.size - a) ≤ st.length + d.size) ∧ Src wr b g (d.extract a d.size) s o a k ∧ Kept (· = b) w wr) (fun _ _ i _ => st.length + d.size + 2 - (intOf i).toNat)
  case atStart => exact ⟨0, 0, st, 0, ⟨#[]⟩, Nat.zero_le _, Nat.zero_le _, rfl, rfl, rfl, by simp; rfl, .inl rfl, fun _ => by omega, S0, K6.out⟩
  case round =>
    obtain ⟨k, a, s, o, x, hk, ha, rfl, rfl, rfl, hx, ho, hp, S, K⟩ := hrel
    have K0 := Lib.hid K
    have HP := Lib.hid hp
    clear K S0 K6 hp
    by_cases hlt : k < st.length + d.size + 2
    · have t1 : (k : Int) < (st.length : Int) + d.size + 2 := by omega
      by_cases h0 : o = 0
      · subst h0
        go_wp2_with fail
        refine (read_d b g d a s k n wr (by omega) (by omega) S ha (by omega)).mono ?_
        rintro e w5 ⟨rfl, S5, K5⟩
        have hc := cn_le n s (d.size - a)
        have hw := Lib.hid (ov_ways n s (d.size - a))
        have hg := Lib.hid (go_on n s (d.size - a) h1)
        have hm : (cn n s (d.size - a) : Int) ≤ n := by unfold cn came; omega
        generalize ov n s (d.size - a) = o' at S5 hw hg ⊢
        generalize cn n s (d.size - a) = c at S5 hc hw hg hm ⊢
        have S6 := Lib.hid S5
        have K7 := Lib.hid (K0.out.trans K5)
        obtain ⟨y, hy⟩ : ∃ y, y = d.extract a (a + c) := ⟨_, rfl⟩
        have hys : y.size = c := by rw [hy, ByteArray.size_extract]; omega
        have hxs : x.size = a := by rw [hx, ByteArray.size_extract]; omega
        rw [← hy]
        have HX := Lib.hid hx
        have HY := Lib.hid hy
        have t3 : ¬n < (c : Int) := by omega
        clear S5 K5 S hy hx hm
        go_wp2_with fail
        go_roundw
        case rel =>
          refine ⟨k + 1, a + c, s.tail, o', _, by omega, by omega, by go_num, rfl, rfl, ?_, ?_, ?_, S6.out, K7.out⟩
          · first | rw [HX.out, HY.out] | rw [HY.out]
            exact join d a c (by omega)
          · rcases hw.out with h | ⟨h, h'⟩ | h
            · exact .inl h
            · exact .inr (.inl ⟨h, by omega⟩)
            · exact .inr (.inr h)
          · intro h; have := hg.out h; have := HP.out (by trivial); omega
        case measure => simp [intOf]; omega
      · have h0' : (o == 0) = false := by simpa using h0
        go_wp2_with fail
        refine (read_over b g _ s o a k n wr S (by omega) (by omega) h0').mono ?_
        rintro e w5 ⟨rfl, S5, K5⟩
        have S6 := Lib.hid S5
        have K7 := Lib.hid (K0.out.trans K5)
        have hxs : x.size = a := by rw [hx, ByteArray.size_extract]; omega
        have HX := Lib.hid hx
        have HO := Lib.hid ho
        have t3 : ¬n < 0 := by omega
        have hxe : x ++ ⟨#[]⟩ = x := ByteArray.append_empty
        clear S5 K5 S hx ho
        go_wp2_with fail
        go_roundw
        case rel => exact ⟨k + 1, a, s, o, x, by omega, ha, by go_num, rfl, by first | rfl | (congr 1), HX.out, HO.out, fun h => absurd h h0, S6.out, K7.out⟩
        case measure => simp [intOf]; omega
    · obtain rfl : k = st.length + d.size + 2 := by omega
      have t1 : ¬((st.length + d.size + 2 : Nat) : Int) < (st.length : Int) + d.size + 2 := by omega
      have hxs : x.size = a := by rw [hx, ByteArray.size_extract]; omega
      rcases ho with rfl | ⟨rfl, rfl⟩ | rfl
      · have := HP.out (by trivial); omega
      · rw [ByteArray.extract_zero_size] at hx
        subst hx
        go_wp2_with fail
        refine (given_c b g _ _ _ _ _ _ S).mono ?_
        rintro e w6 ⟨rfl, rfl⟩
        go_wp2_with fail
        go_ret
        exact ⟨rfl, Kept.below (Below.refl _ w) K0.out (fun i hi => by have := HB.out; omega)⟩
      · have t2 : (a : Int) ≤ d.size := by omega
        have he : d.extract 0 a = x := hx.symm
        clear hx
        go_wp2_with fail
        go_ret
        exact ⟨rfl, Kept.below (Below.refl _ w) K0.out (fun i hi => by have := HB.out; omega)⟩

theorem walk (d : ByteArray) (A : Option Addr) (cap : Nat) (st : List (Int × Int)) (n : Int) (w : World) (hd : d.size ≤ 140737488351232) (hn : st.length ≤ 9223372036854775807) (G : Given w A st cap) :
    Calls Try.prog 4 #[.string d, .slice A st.length cap, .int .i64 n] w fun e w' => e = .returned (.bool true) ∧ Below w.heap.size w w' := by
  by_cases h : 2000 < d.size ∨ 500 < st.length ∨ n < 1
  · exact walk_out d A cap st n w hd hn h
  · exact walk_within d A cap st n w (by omega) (by omega) (by omega) G
end Go.Proofs.Ytakhdkfcnanglaa.All
