/- For every content that is right: none of its beginnings is wrong for its length, and as a whole it is right just if it ends with a number. The walk. No condition beyond the kinds and the reach. -/
import Derived.Test.YtgloehelfdmmaaaWrong
namespace Go.Proofs.Ytgloehelfdmmaaa.Oid.LawFront
set_option linter.unusedVariables false
open Go.RowKit

theorem _root_.Go.Proofs.Ytgloehelfdmmaaa.Oid.St.drew {w : World} {h : Nat} {x : Int} {wn : Bool} (s : St w h x wn) : St w.drew h x wn := ⟨s.row⟩
theorem walk_out (n : Int) (c : ByteArray) (w : World) (h : 300 < c.size ∨ wrongS (c.size : Int) c ≠ -1 ∨ n < 1 ∨ (c.size : Int) < n) (h2 : c.size ≤ 140737488351232) : Calls Try.prog 8 #[.string c, .int .i64 n] w fun e w' => e = .returned (.bool true) ∧ Below w.heap.size w w' := by
  by_cases h3 : 300 < c.size
  · have t1 : (300 : Int) < (c.size : Int) := by omega
    clear h
    go_enter Try.func8, Try.ntmps8
    go_wp2_with fail
    refine (awake_c w).mono ?_
    rintro e w1 ⟨rfl, B1⟩
    go_wp2_with fail
    refine (awake_c w1).mono ?_
    rintro e w2 ⟨rfl, B2⟩
    go_wp2_with fail
    go_ret
    exact ⟨rfl, step B1 B2⟩
  · have t1 : ¬(300 : Int) < (c.size : Int) := by omega
    have WR := fun w => wrong_c (c.size : Int) c w (by omega) (by omega)
    obtain ⟨R, hR⟩ : ∃ R, R = wrongS (c.size : Int) c := ⟨_, rfl⟩
    rw [← hR] at WR h
    have HWR := Lib.hid WR
    have four : (R != -1) = true ∨ ((R != -1) = false ∧ n < 1) ∨ ((R != -1) = false ∧ ¬n < 1 ∧ (c.size : Int) < n) := by
      by_cases hr : R = -1
      · rcases h with h | h | h | h
        · omega
        · exact absurd hr h
        · exact .inr (.inl ⟨by simpa using hr, h⟩)
        · by_cases h5 : n < 1
          · exact .inr (.inl ⟨by simpa using hr, h5⟩)
          · exact .inr (.inr ⟨by simpa using hr, h5, h⟩)
      · exact .inl (by simpa using hr)
    clear WR hR h
    rcases four with q | ⟨q, q2⟩ | ⟨q, q2, q3⟩
    all_goals
      go_enter Try.func8, Try.ntmps8
      go_wp2_with fail
      refine (awake_c w).mono ?_
      rintro e w1 ⟨rfl, B1⟩
      go_wp2_with fail
      refine (HWR.out w1).mono ?_
      rintro e w2 ⟨rfl, rfl⟩
      go_wp2_with fail
      refine (awake_c w1).mono ?_
      rintro e w2 ⟨rfl, B2⟩
      go_wp2_with fail
      go_ret
      exact ⟨rfl, step B1 B2⟩
/-- a byte comes into the one that is right -/
theorem wr_ok (n : Int) (wn : Bool) (k : Nat) (b : Int) (r : List Int) (h : wr n wn k (b :: r) = -1) : ¬((wn = false ∧ b = 128) ∨ (n - k = 1 ∧ 128 ≤ b)) ∧ wr n (decide (127 < b)) (k + 1) r = -1 := by
  rw [wr] at h
  split at h
  · omega
  · next hn =>
    refine ⟨?_, h⟩
    rintro (h2 | h2)
    · exact hn (.inl ⟨h2.2, h2.1⟩)
    · exact hn (.inr (by omega))
set_option maxHeartbeats 4000000 in
theorem walk_within (m : Nat) (c : ByteArray) (w : World) (h : c.size ≤ 300) (h1 : 1 ≤ m) (h2 : m ≤ c.size) (hwr : wrongS (c.size : Int) c = -1) : Calls Try.prog 8 #[.string c, .int .i64 (m : Int)] w fun e w' => e = .returned (.bool true) ∧ Below w.heap.size w w' := by
  have t1 : ¬(300 : Int) < (c.size : Int) := by omega
  have t2 : ¬(c.size : Int) < (m : Int) := by omega
  have t3 : ¬(m : Int) < 1 := by omega
  have WR := fun w => wrong_c (c.size : Int) c w (by omega) (by omega)
  rw [hwr] at WR
  have HWR := Lib.hid WR
  have HR0 : Hid (wr (c.size : Int) (wnk (bl c) 0) 0 ((bl c).drop 0) = -1) := by
    show wr (c.size : Int) (wnk (bl c) 0) 0 ((bl c).drop 0) = -1
    rw [wrongS, if_neg (by omega)] at hwr
    exact hwr
  clear WR hwr
  go_enter Try.func8, Try.ntmps8
  go_wp2_with fail
  refine (awake_c w).mono ?_
  rintro e w1 ⟨rfl, B1⟩
  have hw1 := B1.size
  have K1 := Lib.hid (Kept.of_below B1 (fun i => w.heap.size ≤ i))
  clear B1
  go_wp2_with fail
  refine (HWR.out w1).mono ?_
  rintro e w2 ⟨rfl, rfl⟩
  go_wp2_with fail
  refine (start_ok (c.size : Int) w1 (by omega)).mono ?_
  rintro e w2 ⟨rfl, K2⟩
  have hw2 : w.heap.size ≤ w2.heap.size := Nat.le_trans hw1 K2.size
  have K3 := Lib.hid ((kup K1.out K2 (fun i h => h.elim)).alloc (.cells #[.int .i64 c.size, .bool false] 25))
  have S3 : St (w2.alloc (.cells #[.int .i64 c.size, .bool false] 25)) w2.heap.size (c.size : Int) false := ⟨heap_alloc_new _ _⟩
  have hz3 : w2.heap.size < (w2.alloc (.cells #[.int .i64 c.size, .bool false] 25)).heap.size := by simp
  clear K2 K1
  go_wp2_with fail
  generalize w2.alloc (.cells #[.int .i64 c.size, .bool false] 25) = w3 at K3 S3 hz3 ⊢
  generalize w2.heap.size = hs at S3 hw2 hz3 ⊢
  refine (start_ok (m : Int) w3 (by omega)).mono ?_
  rintro e w4 ⟨rfl, K2⟩
  have hz4 : hs < w4.heap.size := Nat.lt_of_lt_of_le hz3 K2.size
  have K5 := Lib.hid ((kup K3.out K2 (fun i h => h.elim)).alloc (.cells #[.int .i64 m, .bool false] 25))
  have S5 : St (w4.alloc (.cells #[.int .i64 m, .bool false] 25)) hs (c.size : Int) false := (S3.keep K2 (fun h => h)).keep ((Kept.refl (fun _ => False) _).alloc _) (fun h => h)
  have T5 : St (w4.alloc (.cells #[.int .i64 m, .bool false] 25)) w4.heap.size (m : Int) false := ⟨heap_alloc_new _ _⟩
  clear K2 K3 S3
  go_wp2_with fail
  generalize w4.alloc (.cells #[.int .i64 m, .bool false] 25) = w5 at K5 S5 T5 ⊢
  generalize w4.heap.size = ht at T5 hz4 ⊢
  obtain ⟨last, hlast⟩ : ∃ b : Int, (bl c).getD (m - 1) 0 = b := ⟨_, rfl⟩
  have HLAST := Lib.hid hlast
  clear hlast
  go_loopw [9, 6, 8] (fun i ok is wx => ∃ (k : Nat) (o : Bool) (x2 : Int) (wn wn2 : Bool), k ≤ m ∧ i = .int .i64 k ∧ ok = .bool true ∧ is = .bool o ∧ St wx hs ((c.size : Int) - k) wn ∧ wr (c.size : Int) wn k ((bl c).drop k) = -1 ∧ St wx ht x2 wn2 ∧ (k < m → x2 = m - k ∧ wn2 = wn ∧ o = true) ∧ (k = m → o = decide (last < 128)) ∧ Kept (fun i => w.heap.size ≤ i) w wx) (fun i _ _ _ => m - (intOf i).toNat)
  case atStart => exact ⟨0, true, m, false, false, by omega, rfl, rfl, rfl, by simpa using S5, HR0.out, T5, fun _ => ⟨by simp, rfl, rfl⟩, fun h => by omega, K5.out⟩
  case round =>
    obtain ⟨k, o, x2, wn, wn2, hk, rfl, rfl, rfl, S, hr, T, hon, hend, K⟩ := hrel
    have HS := Lib.hid S
    have HT := Lib.hid T
    have HON := Lib.hid hon
    have HEND := Lib.hid hend
    have HRR := Lib.hid hr
    have K6 := Lib.hid K
    clear S T hon hend hr K K5 S5 T5 HR0
    have hkc : m ≤ c.size := h2
    by_cases hlt : k < m
    · have t5 : (k : Int) < (m : Int) := by omega
      have t6 : (k : Int) < (c.size : Int) := by omega
      have hltc : k < c.size := by omega
      obtain ⟨rfl, rfl, rfl⟩ := HON.out hlt
      have hbb := byte_at c k hltc
      have hrr := HRR.out
      rw [bl_drop c k hltc] at hrr
      have hget := bl_getD c k hltc
      obtain ⟨b, hbe⟩ : ∃ b : Int, ((c[k]'hltc).toNat : Int) = b := ⟨_, rfl⟩
      rw [hbe] at hbb hrr hget
      have HG := Lib.hid hget
      have HBB := Lib.hid hbb
      obtain ⟨b0, b1⟩ := hbb
      have hok := wr_ok (c.size : Int) wn2 k b _ hrr
      have HOK := Lib.hid hok.1
      have HNX := Lib.hid hok.2
      have d0 := HS.out.c0
      have d1 := HS.out.c1
      have f0 := HS.out.fr 0
      have f1 := HS.out.fr 1
      clear hok hrr HON HRR hget
      go_wp2_with fail
      go_region_with ((go_at_call 12; refine (push_ok ((c.size : Int) - k) wn2 b _ (by omega) (by omega) HBB.out HOK.out).mono ?_; rintro e w6 ⟨rfl, K7⟩; have e0 := (HS.out.drew.keep K7 (fun h => h)).c0; have e1 := (HS.out.drew.keep K7 (fun h => h)).c1; have g0 := (HS.out.drew.keep K7 (fun h => h)).fr 0; have g1 := (HS.out.drew.keep K7 (fun h => h)).fr 1))
      all_goals
        have S6 := Lib.hid ((HS.out.drew.keep K7 (fun h => h)).set ((c.size : Int) - k - 1) (decide (127 < b)))
        have T6 := Lib.hid ((HT.out.drew.keep K7 (fun h => h)).keep (Kept.setIn (b := hs) (o := 1) (s := none) (u := .bool (decide (127 < b))) (Kept.setIn (b := hs) (o := 0) (s := none) (u := .int .i64 ((c.size : Int) - k - 1)) (Kept.refl _ w6))) (by omega))
        have K8 := Lib.hid (((kup K6.out.drew K7 (fun i h => h.elim)).setCell (p := ⟨hs, 0, none⟩) hw2 (.int .i64 ((c.size : Int) - k - 1))).setCell (p := ⟨hs, 1, none⟩) hw2 (.bool (decide (127 < b))))
        have c0 := T6.out.c0
        have c1 := T6.out.c1
        have p0 := T6.out.fr 0
        have p1 := T6.out.fr 1
        clear K7 K6 HS HT d0 d1 f0 f1
        generalize (w6.setCell ⟨hs, 0, none⟩ (.int .i64 ((c.size : Int) - k - 1))).setCell ⟨hs, 1, none⟩ (.bool (decide (127 < b))) = w7 at S6 T6 K8 c0 c1 p0 p1
        by_cases hp : (m : Int) - k = 1 ∧ 128 ≤ b
        · have HP : Hid ((wn2 = false ∧ b = 128) ∨ ((m : Int) - k = 1 ∧ 128 ≤ b)) := .inr hp
          have HL : Hid (decide (last < 128) = false) := decide_eq_false (by
            rw [← HLAST.out, show m - 1 = k from by omega, HG.out]
            omega)
          have hkm : k + 1 = m := by omega
          clear hp
          go_wp2_with fail
          go_region_with ((go_at_call 12; refine (push_no ((m : Int) - k) wn2 b _ (by omega) (by omega) HBB.out HP.out).mono ?_; rintro e w8 ⟨rfl, K9⟩; have e0 := (T6.out.drew.keep K9 (fun h => h)).c0; have e1 := (T6.out.drew.keep K9 (fun h => h)).c1; have g0 := (T6.out.drew.keep K9 (fun h => h)).fr 0; have g1 := (T6.out.drew.keep K9 (fun h => h)).fr 1))
          all_goals
            have T8 := Lib.hid ((T6.out.drew.keep K9 (fun h => h)).set 0 false)
            have S8 := Lib.hid ((S6.out.drew.keep K9 (fun h => h)).keep (Kept.setIn (b := ht) (o := 1) (s := none) (u := .bool false) (Kept.setIn (b := ht) (o := 0) (s := none) (u := .int .i64 0) (Kept.refl _ w8))) (by omega))
            have K10 := Lib.hid (((kup K8.out.drew K9 (fun i h => h.elim)).setCell (p := ⟨ht, 0, none⟩) (by show w.heap.size ≤ ht; omega) (.int .i64 0)).setCell (p := ⟨ht, 1, none⟩) (by show w.heap.size ≤ ht; omega) (.bool false))
            clear K9 K8 S6 T6
            go_wp2_with fail
            go_roundw
            case rel => exact ⟨k + 1, false, 0, decide (127 < b), false, by omega, by go_num, rfl, rfl, by rw [show (c.size : Int) - ((k + 1 : Nat) : Int) = (c.size : Int) - k - 1 from by omega]; exact S8.out, HNX.out, T8.out, fun h => by omega, fun _ => HL.out.symm, K10.out⟩
            case measure => simp [intOf]; omega
        · have HP : Hid (¬((wn2 = false ∧ b = 128) ∨ ((m : Int) - k = 1 ∧ 128 ≤ b))) := fun h => by
            rcases h with h | h
            · exact HOK.out (.inl h)
            · exact hp h
          have HL : Hid (k + 1 = m → true = decide (last < 128)) := fun h => (decide_eq_true (by
            rw [← HLAST.out, show m - 1 = k from by omega, HG.out]
            omega)).symm
          clear hp
          go_wp2_with fail
          go_region_with ((go_at_call 12; refine (push_ok ((m : Int) - k) wn2 b _ (by omega) (by omega) HBB.out HP.out).mono ?_; rintro e w8 ⟨rfl, K9⟩; have e0 := (T6.out.drew.keep K9 (fun h => h)).c0; have e1 := (T6.out.drew.keep K9 (fun h => h)).c1; have g0 := (T6.out.drew.keep K9 (fun h => h)).fr 0; have g1 := (T6.out.drew.keep K9 (fun h => h)).fr 1))
          all_goals
            have T8 := Lib.hid ((T6.out.drew.keep K9 (fun h => h)).set ((m : Int) - k - 1) (decide (127 < b)))
            have S8 := Lib.hid ((S6.out.drew.keep K9 (fun h => h)).keep (Kept.setIn (b := ht) (o := 1) (s := none) (u := .bool (decide (127 < b))) (Kept.setIn (b := ht) (o := 0) (s := none) (u := .int .i64 ((m : Int) - k - 1)) (Kept.refl _ w8))) (by omega))
            have K10 := Lib.hid (((kup K8.out.drew K9 (fun i h => h.elim)).setCell (p := ⟨ht, 0, none⟩) (by show w.heap.size ≤ ht; omega) (.int .i64 ((m : Int) - k - 1))).setCell (p := ⟨ht, 1, none⟩) (by show w.heap.size ≤ ht; omega) (.bool (decide (127 < b))))
            clear K9 K8 S6 T6
            go_wp2_with fail
            go_roundw
            case rel => exact ⟨k + 1, true, (m : Int) - k - 1, decide (127 < b), decide (127 < b), by omega, by go_num, rfl, rfl, by rw [show (c.size : Int) - ((k + 1 : Nat) : Int) = (c.size : Int) - k - 1 from by omega]; exact S8.out, HNX.out, T8.out, fun h => ⟨by omega, rfl, rfl⟩, fun h => HL.out h, K10.out⟩
            case measure => simp [intOf]; omega
    · obtain rfl : k = m := by omega
      have t5 : ¬(k : Int) < (k : Int) := by omega
      have ho := HEND.out rfl
      subst ho
      have hk1 : k - 1 < c.size := by omega
      have hg := bl_getD c (k - 1) hk1
      rw [HLAST.out] at hg
      have hge : (((c[k - 1]'hk1).toNat : Nat) : Int) = last := hg.symm
      clear hg
      have t6 : (k : Int) - 1 < (c.size : Int) := by omega
      have t7 : (0 : Int) ≤ (k : Int) - 1 := by omega
      have t8 : ((k : Int) - 1).toNat = k - 1 := by omega
      go_wp2_with fail
      go_ret
      exact ⟨by first | rfl | (simp; done), Kept.below (Below.refl _ w) K6.out (fun i h => h)⟩
theorem walk (c : ByteArray) (n : Int) (w : World) (h2 : c.size ≤ 140737488351232) : Calls Try.prog 8 #[.string c, .int .i64 n] w fun e w' => e = .returned (.bool true) ∧ Below w.heap.size w w' := by
  by_cases h : 300 < c.size ∨ wrongS (c.size : Int) c ≠ -1 ∨ n < 1 ∨ (c.size : Int) < n
  · exact walk_out n c w h h2
  · obtain ⟨m, rfl⟩ : ∃ m : Nat, n = m := ⟨n.toNat, by omega⟩
    have hr : wrongS (c.size : Int) c = -1 := by
      by_cases hr : wrongS (c.size : Int) c = -1
      · exact hr
      · exact absurd (.inr (.inl hr)) h
    exact walk_within m c w (by omega) (by omega) (by omega) hr
end Go.Proofs.Ytgloehelfdmmaaa.Oid.LawFront
