/- Of an element of n bytes, in whatever parts they come, alone or within others, just n come till it can be left: the walk of StackSums. No condition beyond the kinds and the reach. -/
import Derived.Test.YtejhgoihjmlmnaaNested
namespace Go.Proofs.Ytejhgoihjmlmnaa.Sums
open Go.RowKit Go.Proofs.Ytejhgoihjmlmnaa.Obj Go.Proofs.Ytejhgoihjmlmnaa.Depth Go.Proofs.Ytejhgoihjmlmnaa.Nested
set_option linter.unusedVariables false

/-- What is known of a slice of whole numbers that came in. -/
def Ints (w : World) (a : Option Addr) (len : Nat) (zs : List Int) : Prop :=
  len = 0 ∨ ∃ b off, a = some ⟨b, off, none⟩ ∧ b < w.heap.size ∧ ∀ i, i < len → w.cell? ⟨b, off + i, none⟩ = some (.int .i64 (zs.getD i 0)) ∧ -9223372036854775808 ≤ zs.getD i 0 ∧ zs.getD i 0 ≤ 9223372036854775807

theorem lt_cell {w : World} {b o : Nat} {v : Value} (h : w.cell? ⟨b, o, none⟩ = some v) : b < w.heap.size := by
  unfold World.cell? at h
  by_cases hb : b < w.heap.size
  · exact hb
  · rw [Array.getElem?_eq_none (by simpa using hb)] at h
    simp at h

set_option maxHeartbeats 400000 in
theorem walk_out (n : Int) (a : Option Addr) (len cap : Nat) (w : World) (hl : len ≤ 9223372036854775807) (h : n < 0 ∨ 2000 < n ∨ 300 < len) :
    Calls Try.prog 3 #[.int .i64 n, .slice a len cap] w fun e w' => e = .returned (.bool true) ∧ Below w.heap.size w w' := by
  have four : n < 0 ∨ (¬n < 0 ∧ 2000 < n) ∨ (¬n < 0 ∧ ¬2000 < n ∧ (300 : Int) < (len : Int)) := by omega
  clear h
  rcases four with h | ⟨h0, h⟩ | ⟨h0, h1, h⟩
  all_goals
    go_enter Try.func3, Try.ntmps3
    go_wp2_with fail
    refine (new_c 2 _).mono ?_
    rintro e w1 ⟨rfl, S1, K1⟩
    have B1 := Lib.hid (Kept.below (Below.refl _ w) K1 (fun _ h => h.elim))
    clear S1 K1
    generalize hb : w.heap.size = b
    go_wp2_with fail
    refine (awake_c _).mono ?_
    rintro e w2 ⟨rfl, hb2⟩
    go_wp2_with fail
    refine (awake_c _).mono ?_
    rintro e w3 ⟨rfl, hb3⟩
    go_wp2_with fail
    go_ret
    subst hb
    exact ⟨rfl, Nested.step (Nested.step B1.out hb2) hb3⟩

/-- Take, whichever way. -/
theorem take_two (b : Nat) (f : Nat → Int) (w : World) (h : Stk w b f 1 2) (h0 : 0 < f 0) :
    Calls Try.prog 11 #[.pointer (some ⟨b, 0, none⟩)] w fun e w' => e = .returned (.int .i64 0) ∧ (∃ f', Stk w' b f' 1 2 ∧ f' 0 = f 0 - 1) ∧ Kept (· = b) w w' :=
  (take_some b 0 2 f w h h0).mono fun e w' ⟨he, S, K⟩ => ⟨he, ⟨_, S, by simp [upd]⟩, K⟩
def One (w : World) (b : Nat) (v : Int) : Prop := ∃ f, Stk w b f 1 2 ∧ f 0 = v
def Two (w : World) (b : Nat) (u v : Int) : Prop := ∃ f, Stk w b f 2 2 ∧ f 0 = u ∧ f 1 = v
theorem one_take (b : Nat) (v : Int) (w : World) (h : One w b v) (h0 : 0 < v) :
    Calls Try.prog 11 #[.pointer (some ⟨b, 0, none⟩)] w fun e w' => e = .returned (.int .i64 0) ∧ One w' b (v - 1) ∧ Kept (· = b) w w' := by
  obtain ⟨f, S, rfl⟩ := h
  exact (take_some b 0 2 f w S h0).mono fun e w' ⟨he, S, K⟩ => ⟨he, ⟨_, S, by simp [upd]⟩, K⟩
theorem one_over (b : Nat) (w : World) (h : One w b 0) :
    Calls Try.prog 11 #[.pointer (some ⟨b, 0, none⟩)] w fun e w' => e = .returned (.int .i64 5) ∧ One w' b 0 ∧ Kept (· = b) w w' := by
  obtain ⟨f, S, h0⟩ := h
  exact (take_over b 0 2 f w S h0).mono fun e w' ⟨he, S, K⟩ => ⟨he, ⟨_, S, h0⟩, K⟩
theorem one_great (b : Nat) (v p : Int) (w : World) (h : One w b v) (h0 : 0 ≤ p) (h1 : v < p) :
    Calls Try.prog 10 #[.pointer (some ⟨b, 0, none⟩), .int .i64 p] w fun e w' => e = .returned (.int .i64 5) ∧ One w' b v ∧ Kept (· = b) w w' := by
  obtain ⟨f, S, rfl⟩ := h
  exact (enter_great b 0 2 f p w S h0 h1).mono fun e w' ⟨he, S, K⟩ => ⟨he, ⟨_, S, rfl⟩, K⟩
theorem one_enter (b : Nat) (v p : Int) (w : World) (h : One w b v) (h0 : 0 ≤ p) (h1 : p ≤ v) :
    Calls Try.prog 10 #[.pointer (some ⟨b, 0, none⟩), .int .i64 p] w fun e w' => e = .returned (.int .i64 0) ∧ Two w' b (v - p) p ∧ Kept (· = b) w w' := by
  obtain ⟨f, S, rfl⟩ := h
  exact (enter_deep b 0 2 f p w S h0 h1 (by omega)).mono fun e w' ⟨he, S, K⟩ => ⟨he, ⟨_, S, by simp [upd], by simp [upd]⟩, K⟩
theorem two_take (b : Nat) (u v : Int) (w : World) (h : Two w b u v) (h0 : 0 < v) :
    Calls Try.prog 11 #[.pointer (some ⟨b, 0, none⟩)] w fun e w' => e = .returned (.int .i64 0) ∧ Two w' b u (v - 1) ∧ Kept (· = b) w w' := by
  obtain ⟨f, S, rfl, rfl⟩ := h
  exact (take_some b 1 2 f w S h0).mono fun e w' ⟨he, S, K⟩ => ⟨he, ⟨_, S, by simp [upd], by simp [upd]⟩, K⟩
theorem two_over (b : Nat) (u : Int) (w : World) (h : Two w b u 0) :
    Calls Try.prog 11 #[.pointer (some ⟨b, 0, none⟩)] w fun e w' => e = .returned (.int .i64 5) ∧ Two w' b u 0 ∧ Kept (· = b) w w' := by
  obtain ⟨f, S, h0, h1⟩ := h
  exact (take_over b 1 2 f w S h1).mono fun e w' ⟨he, S, K⟩ => ⟨he, ⟨_, S, h0, h1⟩, K⟩
theorem two_leave (b : Nat) (u : Int) (w : World) (h : Two w b u 0) :
    Calls Try.prog 12 #[.pointer (some ⟨b, 0, none⟩)] w fun e w' => e = .returned (.bool true) ∧ One w' b u ∧ Kept (· = b) w w' := by
  obtain ⟨f, S, h0, h1⟩ := h
  exact (leave_yes b 1 2 f w S h1).mono fun e w' ⟨he, S, K⟩ => ⟨he, ⟨_, S, h0⟩, K⟩
theorem one_left (b : Nat) (v : Int) (w : World) (h : One w b v) :
    Calls Try.prog 13 #[.pointer (some ⟨b, 0, none⟩)] w fun e w' => e = .returned (.int .i64 v) ∧ One w' b v ∧ Kept (· = b) w w' := by
  obtain ⟨f, S, rfl⟩ := h
  exact (left_some b 0 2 f w S).mono fun e w' ⟨he, S, K⟩ => ⟨he, ⟨_, S, rfl⟩, K⟩
theorem one_depth (b : Nat) (v : Int) (w : World) (h : One w b v) :
    Calls Try.prog 14 #[.pointer (some ⟨b, 0, none⟩)] w fun e w' => e = .returned (.int .i64 1) ∧ w = w' := by
  obtain ⟨f, S, rfl⟩ := h
  exact depth_c b 1 2 f w S
theorem one_leave (b : Nat) (w : World) (h : One w b 0) :
    Calls Try.prog 12 #[.pointer (some ⟨b, 0, none⟩)] w fun e w' => e = .returned (.bool true) ∧ Kept (· = b) w w' := by
  obtain ⟨f, S, h0⟩ := h
  exact (leave_yes b 0 2 f w S h0).mono fun e w' ⟨he, S, K⟩ => ⟨he, K⟩
theorem one_stay (b : Nat) (v : Int) (w : World) (h : One w b v) (h0 : 0 < v) :
    Calls Try.prog 12 #[.pointer (some ⟨b, 0, none⟩)] w fun e w' => e = .returned (.bool false) ∧ Kept (· = b) w w' := by
  obtain ⟨f, S, rfl⟩ := h
  exact (leave_no b 0 2 f w S h0).mono fun e w' ⟨he, S, K⟩ => ⟨he, K⟩

set_option maxHeartbeats 4000000 in
theorem walk_within (n : Nat) (a : Option Addr) (len cap : Nat) (zs : List Int) (w : World) (hn : n ≤ 2000) (hl : len ≤ 300) (hA : Ints w a len zs) :
    Calls Try.prog 3 #[.int .i64 n, .slice a len cap] w fun e w' => e = .returned (.bool true) ∧ Below w.heap.size w w' := by
  have a0 : ¬(n : Int) < 0 := by omega
  have a1 : ¬(2000 : Int) < n := by omega
  have a2 : ¬(300 : Int) < (len : Int) := by omega
  rcases hA with h0 | ⟨ab, off, rfl, hab, hc⟩
  all_goals
    go_enter Try.func3, Try.ntmps3
    go_wp2_with fail
    refine (new_c 2 _).mono ?_
    rintro e w1 ⟨rfl, S1, K1⟩
    rw [show clamp 2 = 2 from by decide] at S1
    generalize hb : w.heap.size = b at S1 ⊢
    have HB := Lib.hid hb
    clear hb
    have B1 := Lib.hid (K1.mono (T := (· = b)) (fun _ h => h.elim))
    clear K1
    go_wp2_with fail
    refine (awake_c _).mono ?_
    rintro e w2 ⟨rfl, hb2⟩
    have S2 := S1.keep (Kept.of_below hb2 (fun _ => False)) (fun h => h)
    have B2 := Lib.hid (B1.out.trans (Kept.of_below hb2 _))
    clear S1 B1 hb2
    go_wp2_with fail
    refine (enter_first b 2 _ n _ S2 (by omega) (by omega) (by omega)).mono ?_
    rintro e w3 ⟨rfl, S3, K3⟩
    have B3 := Lib.hid (B2.out.trans K3)
    have S4 : One w3 b n := ⟨_, S3, by simp [upd]⟩
    clear S3 K3 B2 S2
    go_wp2_with fail
    go_loopw [6, 35] (fun c i wr => ∃ (k m : Nat), k ≤ len ∧ m ≤ n ∧ i = .int .i64 k ∧ c = .int .i64 m ∧ One wr b ((n : Int) - m) ∧ Kept (· = b) w wr) (fun _ i _ => len - (intOf i).toNat)
    case atStart => exact ⟨0, 0, Nat.zero_le _, Nat.zero_le _, rfl, rfl, by simpa using S4, B3.out⟩
    case round =>
      obtain ⟨k, m, hk, hm, rfl, rfl, S, K⟩ := hrel
      have K0 := Lib.hid K
      clear K
      by_cases hlt : k < len
      · first
        | (exfalso; omega)
        | (obtain ⟨hcell, hz0, hz1⟩ := hc k hlt
           have hcr : wr.cell? ⟨ab, off + k, none⟩ = some (.int .i64 (zs.getD k 0)) := (World.cell?_of_block (w := w) (K0.out.block ab hab (by have := HB.out; omega))).trans hcell
           clear hcell
           obtain ⟨p, hp⟩ : ∃ p, p = zs.getD k 0 := ⟨_, rfl⟩
           rw [← hp] at hcr hz0 hz1
           clear hp
           have t1 : (k : Int) < (len : Int) := by omega
           by_cases hneg : p < 0
           · by_cases hmn : m < n
             · go_wp2_with fail
               refine (one_take b _ _ S (by omega)).mono ?_
               rintro e w5 ⟨rfl, S5, K5⟩
               have K6 := Lib.hid (K0.out.trans K5)
               clear K5
               go_wp2_with fail
               go_roundw
               case rel => exact ⟨k + 1, m + 1, by omega, by omega, by go_num, by go_num, by rw [show (n : Int) - ((m + 1 : Nat) : Int) = n - m - 1 from by omega]; exact S5, K6.out⟩
               case measure => simp [intOf]; omega
             · obtain rfl : m = n := by omega
               rw [Int.sub_self] at S
               go_wp2_with fail
               refine (one_over b _ S).mono ?_
               rintro e w5 ⟨rfl, S5, K5⟩
               have K6 := Lib.hid (K0.out.trans K5)
               clear K5
               go_wp2_with fail
               go_roundw
               case rel => exact ⟨k + 1, m, by omega, by omega, by go_num, rfl, by rw [Int.sub_self]; exact S5, K6.out⟩
               case measure => simp [intOf]; omega
           · by_cases hgr : (n : Int) - m < p
             · go_wp2_with fail
               refine (one_great b _ p _ S (by omega) hgr).mono ?_
               rintro e w5 ⟨rfl, S5, K5⟩
               have K6 := Lib.hid (K0.out.trans K5)
               clear K5
               go_wp2_with fail
               go_roundw
               case rel => exact ⟨k + 1, m, by omega, by omega, by go_num, rfl, S5, K6.out⟩
               case measure => simp [intOf]; omega
             · obtain ⟨q, rfl⟩ : ∃ q : Nat, p = q := ⟨p.toNat, by omega⟩
               go_wp2_with fail
               refine (one_enter b _ q _ S (by omega) (by omega)).mono ?_
               rintro e w5 ⟨rfl, S5, K5⟩
               have K6 := Lib.hid (K0.out.trans K5)
               clear K5
               go_wp2_with fail
               obtain ⟨wo, hwo⟩ : ∃ wo : World, wo = wr := ⟨wr, rfl⟩
               go_loopw [6, 56] (fun c i wr => ∃ j : Nat, j ≤ q ∧ i = .int .i64 j ∧ c = .int .i64 ((m : Int) + j) ∧ Two wr b ((n : Int) - m - q) ((q : Int) - j) ∧ Kept (· = b) w wr) (fun _ i _ => q - (intOf i).toNat)
               case atStart => exact ⟨0, Nat.zero_le _, rfl, by simp, by simpa using S5, K6.out⟩
               case round =>
                 obtain ⟨j, hj, rfl, rfl, S, K⟩ := hrel
                 have K7 := Lib.hid K
                 clear K
                 by_cases hjt : j < q
                 · have t2 : (j : Int) < (q : Int) := by omega
                   go_wp2_with fail
                   refine (two_take b _ _ _ S (by omega)).mono ?_
                   rintro e w8 ⟨rfl, S8, K8⟩
                   have K9 := Lib.hid (K7.out.trans K8)
                   clear K8
                   go_wp2_with fail
                   go_roundw
                   case rel => exact ⟨j + 1, by omega, by go_num, by go_num, by rw [show (q : Int) - ((j + 1 : Nat) : Int) = q - j - 1 from by omega]; exact S8, K9.out⟩
                   case measure => simp [intOf]; omega
                 · obtain rfl : j = q := by omega
                   rw [Int.sub_self] at S
                   have t2 : ¬(j : Int) < (j : Int) := by omega
                   go_wp2_with fail
                   refine (two_over b _ _ S).mono ?_
                   rintro e w8 ⟨rfl, S8, K8⟩
                   have K9 := Lib.hid (K7.out.trans K8)
                   clear K8
                   go_wp2_with fail
                   refine (two_leave b _ _ S8).mono ?_
                   rintro e w9 ⟨rfl, S9, K10⟩
                   have K11 := Lib.hid (K9.out.trans K10)
                   clear K10
                   go_wp2_with fail
                   go_roundw
                   case rel => exact ⟨k + 1, m + j, by omega, by omega, by go_num, by go_num, by rw [show (n : Int) - ((m + j : Nat) : Int) = n - m - j from by omega]; exact S9, K11.out⟩
                   case measure => simp [intOf]; omega)
      · obtain rfl : k = len := by omega
        have t1 : ¬(k : Int) < (k : Int) := by omega
        go_wp2_with fail
        refine (one_left b _ _ S).mono ?_
        rintro e w5 ⟨rfl, S5, K5⟩
        go_wp2_with fail
        refine (one_depth b _ _ S5).mono ?_
        rintro e w6 ⟨rfl, rfl⟩
        by_cases hmn : m < n
        · have t3 : ((m : Int) == (n : Int)) = false := by simp; omega
          have t4 : (m : Int) ≤ n := by omega
          go_wp2_with fail
          refine (one_stay b _ _ S5 (by omega)).mono ?_
          rintro e w7 ⟨rfl, K7⟩
          go_wp2_with fail
          go_ret
          exact ⟨by first | rfl | (simp; done) | (simp; omega), Kept.below (Below.refl _ w) ((K0.out.trans K5).trans K7) (fun i hi => by have := HB.out; omega)⟩
        · obtain rfl : m = n := by omega
          rw [Int.sub_self] at S5
          go_wp2_with fail
          refine (one_leave b _ S5).mono ?_
          rintro e w7 ⟨rfl, K7⟩
          go_wp2_with fail
          go_ret
          exact ⟨by first | rfl | (simp; done) | (simp; omega), Kept.below (Below.refl _ w) ((K0.out.trans K5).trans K7) (fun i hi => by have := HB.out; omega)⟩

theorem walk (n : Int) (a : Option Addr) (len cap : Nat) (zs : List Int) (w : World) (hl : len ≤ 9223372036854775807) (hA : Ints w a len zs) :
    Calls Try.prog 3 #[.int .i64 n, .slice a len cap] w fun e w' => e = .returned (.bool true) ∧ Below w.heap.size w w' := by
  by_cases h : n < 0 ∨ 2000 < n ∨ 300 < len
  · exact walk_out n a len cap w hl h
  · obtain ⟨m, rfl⟩ : ∃ m : Nat, n = m := ⟨n.toNat, by omega⟩
    exact walk_within m a len cap zs w (by omega) (by omega) hA
end Go.Proofs.Ytejhgoihjmlmnaa.Sums
