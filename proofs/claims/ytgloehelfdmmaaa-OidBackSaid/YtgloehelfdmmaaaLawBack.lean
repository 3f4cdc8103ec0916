/- For every list of arcs: what Put prints Get reads again, and Wrong finds no fault in it. The walk. No condition beyond the kinds and the reach. -/
import Derived.Test.YtgloehelfdmmaaaWrong
namespace Go.Proofs.Ytgloehelfdmmaaa.Oid.LawBack
set_option linter.unusedVariables false
open Go.RowKit

theorem walk_out (A : Option Addr) (cap : Nat) (l : List Nat) (w : World) (h : 100 < l.length) (h2 : l.length ≤ 9223372036854775807) : Calls Try.prog 5 #[.slice A l.length cap] w fun e w' => e = .returned (.bool true) ∧ Below w.heap.size w w' := by
  have h' : (100 : Int) < (l.length : Int) := by omega
  go_enter Try.func5, Try.ntmps5
  go_wp2_with fail
  refine (awake_c w).mono ?_
  rintro e w1 ⟨rfl, B1⟩
  go_wp2_with fail
  refine (awake_c w1).mono ?_
  rintro e w2 ⟨rfl, B2⟩
  go_wp2_with fail
  go_ret
  exact ⟨rfl, step B1 B2⟩
theorem wrong_none (x : List Int) (hx : ∀ b ∈ x, Byte b) (hr : right false x = true) (hne : x ≠ []) : wrongS ((strOfNums x).size : Int) (strOfNums x) = -1 := by
  have hs : (strOfNums x).size = x.length := strOfNums_size x
  have hl : 0 < x.length := List.length_pos_iff.2 hne
  unfold wrongS
  rw [if_neg (by omega), bl_strOfNums x hx, hs]
  have := (wr_right x false 0 hne).2 hr
  rw [Nat.zero_add] at this
  exact this
set_option maxHeartbeats 1000000 in
theorem walk_within (A : Option Addr) (cap : Nat) (l : List Nat) (w : World) (hl : l.length ≤ 100) (G : Arcs w A l cap) : Calls Try.prog 5 #[.slice A l.length cap] w fun e w' => e = .returned (.bool true) ∧ Below w.heap.size w w' := by
  have h' : ¬(100 : Int) < (l.length : Int) := by omega
  go_enter Try.func5, Try.ntmps5
  go_wp2_with fail
  refine (awake_c w).mono ?_
  rintro e w1 ⟨rfl, B1⟩
  have G1 := G.keep (Kept.of_below B1 (fun _ => False)) (fun i h => h.elim)
  have K1 := Lib.hid (Kept.of_below B1 (fun i => w.heap.size ≤ i))
  have hw1 := B1.size
  clear B1 G
  go_wp2_with (at_builtin; refine wpList_copy rfl (.tmp 16) (.tmp 17) rfl A cap l w1 G1 (by omega) rfl rfl ?_)
  intro v2 w2 N2 n2 K2
  have K3 := Lib.hid (K1.out.trans (K2.mono (fun i hi => by omega)))
  have G2 := G1.keep K2 (fun i hi => hi)
  have hw2 : w.heap.size ≤ w2.heap.size := K3.out.size
  obtain ⟨A2, cap2, rfl, HA2⟩ := N2.arcs G1.small
  have P := put_c A2 l cap2 w2 HA2 (by omega)
  have HS := Lib.hid G1.small
  clear K2 N2 n2 HA2 G1 K1
  obtain ⟨R, hR⟩ : ∃ R, R = putS l := ⟨_, rfl⟩
  rw [← hR] at P
  have HR := Lib.hid hR
  clear hR
  cases R with
  | none =>
    have HP := Lib.hid P
    clear P
    go_wp2_with fail
    refine HP.out.mono ?_
    rintro e w3 ⟨rfl, K4⟩
    have K5 := Lib.hid (K3.out.trans (K4.mono (fun i hi => by omega)))
    clear K4
    go_wp2_with fail
    go_ret
    exact ⟨by first | rfl | (simp; done), Kept.below (Below.refl _ w) K5.out (fun i h => h)⟩
  | some x =>
    obtain ⟨hg, hr, hne⟩ := put_get l x HS.out HR.out.symm
    have hby := put_byte l x HR.out.symm
    have hx : x.length ≤ 1000 := by
      have := put_most l x HS.out HR.out.symm
      omega
    have hsz := strOfNums_size x
    have hwr := wrong_none x hby hr hne
    have GA := fun w => get_any (strOfNums x) (by omega) w
    rw [bl_strOfNums x hby, hg] at GA
    have WR := fun w => wrong_c ((strOfNums x).size : Int) (strOfNums x) w (by omega) (by omega)
    rw [hwr] at WR
    have P2 : Hid (Calls Try.prog 13 #[.slice A2 l.length cap2] w2 fun e w' => e = .returned (.tuple #[.string (strOfNums x), .bool true]) ∧ Kept (fun i => w2.heap.size ≤ i) w2 w') := P
    have HGA := Lib.hid GA
    have HWR := Lib.hid WR
    clear P GA WR hwr hg hr hby
    obtain ⟨X, hX⟩ : ∃ X, X = strOfNums x := ⟨_, rfl⟩
    rw [← hX] at P2 HGA HWR hsz
    clear hX hne hsz
    go_wp2_with fail
    refine P2.out.mono ?_
    rintro e w3 ⟨rfl, K4⟩
    have K5 := Lib.hid (K3.out.trans (K4.mono (fun i hi => by omega)))
    have G3 := G2.keep K4 (fun i hi => hi)
    have hw3 : w.heap.size ≤ w3.heap.size := K5.out.size
    clear K4 G2 K3
    go_wp2_with fail
    refine (HGA.out w3).mono ?_
    rintro e w4 ⟨⟨v, rfl, B⟩, K4⟩
    obtain ⟨A4, cap4, rfl, HA4⟩ := B.arcs HS.out
    have K6 := Lib.hid (K5.out.trans (K4.mono (fun i hi => by omega)))
    have G4 := G3.keep K4 (fun i hi => hi)
    have C := same_c A4 A l l cap4 cap w4 HA4 G4 (by omega) (by omega)
    rw [decide_eq_true rfl] at C
    have HC := Lib.hid C
    clear K4 G3 K5 B HA4 G4 C
    go_wp2_with fail
    refine HC.out.mono ?_
    rintro e w5 ⟨rfl, m, rfl⟩
    go_wp2_with fail
    refine (HWR.out _).mono ?_
    rintro e w5 ⟨rfl, rfl⟩
    go_wp2_with fail
    go_ret
    exact ⟨by first | rfl | (simp; done), Kept.below (Below.refl _ w) (K6.out.drewN _) (fun i h => h)⟩
theorem walk (A : Option Addr) (cap : Nat) (l : List Nat) (w : World) (h2 : l.length ≤ 9223372036854775807) (G : Arcs w A l cap) : Calls Try.prog 5 #[.slice A l.length cap] w fun e w' => e = .returned (.bool true) ∧ Below w.heap.size w w' := by
  by_cases h : 100 < l.length
  · exact walk_out A cap l w h h2
  · exact walk_within A cap l w (by omega) G
end Go.Proofs.Ytgloehelfdmmaaa.Oid.LawBack
