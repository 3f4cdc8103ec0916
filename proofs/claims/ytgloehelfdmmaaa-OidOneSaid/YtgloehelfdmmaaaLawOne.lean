/- For every content: arcs that Get reads are put as the same content. The walk. No condition beyond the kinds and the reach. -/
import Derived.Test.YtgloehelfdmmaaaLawc
namespace Go.Proofs.Ytgloehelfdmmaaa.Oid.LawOne
set_option linter.unusedVariables false
open Go.RowKit

theorem walk_out (c : ByteArray) (w : World) (h : 300 < c.size) (h2 : c.size ≤ 140737488351232) : Calls Try.prog 6 #[.string c] w fun e w' => e = .returned (.bool true) ∧ Below w.heap.size w w' := by
  have h' : (300 : Int) < (c.size : Int) := by omega
  go_enter Try.func6, Try.ntmps6
  go_wp2_with fail
  refine (awake_c w).mono ?_
  rintro e w1 ⟨rfl, B1⟩
  go_wp2_with fail
  refine (awake_c w1).mono ?_
  rintro e w2 ⟨rfl, B2⟩
  go_wp2_with fail
  go_ret
  exact ⟨rfl, step B1 B2⟩
set_option maxHeartbeats 1000000 in
theorem walk_within (c : ByteArray) (w : World) (h : c.size ≤ 300) : Calls Try.prog 6 #[.string c] w fun e w' => e = .returned (.bool true) ∧ Below w.heap.size w w' := by
  have h' : ¬(300 : Int) < (c.size : Int) := by omega
  have HGP := Lib.hid (get_put (bl c) · (bl_byte c))
  obtain ⟨R, hR⟩ : ∃ R, R = getS (bl c) := ⟨_, rfl⟩
  have HR := Lib.hid hR
  have GA := Lib.hid (fun w => get_any c (by omega) w)
  rw [← hR] at GA HGP
  clear hR
  go_enter Try.func6, Try.ntmps6
  go_wp2_with fail
  refine (awake_c w).mono ?_
  rintro e w1 ⟨rfl, B1⟩
  have K1 := Lib.hid (Kept.of_below B1 (fun i => w.heap.size ≤ i))
  have hw1 := B1.size
  clear B1
  cases R with
  | none =>
    go_wp2_with fail
    refine (GA.out w1).mono ?_
    rintro e w2 ⟨rfl, K2⟩
    have K3 := Lib.hid (K1.out.trans (K2.mono (fun i hi => by omega)))
    clear K2
    go_wp2_with fail
    go_ret
    exact ⟨rfl, Kept.below (Below.refl _ w) K3.out (fun i h => h)⟩
  | some l =>
    obtain ⟨hp, hl2, hs⟩ := HGP.out l rfl
    have hll : l.length ≤ 301 := by
      have := put_len l _ hp
      rw [bl_length] at this
      omega
    go_wp2_with fail
    refine (GA.out w1).mono ?_
    rintro e w2 ⟨⟨v, rfl, B⟩, K2⟩
    obtain ⟨A, cap, rfl, HA⟩ := B.arcs hs
    have K3 := Lib.hid (K1.out.trans (K2.mono (fun i hi => by omega)))
    have hw2 : w.heap.size ≤ w2.heap.size := K3.out.size
    have P := put_c A l cap w2 HA (by omega)
    rw [hp] at P
    have HP := Lib.hid P
    have t2 : (2 : Int) ≤ (l.length : Int) := by omega
    clear K2 B hs hp P
    go_wp2_with fail
    refine HP.out.mono ?_
    rintro e w3 ⟨rfl, K4⟩
    have K5 := Lib.hid (K3.out.trans (K4.mono (fun i hi => by omega)))
    rw [strOfNums_bl]
    clear K4
    go_wp2_with fail
    go_ret
    exact ⟨by first | rfl | (simp; done) | (simp; omega), Kept.below (Below.refl _ w) K5.out (fun i h => h)⟩
theorem walk (c : ByteArray) (w : World) (h2 : c.size ≤ 140737488351232) : Calls Try.prog 6 #[.string c] w fun e w' => e = .returned (.bool true) ∧ Below w.heap.size w w' := by
  by_cases h : 300 < c.size
  · exact walk_out c w h h2
  · exact walk_within c w (by omega)
end Go.Proofs.Ytgloehelfdmmaaa.Oid.LawOne
