/- For every list of arcs and every content: Put and Get answer as the document's do. The walk. No condition beyond the kinds and the reach. -/
import Derived.Test.YtgloehelfdmmaaaRput
import Derived.Test.YtgloehelfdmmaaaRget
namespace Go.Proofs.Ytgloehelfdmmaaa.Oid.LawPuts
set_option linter.unusedVariables false
open Go.RowKit

theorem walk_out (A : Option Addr) (cap : Nat) (l : List Nat) (c : ByteArray) (w : World) (h : 100 < l.length ∨ 300 < c.size) (h2 : l.length ≤ 9223372036854775807) (h3 : c.size ≤ 140737488351232) : Calls Try.prog 4 #[.slice A l.length cap, .string c] w fun e w' => e = .returned (.bool true) ∧ Below w.heap.size w w' := by
  have two : (100 : Int) < (l.length : Int) ∨ (¬(100 : Int) < (l.length : Int) ∧ (300 : Int) < (c.size : Int)) := by omega
  clear h
  rcases two with h | ⟨h, h4⟩
  all_goals
    go_enter Try.func4, Try.ntmps4
    go_wp2_with fail
    refine (awake_c w).mono ?_
    rintro e w1 ⟨rfl, B1⟩
    go_wp2_with fail
    refine (awake_c w1).mono ?_
    rintro e w2 ⟨rfl, B2⟩
    go_wp2_with fail
    go_ret
    exact ⟨rfl, step B1 B2⟩
def putText : Option (List Int) → ByteArray
  | some b => strOfNums b
  | none => ⟨#[]⟩
theorem put_form {R : Option (List Int)} {w : World} {e : Ending} {w' : World} (h : PutPost R w e w') : e = .returned (.tuple #[.string (putText R), .bool R.isSome]) ∧ Kept (fun i => w.heap.size ≤ i) w w' := by
  cases R with
  | none => exact h
  | some b => exact h
theorem get_form {R : Option (List Nat)} {w : World} {e : Ending} {w' : World} (h : GetPost R w e w') : ∃ v, e = .returned (.tuple #[v, .bool R.isSome]) ∧ Ns w' w.heap.size v (R.getD []) ∧ Kept (fun i => w.heap.size ≤ i) w w' := by
  cases R with
  | none => exact ⟨_, h.1, Ns.none_ _ _, h.2⟩
  | some l => exact ⟨_, h.1.choose_spec.1, h.1.choose_spec.2, h.2⟩
set_option maxHeartbeats 1000000 in
theorem walk_within (A : Option Addr) (cap : Nat) (l : List Nat) (c : ByteArray) (w : World) (hl : l.length ≤ 100) (hc : c.size ≤ 300) (G : Arcs w A l cap) : Calls Try.prog 4 #[.slice A l.length cap, .string c] w fun e w' => e = .returned (.bool true) ∧ Below w.heap.size w w' := by
  have h' : ¬(100 : Int) < (l.length : Int) := by omega
  have h4 : ¬(300 : Int) < (c.size : Int) := by omega
  have HGP := Lib.hid (get_put (bl c) · (bl_byte c))
  have GA := Lib.hid (fun w => get_any c (by omega) w)
  have RA := Lib.hid (fun w => rget_c c (by omega) w)
  obtain ⟨R2, hR2⟩ : ∃ R2, R2 = getS (bl c) := ⟨_, rfl⟩
  rw [← hR2] at GA RA HGP
  have HS2 : Hid (∀ n ∈ R2.getD [], n < 18446744073709551616) := by
    show ∀ n ∈ R2.getD [], n < 18446744073709551616
    cases hr : R2 with
    | none => simp
    | some l => exact (HGP.out l hr).2.2
  have HL2 : Hid ((R2.getD []).length ≤ 301) := by
    show (R2.getD []).length ≤ 301
    cases hr : R2 with
    | none => simp
    | some l =>
      have := put_len l _ (HGP.out l hr).1
      rw [bl_length] at this
      simp
      omega
  clear hR2 HGP
  go_enter Try.func4, Try.ntmps4
  go_wp2_with fail
  refine (awake_c w).mono ?_
  rintro e w1 ⟨rfl, B1⟩
  have G1 := G.keep (Kept.of_below B1 (fun _ => False)) (fun i h => h.elim)
  have K1 := Lib.hid (Kept.of_below B1 (fun i => w.heap.size ≤ i))
  have hw1 := B1.size
  clear B1 G
  go_wp2_with (at_builtin; refine wpList_copy rfl (.tmp 27) (.tmp 28) rfl A cap l w1 G1 (by omega) rfl rfl ?_)
  intro v2 w2 N2 n2 K2
  have K3 := Lib.hid (K1.out.trans (K2.mono (fun i hi => by omega)))
  have G2 := G1.keep K2 (fun i hi => hi)
  have hw2 : w.heap.size ≤ w2.heap.size := K3.out.size
  obtain ⟨A2, cap2, rfl, HA2⟩ := N2.arcs G1.small
  have P := put_c A2 l cap2 w2 HA2 (by omega)
  obtain ⟨R, hR⟩ : ∃ R, R = putS l := ⟨_, rfl⟩
  rw [← hR] at P
  have HR := Lib.hid hR
  have HP := Lib.hid (P.mono fun e w' h => put_form h)
  obtain ⟨bs, hbs⟩ : ∃ bs : ByteArray, bs = (putText R) := ⟨_, rfl⟩
  rw [← hbs] at HP
  have HBS := Lib.hid hbs
  clear K2 N2 n2 HA2 G1 K1 P hR hbs
  go_wp2_with fail
  refine HP.out.mono ?_
  rintro e w3 ⟨rfl, K4⟩
  have K5 := Lib.hid (K3.out.trans (K4.mono (fun i hi => by omega)))
  have G3 := G2.keep K4 (fun i hi => hi)
  have hw3 : w.heap.size ≤ w3.heap.size := K5.out.size
  have P := rput_c A l cap w3 G3 (by omega)
  rw [← HR.out] at P
  have HP2 := Lib.hid (P.mono fun e w' h => put_form h)
  rw [← HBS.out] at HP2
  clear K4 K3 G2 P HP G3
  go_wp2_with fail
  refine HP2.out.mono ?_
  rintro e w4 ⟨rfl, K4⟩
  have K6 := Lib.hid (K5.out.trans (K4.mono (fun i hi => by omega)))
  have hw4 : w.heap.size ≤ w4.heap.size := K6.out.size
  clear K4 K5 HP2
  go_wp2_with fail
  refine (GA.out w4).mono ?_
  rintro e w5 hg
  obtain ⟨v5, rfl, N5, K4⟩ := get_form hg
  obtain ⟨A5, c5, rfl, HA5⟩ := N5.arcs HS2.out
  have K7 := Lib.hid (K6.out.trans (K4.mono (fun i hi => by omega)))
  have hw5 : w.heap.size ≤ w5.heap.size := K7.out.size
  clear K4 K6 N5 hg
  go_wp2_with fail
  refine (RA.out w5).mono ?_
  rintro e w6 hg
  obtain ⟨v6, rfl, N6, K4⟩ := get_form hg
  obtain ⟨A6, c6, rfl, HA6⟩ := N6.arcs HS2.out
  have HA7 := HA5.keep K4 (fun i hi => hi)
  have K8 := Lib.hid (K7.out.trans (K4.mono (fun i hi => by omega)))
  have C := same_c A5 A6 _ _ c5 c6 w6 HA7 HA6 (by have := HL2.out; omega) (by have := HL2.out; omega)
  rw [decide_eq_true rfl] at C
  have HC := Lib.hid C
  obtain ⟨n, hn⟩ : ∃ n, n = (R2.getD []).length := ⟨_, rfl⟩
  rw [← hn] at HC ⊢
  clear K4 K7 N6 hg HA5 HA6 HA7 C hn
  generalize R.isSome = o1
  generalize R2.isSome = o2
  go_wp2_with fail
  refine HC.out.mono ?_
  rintro e w7 ⟨rfl, m, rfl⟩
  go_wp2_with fail
  go_ret
  exact ⟨by first | rfl | (simp; done), Kept.below (Below.refl _ w) (K8.out.drewN _) (fun i h => h)⟩
theorem walk (A : Option Addr) (cap : Nat) (l : List Nat) (c : ByteArray) (w : World) (h2 : l.length ≤ 9223372036854775807) (G : Arcs w A l cap) (h3 : c.size ≤ 140737488351232) : Calls Try.prog 4 #[.slice A l.length cap, .string c] w fun e w' => e = .returned (.bool true) ∧ Below w.heap.size w w' := by
  by_cases h : 100 < l.length ∨ 300 < c.size
  · exact walk_out A cap l c w h h2 h3
  · exact walk_within A cap l c w (by omega) (by omega) G
end Go.Proofs.Ytgloehelfdmmaaa.Oid.LawPuts
