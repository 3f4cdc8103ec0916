/- For every list of arcs and one more number: the content of all is that of the arcs with the number's bytes behind it. The walk. No condition beyond the kinds and the reach. -/
import Derived.Test.YtgloehelfdmmaaaLawu
namespace Go.Proofs.Ytgloehelfdmmaaa.Oid.LawParts
set_option linter.unusedVariables false
open Go.RowKit

theorem walk_out (A : Option Addr) (cap : Nat) (l : List Nat) (m : Int) (w : World) (h : 100 < l.length) (h2 : l.length ≤ 9223372036854775807) : Calls Try.prog 7 #[.slice A l.length cap, .int .u64 m] w fun e w' => e = .returned (.bool true) ∧ Below w.heap.size w w' := by
  have h' : (100 : Int) < (l.length : Int) := by omega
  go_enter Try.func7, Try.ntmps7
  go_wp2_with fail
  refine (awake_c w).mono ?_
  rintro e w1 ⟨rfl, B1⟩
  go_wp2_with fail
  refine (awake_c w1).mono ?_
  rintro e w2 ⟨rfl, B2⟩
  go_wp2_with fail
  go_ret
  exact ⟨rfl, step B1 B2⟩
theorem front_text (b c : List Int) : (strOfNums (b ++ c)).extract 0 (strOfNums b).size = strOfNums b := by
  rw [strOfNums_append]
  exact ByteArray.extract_append_eq_left rfl
set_option maxHeartbeats 1000000 in
theorem walk_within (A : Option Addr) (cap : Nat) (l : List Nat) (m : Nat) (w : World) (hl : l.length ≤ 100) (hm : m < 18446744073709551616) (G : Arcs w A l cap) : Calls Try.prog 7 #[.slice A l.length cap, .int .u64 m] w fun e w' => e = .returned (.bool true) ∧ Below w.heap.size w w' := by
  have h' : ¬(100 : Int) < (l.length : Int) := by omega
  obtain ⟨i0, hi0, hz0, hz1, hz2⟩ := info_parts info40
  have HM := Lib.hid hm
  clear hm
  go_enter Try.func7, Try.ntmps7
  go_wp2_with fail
  refine (awake_c w).mono ?_
  rintro e w1 ⟨rfl, B1⟩
  have G1 := G.keep (Kept.of_below B1 (fun _ => False)) (fun i h => h.elim)
  have K1 := Lib.hid (Kept.of_below B1 (fun i => w.heap.size ≤ i))
  have hw1 := B1.size
  clear B1 G
  go_wp2_with (at_builtin; refine wpList_copy rfl (.tmp 18) (.tmp 19) rfl A cap l w1 G1 (by omega) rfl rfl ?_)
  intro v2 w2 N2 n2 K2
  have K3 := Lib.hid (K1.out.trans (K2.mono (fun i hi => by omega)))
  have G2 := G1.keep K2 (fun i hi => hi)
  have hw2 : w.heap.size ≤ w2.heap.size := K3.out.size
  obtain ⟨A2, cap2, rfl, HA2⟩ := N2.arcs G1.small
  have P := Lib.hid (put_c A2 l cap2 w2 HA2 (by omega))
  have HS := Lib.hid G1.small
  clear K2 N2 n2 HA2 G1 K1
  go_wp2_with fail
  have second : ∀ (w3 : World) (G3 : Arcs w3 A l cap), True := fun _ _ => trivial
  clear second
  obtain ⟨R, hR⟩ : ∃ R, R = putS l := ⟨_, rfl⟩
  rw [← hR] at P
  have HR := Lib.hid hR
  clear hR
  have PE : Hid (∃ (b : ByteArray) (ok : Bool), (ok = R.isSome) ∧ (∀ x, R = some x → b = strOfNums x) ∧ Calls Try.prog 13 #[.slice A2 l.length cap2] w2 fun e w' => e = .returned (.tuple #[.string b, .bool ok]) ∧ Kept (fun i => w2.heap.size ≤ i) w2 w') := by
    have hP := P.out
    cases R with
    | none => exact ⟨⟨#[]⟩, false, rfl, fun x h => by simp at h, hP⟩
    | some x => exact ⟨strOfNums x, true, rfl, fun y h => by rw [Option.some.inj h], hP⟩
  obtain ⟨b, ok, hok, hb, C⟩ := PE.out
  have HOK := Lib.hid hok
  have HB := Lib.hid hb
  clear hok hb P PE
  refine C.mono ?_
  rintro e w3 ⟨rfl, K4⟩
  have K5 := Lib.hid (K3.out.trans (K4.mono (fun i hi => by omega)))
  have G3 := G2.keep K4 (fun i hi => hi)
  have hw3 : w.heap.size ≤ w3.heap.size := K5.out.size
  clear C K4 K3 G2
  go_wp2_with (at_builtin; refine wpList_copy rfl (.tmp 25) (.tmp 26) rfl A cap l w3 G3 (by omega) rfl rfl ?_)
  intro v4 w4 N4 n4 K6
  have K7 := Lib.hid (K5.out.trans (K6.mono (fun i hi => by omega)))
  have hw4 := K6.size
  obtain ⟨A4, cap4, rfl⟩ := N4.form
  have HN4 := Lib.hid N4
  clear K6 K5 G3 N4
  go_wp2_with (at_builtin; refine wpList_append_own _ rfl (.tmp 27) (.tmp 29) 30 rfl w3.heap.size 40 i0 (.int .u64 0) 1 8 Try.underlying30 hi0 hz0 hz1 hz2 rfl (by decide) _ _ _ rfl (HN4.out.own.alloc _) ⟨w4.heap.size, 0, none⟩ 1 1 [.int .u64 (m : Int)] rfl rfl ?p1 ?p2 ?p3 ?p4 ?p5 ?_)
  case p1 =>
    intro j u hj
    match j, hj with
    | 0, hj =>
      simp at hj
      subst hj
      rw [add_plain, Nat.zero_add]
      exact World.cell?_alloc_new _ _ _ _
  case p2 => intro u hu; simp at hu; subst hu; rfl
  case p3 => unfold maxLen; omega
  case p4 => omega
  case p5 => simp; omega
  intro v5 w5 ho hg hn
  have K8 := own_kept (HN4.out.own.alloc (.cells #[.int .u64 (m : Int)] 40)) (w := w4) ((Kept.refl _ _).alloc _) hg
  have K9 := Lib.hid (K7.out.trans (K8.mono (fun i hi => by omega)))
  have N5 : Hid (Ns w5 w3.heap.size v5 (l ++ [m])) := ns_next ho (fun e => by first | exact hn e | exact absurd (hn.1 e).2 (by simp))
  have hw5 : w.heap.size ≤ w5.heap.size := K9.out.size
  clear ho hg hn K8 K7
  have hsm : ∀ n ∈ l ++ [m], n < 18446744073709551616 := by
    intro n hn
    rcases List.mem_append.1 hn with h | h
    · exact HS.out n h
    · simp at h
      subst h
      exact HM.out
  obtain ⟨A5, cap5, rfl, HA5⟩ := N5.out.arcs hsm
  have P2 := put_c A5 (l ++ [m]) cap5 w5 HA5 (by simp; omega)
  have HPM : Hid (2 ≤ l.length → putS (l ++ [m]) = R.map (fun b => b ++ enc m)) := fun h => by rw [HR.out]; exact put_more l m h
  obtain ⟨R2, hR2⟩ : ∃ R2, R2 = putS (l ++ [m]) := ⟨_, rfl⟩
  rw [← hR2] at P2 HPM
  have PE : Hid (∃ (b : ByteArray) (ok : Bool), (ok = R2.isSome) ∧ (∀ x, R2 = some x → b = strOfNums x) ∧ Calls Try.prog 13 #[.slice A5 (l ++ [m]).length cap5] w5 fun e w' => e = .returned (.tuple #[.string b, .bool ok]) ∧ Kept (fun i => w5.heap.size ≤ i) w5 w') := by
    cases R2 with
    | none => exact ⟨⟨#[]⟩, false, rfl, fun x h => by simp at h, P2⟩
    | some x => exact ⟨strOfNums x, true, rfl, fun y h => by rw [Option.some.inj h], P2⟩
  obtain ⟨b2, ok2, hok2, hb2, C⟩ := PE.out
  have HOK2 := Lib.hid hok2
  have HB2 := Lib.hid hb2
  have HC := Lib.hid C
  clear hok2 hb2 P2 PE hR2 HA5 N5 HN4 C
  rw [show (l ++ [m]).length = l.length + 1 from by simp] at HC
  have hk : (l.length : Int) < 2 ∨ (2 ≤ l.length) := by omega
  cases R with
  | none =>
    obtain rfl := HOK.out
    rcases hk with hk | hk
    · go_wp2_with fail
      refine HC.out.mono ?_
      rintro e w6 ⟨rfl, K10⟩
      have K11 := Lib.hid (K9.out.trans (K10.mono (fun i hi => by omega)))
      clear K10
      go_wp2_with fail
      go_ret
      exact ⟨by first | rfl | (simp; done), Kept.below (Below.refl _ w) K11.out (fun i h => h)⟩
    · have h2 := HPM.out hk
      subst h2
      obtain rfl := HOK2.out
      have hk2 : ¬(l.length : Int) < 2 := by omega
      go_wp2_with fail
      refine HC.out.mono ?_
      rintro e w6 ⟨rfl, K10⟩
      have K11 := Lib.hid (K9.out.trans (K10.mono (fun i hi => by omega)))
      clear K10
      go_wp2_with fail
      go_ret
      exact ⟨by first | rfl | (simp; done), Kept.below (Below.refl _ w) K11.out (fun i h => h)⟩
  | some x =>
    obtain rfl := HOK.out
    obtain rfl := HB.out x rfl
    have hl2 : 2 ≤ l.length := by
      rcases Nat.lt_or_ge l.length 2 with h | h
      · have := HR.out
        rw [put_short l h] at this
        simp at this
      · exact h
    have h2 := HPM.out hl2
    subst h2
    obtain rfl := HOK2.out
    obtain rfl := HB2.out _ rfl
    have he := enc_len m HM.out
    have s1 := strOfNums_size x
    have s2 : (strOfNums (x ++ enc m)).size = x.length + (enc m).length := by rw [strOfNums_size, List.length_append]
    have hx : x.length ≤ 1000 := by
      have := put_most l x HS.out HR.out.symm
      omega
    have hf := front_text x (enc m)
    rw [s1] at hf
    obtain ⟨X, hX⟩ : ∃ X, X = strOfNums x := ⟨_, rfl⟩
    obtain ⟨Y, hY⟩ : ∃ Y, Y = strOfNums (x ++ enc m) := ⟨_, rfl⟩
    rw [← hY] at s2 hf
    rw [← hX] at s1 hf
    obtain ⟨em, hem⟩ : ∃ em, em = (enc m).length := ⟨_, rfl⟩
    rw [← hem] at he s2
    obtain ⟨xl, hxl⟩ : ∃ xl, xl = x.length := ⟨_, rfl⟩
    rw [← hxl] at hx s1 s2 hf
    obtain ⟨he1, he2⟩ := he
    have HC2 : Hid (Calls Try.prog 13 #[.slice A5 (l.length + 1) cap5] w5 fun e w' => e = .returned (.tuple #[.string Y, .bool true]) ∧ Kept (fun i => w5.heap.size ≤ i) w5 w') := by
      rw [hY]
      exact HC.out
    have q1 : (xl : Int) < ((xl + em : Nat) : Int) := by omega
    have q2 : ((xl + em : Nat) : Int) ≤ (xl : Int) + 10 := by omega
    rw [← hX]
    clear hX hY hem hxl HC hl2 hk
    go_wp2_with fail
    refine HC2.out.mono ?_
    rintro e w6 ⟨rfl, K10⟩
    have K11 := Lib.hid (K9.out.trans (K10.mono (fun i hi => by omega)))
    clear K10
    go_wp2_with fail
    go_ret
    exact ⟨by first | rfl | (simp; done) | (simp; omega), Kept.below (Below.refl _ w) K11.out (fun i h => h)⟩
theorem walk (A : Option Addr) (cap : Nat) (l : List Nat) (m : Int) (w : World) (h2 : l.length ≤ 9223372036854775807) (G : Arcs w A l cap) (hm : (Lit.int .u64 m).wf = true) : Calls Try.prog 7 #[.slice A l.length cap, .int .u64 m] w fun e w' => e = .returned (.bool true) ∧ Below w.heap.size w w' := by
  by_cases h : 100 < l.length
  · exact walk_out A cap l m w h h2
  · have := wf_u64 hm
    obtain ⟨k, rfl⟩ : ∃ k : Nat, m = k := ⟨m.toNat, by omega⟩
    exact walk_within A cap l k w (by omega) (by omega) G
end Go.Proofs.Ytgloehelfdmmaaa.Oid.LawParts
