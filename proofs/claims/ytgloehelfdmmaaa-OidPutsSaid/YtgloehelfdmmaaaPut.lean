/- Put, for every list of arcs. -/
import Derived.Test.YtgloehelfdmmaaaOne
namespace Go.Proofs.Ytgloehelfdmmaaa.Oid
set_option linter.unusedVariables false
open Go.RowKit

/-- Numbers that a slice holds. -/
structure Arcs (w : World) (A : Option Addr) (l : List Nat) (cap : Nat) : Prop where
  le : l.length ≤ cap
  most : cap ≤ 9223372036854775807
  at_ : (A = none ∧ l = [] ∧ cap = 0) ∨ ∃ a, A = some a ∧ ∀ i, i < l.length → w.cell? (a.add i) = some (.int .u64 ((l.getD i 0 : Nat) : Int))
  small : ∀ n ∈ l, n < 18446744073709551616
theorem Arcs.keep {S : Nat → Prop} {w w' : World} {A : Option Addr} {l : List Nat} {cap : Nat} (h : Arcs w A l cap) (k : Kept S w w') (hS : ∀ i, S i → w.heap.size ≤ i) : Arcs w' A l cap := by
  refine ⟨h.le, h.most, h.at_.imp id (fun ⟨a, ha, hc⟩ => ⟨a, ha, fun j hj => ?_⟩), h.small⟩
  have h1 := hc j hj
  have hlt : (a.add j).block < w.heap.size := World.block_lt_of_cell? w _ h1
  rw [World.cell?_of_block (w := w) (k.block _ hlt (fun e => by have := hS _ e; omega))]
  exact h1
theorem Arcs.plain {w : World} {A : Option Addr} {l : List Nat} {cap : Nat} (h : Arcs w A l cap) (hp : 0 < l.length) :
    ∃ g o, A = some ⟨g, o, none⟩ ∧ g < w.heap.size ∧ ∀ i, i < l.length → w.cell? ⟨g, o + i, none⟩ = some (.int .u64 ((l.getD i 0 : Nat) : Int)) := by
  rcases h.at_ with ⟨_, rfl, _⟩ | ⟨⟨g, o, sp⟩, rfl, hc⟩
  · simp at hp
  · have h0 := hc 0 hp
    have hsp : sp = none := by simpa [Addr.add] using World.cell?_spot h0
    subst hsp
    refine ⟨g, o, rfl, ?_, fun i hi => ?_⟩
    · have := World.block_lt_of_cell? w _ h0
      simpa [Addr.add] using this
    · have := hc i hi
      rw [add_plain] at this
      exact this
theorem Bs.old {S : Nat → Prop} {w w' : World} {base : Nat} {v : Value} {l : List Int} (h : Bs w base v l) (k : Kept S w w') (hS : ∀ i, S i → w.heap.size ≤ i) : Bs w' base v l := by
  obtain ⟨⟨h1, h2⟩, hn⟩ := h
  refine ⟨⟨h1, h2.imp id ?_⟩, hn⟩
  rintro ⟨g, cap, cur, hv, hb, hg, hr⟩
  have hlt : g < w.heap.size := (Array.getElem?_eq_some_iff.1 hg).1
  exact ⟨g, cap, cur, hv, hb, (k.block g hlt (fun hs => by have := hS g hs; omega)).trans hg, hr⟩
theorem flat_len (t : List Nat) (h : ∀ n ∈ t, n < 18446744073709551616) : (t.flatMap enc).length ≤ 10 * t.length := by
  induction t with
  | nil => simp
  | cons n t ih =>
    have h1 := (enc_len n (h n (by simp))).2
    have h2 := ih (fun m hm => h m (by simp [hm]))
    rw [List.flatMap_cons, List.length_append, List.length_cons]
    omega
theorem take_flat (t : List Nat) (k : Nat) (h : k < t.length) : (t.take (k + 1)).flatMap enc = (t.take k).flatMap enc ++ enc (t.getD k 0) := by
  rw [List.take_succ_eq_append_getElem h, List.flatMap_append]
  simp [List.getD, h]
def NoPost (w : World) (e : Ending) (w' : World) : Prop := e = .returned (.tuple #[.string ⟨#[]⟩, .bool false]) ∧ Kept (fun i => w.heap.size ≤ i) w w'
theorem put_short_c (A : Option Addr) (n cap : Nat) (w : World) (h : n < 2) : Calls Try.prog 13 #[.slice A n cap] w (NoPost w) := by
  have h1 : (n : Int) < 2 := by omega
  go_enter Try.func13, Try.ntmps13
  go_wp2
  go_quiet (fail)
  go_wp2
  go_ret2
  exact ⟨rfl, (Kept.refl _ w).drewN _⟩
set_option maxHeartbeats 1000000 in
theorem put_no_c (g o n cap : Nat) (x y : Int) (w : World) (hn : 2 ≤ n) (hnm : n ≤ 2000) (c0 : w.cell? ⟨g, o, none⟩ = some (.int .u64 x)) (c1 : w.cell? ⟨g, o + 1, none⟩ = some (.int .u64 y))
    (h : 2 < x ∨ ((x = 0 ∨ x = 1) ∧ 40 ≤ y) ∨ (x = 2 ∧ 18446744073709551535 < y)) : Calls Try.prog 13 #[.slice (some ⟨g, o, none⟩) n cap] w (NoPost w) := by
  have h1 : decide ((n : Int) < 2) = false := decide_eq_false (by omega)
  have h2 : (0 : Int) < (n : Int) := by omega
  have h3 : (1 : Int) < (n : Int) := by omega
  rcases h with h | ⟨rfl | rfl, h⟩ | ⟨rfl, h⟩
  all_goals
    go_enter Try.func13, Try.ntmps13
    go_wp2
    go_quiet (fail)
    go_wp2
    go_ret2
    exact ⟨rfl, (Kept.refl _ w).drewN _⟩
def TextPost (s : ByteArray) (w : World) (e : Ending) (w' : World) : Prop := e = .returned (.tuple #[.string s, .bool true]) ∧ Kept (fun i => w.heap.size ≤ i) w w'
set_option maxHeartbeats 400000 in
theorem put_ok_c (g o cap n : Nat) (x y : Nat) (t : List Nat) (w : World) (hgl : g < w.heap.size) (hcm : cap ≤ 9223372036854775807) (hn : n = t.length + 2) (hcap : n ≤ cap) (hnm : t.length ≤ 1000) (c0 : w.cell? ⟨g, o, none⟩ = some (.int .u64 x)) (c1 : w.cell? ⟨g, o + 1, none⟩ = some (.int .u64 y))
    (hc : ∀ i, i < t.length → w.cell? ⟨g, o + 2 + i, none⟩ = some (.int .u64 ((t.getD i 0 : Nat) : Int))) (hs : ∀ n ∈ t, n < 18446744073709551616)
    (h : ((x = 0 ∨ x = 1) ∧ y < 40) ∨ (x = 2 ∧ y ≤ 18446744073709551535)) : Calls Try.prog 13 #[.slice (some ⟨g, o, none⟩) n cap] w (TextPost (strOfNums (enc (40 * x + y) ++ t.flatMap enc)) w) := by
  have h1 : decide ((n : Int) < 2) = false := decide_eq_false (by omega)
  have h2 : (0 : Int) < (n : Int) := by omega
  have h3 : (1 : Int) < (n : Int) := by omega
  have HN := Lib.hid hn
  have HC := Lib.hid hc
  have HS := Lib.hid hs
  obtain ⟨U, hU⟩ : ∃ U, U = 40 * x + y := ⟨_, rfl⟩
  rw [← hU]
  have hlt : U < 18446744073709551616 := by omega
  have ONE := Lib.hid (one_c U hlt)
  have HU := Lib.hid hU
  have HLT := Lib.hid hlt
  obtain ⟨i0, hi0, hz0, hz1, hz2⟩ := info_parts info5
  clear hc hs hlt hn hU
  have u1 : ∃ z : Int, (U : Int) = z + (y : Int) ∧ ((x = 0 ∧ z = 0) ∨ (x = 1 ∧ z = 40) ∨ (x = 2 ∧ z = 80)) := by
    have h1 := HU.out
    rcases h with ⟨rfl | rfl, h⟩ | ⟨rfl, h⟩
    · exact ⟨0, by omega, .inl ⟨rfl, rfl⟩⟩
    · exact ⟨40, by omega, .inr (.inl ⟨rfl, rfl⟩)⟩
    · exact ⟨80, by omega, .inr (.inr ⟨rfl, rfl⟩)⟩
  obtain ⟨z, u1, hz⟩ := u1
  have ONE2 : Hid (∀ w, Calls Try.prog 18 #[.int .u64 (z + (y : Int))] w (OnePost (enc U) w)) := fun w => by
    have h := ONE.out w
    rw [u1] at h
    exact h
  clear u1 ONE
  have hy : (x < 2 → ¬40 ≤ (y : Int)) ∧ (x = 2 → ¬18446744073709551535 < (y : Int)) := by omega
  obtain ⟨hy1, hy2⟩ := hy
  clear h
  rcases hz with ⟨rfl, rfl⟩ | ⟨rfl, rfl⟩ | ⟨rfl, rfl⟩
  · replace c0 : w.cell? ⟨g, o, none⟩ = some (.int .u64 0) := c0
    replace hy1 := hy1 (by omega)
    have hy3 : decide ((40 : Int) ≤ (y : Int)) = false := decide_eq_false hy1
    have hy4 : decide (40 ≤ y) = false := decide_eq_false (by omega)
    clear hy2
    go_enter Try.func13, Try.ntmps13
    go_wp2
    go_quiet (fail)
    go_wp2
    have d0 : (w.drewN nq).cell? ⟨g, o, none⟩ = some (.int .u64 0) := c0
    have d1 : (w.drewN nq).cell? ⟨g, o + 1, none⟩ = some (.int .u64 y) := c1
    have n1 : 0 < n := by omega
    have n2 : 1 < n := by omega
    have n3 : ¬n ≤ 1 := by omega
    have n4 : ¬n = 0 := by omega
    clear c0 c1 HU
    have K0 := Lib.hid ((Kept.refl (fun i => w.heap.size ≤ i) w).drewN nq)
    have hgl0 : g < (w.drewN nq).heap.size := hgl
    have hw0 : Hid (w.heap.size = (w.drewN nq).heap.size) := rfl
    generalize w.drewN nq = w0 at d0 d1 K0 hgl0 hw0 ⊢
    go_still_tail 8, (by kernel_rfl)
    change wpList _ _ _ _ _ w0.drew
    have K1 := Lib.hid (K0.out.drew)
    have hgl1 : g < w0.drew.heap.size := hgl0
    have hw1 : Hid (w.heap.size = w0.drew.heap.size) := hw0
    clear K0 hgl0 hw0 d0 d1
    generalize w0.drew = w2 at K1 hgl1 hw1 ⊢
    go_wp2_with fail
    refine (ONE2.out _).mono ?_
    rintro e w6 ⟨v, rfl, B6, K6⟩
    have K7 := Lib.hid (K1.out.trans (K6.mono (fun i h => by have := hw1.out; omega)))
    have HT : Hid (∀ i, i < t.length → w6.cell? ⟨g, o + 2 + i, none⟩ = some (.int .u64 ((t.getD i 0 : Nat) : Int))) := fun i hi =>
      (World.cell?_of_block (w := w) (a := ⟨g, o + 2 + i, none⟩) (K7.out.block g hgl (by omega))).trans (HC.out i hi)
    have hgl6 := Nat.lt_of_lt_of_le hgl1 K6.size
    have hz6 : w.heap.size ≤ w6.heap.size := K7.out.size
    have HB6 := Lib.hid (B6.lower (b2 := w.heap.size) (by have := hw1.out; omega))
    have HCC := HC
    clear K1 K6 B6 HC
    by_cases hcap2 : cap = 2
    · obtain rfl := hcap2
      obtain rfl : n = 2 := by omega
      obtain rfl : t = [] := List.eq_nil_of_length_eq_zero (by have := HN.out; omega)
      go_wp2_with fail
      go_loopw [51, 4] (fun i v' wr => i = .int .i64 0 ∧ v' = v ∧ wr = w6) (fun _ _ _ => 0)
      case atStart => exact ⟨rfl, rfl, rfl⟩
      case round =>
        obtain ⟨rfl, rfl, rfl⟩ := hrel
        obtain ⟨gg, cc, rfl, hcv⟩ := HB6.out.text
        go_wp2_with fail
        go_ret2
        refine ⟨?_, K7.out⟩
        simp
    · have hc3 : 2 < cap := by have := HN.out; omega
      go_wp2_with fail
      generalize hT : n - 2 = T
      have HTT : Hid (T = t.length) := by
        show T = t.length
        have := HN.out
        omega
      clear hT
      go_loopw [51, 4] (fun i v' wr => ∃ k : Nat, k ≤ T ∧ i = .int .i64 k ∧ Bs wr w.heap.size v' (enc U ++ (t.take k).flatMap enc) ∧ w.heap.size ≤ wr.heap.size ∧ Kept (fun i => w.heap.size ≤ i) w wr) (fun i _ _ => T - (intOf i).toNat)
      case atStart => exact ⟨0, by omega, rfl, by simpa using HB6.out, hz6, K7.out⟩
      case round =>
        obtain ⟨k, hk, rfl, B, hz, K⟩ := hrel
        obtain ⟨L, hL⟩ : ∃ L, L = enc U ++ (t.take k).flatMap enc := ⟨_, rfl⟩
        rw [← hL] at B
        have HLL := Lib.hid hL
        have HB := Lib.hid B
        have K8 := Lib.hid K
        clear B K HB6 K7 hL
        have hTl := HTT.out
        have hTs : T ≤ 1000 := by omega
        by_cases hlt : k < T
        · have hkt : k < t.length := by omega
          have t1 : (k : Int) < (T : Int) := by omega
          have hcell : w6.cell? ⟨g, o + 2 + k, none⟩ = some (.int .u64 ((t.getD k 0 : Nat) : Int)) := HT.out k hkt
          have hcr : wr.cell? ⟨g, o + 2 + k, none⟩ = some (.int .u64 ((t.getD k 0 : Nat) : Int)) :=
            (World.cell?_of_block (w := w) (a := ⟨g, o + 2 + k, none⟩) (K8.out.block g hgl (by omega))).trans (HCC.out k hkt)
          have ha : t.getD k 0 < 18446744073709551616 := HS.out _ (by simp [List.getD, hkt])
          have hfl : L.length ≤ 10010 := by
            rw [HLL.out]
            have h1 := (enc_len U HLT.out).2
            have h2 := flat_len (t.take k) (fun m hm => HS.out m (List.mem_of_mem_take hm))
            rw [List.length_take] at h2
            rw [List.length_append]
            omega
          have HF := Lib.hid (take_flat t k hkt)
          have ONEA := Lib.hid (one_c (t.getD k 0) ha)
          have hea := (enc_len (t.getD k 0) ha).2
          clear hcell ha hTl
          generalize t.getD k 0 = a at hcr HF ONEA hea
          obtain ⟨M, hM⟩ : ∃ M, M = enc a := ⟨_, rfl⟩
          rw [← hM] at HF ONEA hea
          clear hM
          go_wp2_with fail
          refine (ONEA.out _).mono ?_
          rintro e w8 ⟨v2, rfl, B8, K9⟩
          have HB8 := HB.out.old K9 (fun i h => h)
          have K10 := Lib.hid (K8.out.trans (K9.mono (fun i h => by omega)))
          have hz8 := Nat.le_trans hz K9.size
          obtain ⟨g2, cap2, rfl, hb2, hg2, hlc, hc2, hcell2⟩ := B8.at_
          have HC2 := Lib.hid hcell2
          clear hcell2 K9 K8 HB hcr
          go_wp2_with (at_builtin; refine wpList_append_own _ rfl (.tmp 55) (.tmp 57) 43 rfl w.heap.size 5 i0 (.int .u8 0) 1 1 Try.underlying43 hi0 hz0 hz1 hz2 rfl (by decide) _ _ _ rfl HB8.own ⟨g2, 0, none⟩ M.length cap2 (M.map (Value.int .u8)) rfl (by simp) ?c1 ?c2 ?c3 ?c4 ?c5 ?_)
          case c1 =>
            intro j u hj
            rw [add_plain, Nat.zero_add]
            exact HC2.out j u hj
          case c2 => intro u hu; simp at hu; obtain ⟨b, _, rfl⟩ := hu; rfl
          case c3 => unfold maxLen; omega
          case c4 => omega
          case c5 => exact hz8
          intro v' w9 ho9 hg9 hn9
          have K11 : Kept (fun i => w.heap.size ≤ i) w8 w9 := own_kept HB8.own (Kept.refl _ w8) hg9
          have K12 := Lib.hid (K10.out.trans K11)
          have hz9 := Nat.le_trans hz8 K11.size
          have B9 : Hid (Bs w9 w.heap.size v' (enc U ++ (t.take (k + 1)).flatMap enc)) := by
            show Bs w9 w.heap.size v' (enc U ++ (t.take (k + 1)).flatMap enc)
            rw [HF.out, ← List.append_assoc, ← HLL.out]
            refine ⟨?_, fun h => HB8.nn (hn9.1 h).1⟩
            rw [List.length_append, List.map_append]
            exact ho9
          clear ho9 hg9 hn9 K11 HB8
          go_wp2_with fail
          go_roundw
          case rel => exact ⟨k + 1, by omega, by go_num, B9.out, hz9, K12.out⟩
          case measure => simp [intOf]; omega
        · obtain rfl : k = T := by omega
          have t1 : ¬(k : Int) < (k : Int) := by omega
          have hLL := HLL.out
          rw [List.take_of_length_le (by omega)] at hLL
          have HL2 := Lib.hid hLL
          have hB := HB.out
          obtain ⟨gg, cc, rfl, hcv⟩ := hB.text
          clear hB hTl hLL HLL HB
          go_wp2_with fail
          go_ret2
          exact ⟨by rw [← HL2.out]; rfl, K8.out⟩
  · replace c0 : w.cell? ⟨g, o, none⟩ = some (.int .u64 1) := c0
    replace hy1 := hy1 (by omega)
    have hy3 : decide ((40 : Int) ≤ (y : Int)) = false := decide_eq_false hy1
    have hy4 : decide (40 ≤ y) = false := decide_eq_false (by omega)
    clear hy2
    go_enter Try.func13, Try.ntmps13
    go_wp2
    go_quiet (fail)
    go_wp2
    have d0 : (w.drewN nq).cell? ⟨g, o, none⟩ = some (.int .u64 1) := c0
    have d1 : (w.drewN nq).cell? ⟨g, o + 1, none⟩ = some (.int .u64 y) := c1
    have n1 : 0 < n := by omega
    have n2 : 1 < n := by omega
    have n3 : ¬n ≤ 1 := by omega
    have n4 : ¬n = 0 := by omega
    clear c0 c1 HU
    have K0 := Lib.hid ((Kept.refl (fun i => w.heap.size ≤ i) w).drewN nq)
    have hgl0 : g < (w.drewN nq).heap.size := hgl
    have hw0 : Hid (w.heap.size = (w.drewN nq).heap.size) := rfl
    generalize w.drewN nq = w0 at d0 d1 K0 hgl0 hw0 ⊢
    go_still_tail 8, (by kernel_rfl)
    change wpList _ _ _ _ _ w0.drew
    have K1 := Lib.hid (K0.out.drew)
    have hgl1 : g < w0.drew.heap.size := hgl0
    have hw1 : Hid (w.heap.size = w0.drew.heap.size) := hw0
    clear K0 hgl0 hw0 d0 d1
    generalize w0.drew = w2 at K1 hgl1 hw1 ⊢
    go_wp2_with fail
    refine (ONE2.out _).mono ?_
    rintro e w6 ⟨v, rfl, B6, K6⟩
    have K7 := Lib.hid (K1.out.trans (K6.mono (fun i h => by have := hw1.out; omega)))
    have HT : Hid (∀ i, i < t.length → w6.cell? ⟨g, o + 2 + i, none⟩ = some (.int .u64 ((t.getD i 0 : Nat) : Int))) := fun i hi =>
      (World.cell?_of_block (w := w) (a := ⟨g, o + 2 + i, none⟩) (K7.out.block g hgl (by omega))).trans (HC.out i hi)
    have hgl6 := Nat.lt_of_lt_of_le hgl1 K6.size
    have hz6 : w.heap.size ≤ w6.heap.size := K7.out.size
    have HB6 := Lib.hid (B6.lower (b2 := w.heap.size) (by have := hw1.out; omega))
    have HCC := HC
    clear K1 K6 B6 HC
    by_cases hcap2 : cap = 2
    · obtain rfl := hcap2
      obtain rfl : n = 2 := by omega
      obtain rfl : t = [] := List.eq_nil_of_length_eq_zero (by have := HN.out; omega)
      go_wp2_with fail
      go_loopw [51, 4] (fun i v' wr => i = .int .i64 0 ∧ v' = v ∧ wr = w6) (fun _ _ _ => 0)
      case atStart => exact ⟨rfl, rfl, rfl⟩
      case round =>
        obtain ⟨rfl, rfl, rfl⟩ := hrel
        obtain ⟨gg, cc, rfl, hcv⟩ := HB6.out.text
        go_wp2_with fail
        go_ret2
        refine ⟨?_, K7.out⟩
        simp
    · have hc3 : 2 < cap := by have := HN.out; omega
      go_wp2_with fail
      generalize hT : n - 2 = T
      have HTT : Hid (T = t.length) := by
        show T = t.length
        have := HN.out
        omega
      clear hT
      go_loopw [51, 4] (fun i v' wr => ∃ k : Nat, k ≤ T ∧ i = .int .i64 k ∧ Bs wr w.heap.size v' (enc U ++ (t.take k).flatMap enc) ∧ w.heap.size ≤ wr.heap.size ∧ Kept (fun i => w.heap.size ≤ i) w wr) (fun i _ _ => T - (intOf i).toNat)
      case atStart => exact ⟨0, by omega, rfl, by simpa using HB6.out, hz6, K7.out⟩
      case round =>
        obtain ⟨k, hk, rfl, B, hz, K⟩ := hrel
        obtain ⟨L, hL⟩ : ∃ L, L = enc U ++ (t.take k).flatMap enc := ⟨_, rfl⟩
        rw [← hL] at B
        have HLL := Lib.hid hL
        have HB := Lib.hid B
        have K8 := Lib.hid K
        clear B K HB6 K7 hL
        have hTl := HTT.out
        have hTs : T ≤ 1000 := by omega
        by_cases hlt : k < T
        · have hkt : k < t.length := by omega
          have t1 : (k : Int) < (T : Int) := by omega
          have hcell : w6.cell? ⟨g, o + 2 + k, none⟩ = some (.int .u64 ((t.getD k 0 : Nat) : Int)) := HT.out k hkt
          have hcr : wr.cell? ⟨g, o + 2 + k, none⟩ = some (.int .u64 ((t.getD k 0 : Nat) : Int)) :=
            (World.cell?_of_block (w := w) (a := ⟨g, o + 2 + k, none⟩) (K8.out.block g hgl (by omega))).trans (HCC.out k hkt)
          have ha : t.getD k 0 < 18446744073709551616 := HS.out _ (by simp [List.getD, hkt])
          have hfl : L.length ≤ 10010 := by
            rw [HLL.out]
            have h1 := (enc_len U HLT.out).2
            have h2 := flat_len (t.take k) (fun m hm => HS.out m (List.mem_of_mem_take hm))
            rw [List.length_take] at h2
            rw [List.length_append]
            omega
          have HF := Lib.hid (take_flat t k hkt)
          have ONEA := Lib.hid (one_c (t.getD k 0) ha)
          have hea := (enc_len (t.getD k 0) ha).2
          clear hcell ha hTl
          generalize t.getD k 0 = a at hcr HF ONEA hea
          obtain ⟨M, hM⟩ : ∃ M, M = enc a := ⟨_, rfl⟩
          rw [← hM] at HF ONEA hea
          clear hM
          go_wp2_with fail
          refine (ONEA.out _).mono ?_
          rintro e w8 ⟨v2, rfl, B8, K9⟩
          have HB8 := HB.out.old K9 (fun i h => h)
          have K10 := Lib.hid (K8.out.trans (K9.mono (fun i h => by omega)))
          have hz8 := Nat.le_trans hz K9.size
          obtain ⟨g2, cap2, rfl, hb2, hg2, hlc, hc2, hcell2⟩ := B8.at_
          have HC2 := Lib.hid hcell2
          clear hcell2 K9 K8 HB hcr
          go_wp2_with (at_builtin; refine wpList_append_own _ rfl (.tmp 55) (.tmp 57) 43 rfl w.heap.size 5 i0 (.int .u8 0) 1 1 Try.underlying43 hi0 hz0 hz1 hz2 rfl (by decide) _ _ _ rfl HB8.own ⟨g2, 0, none⟩ M.length cap2 (M.map (Value.int .u8)) rfl (by simp) ?c1 ?c2 ?c3 ?c4 ?c5 ?_)
          case c1 =>
            intro j u hj
            rw [add_plain, Nat.zero_add]
            exact HC2.out j u hj
          case c2 => intro u hu; simp at hu; obtain ⟨b, _, rfl⟩ := hu; rfl
          case c3 => unfold maxLen; omega
          case c4 => omega
          case c5 => exact hz8
          intro v' w9 ho9 hg9 hn9
          have K11 : Kept (fun i => w.heap.size ≤ i) w8 w9 := own_kept HB8.own (Kept.refl _ w8) hg9
          have K12 := Lib.hid (K10.out.trans K11)
          have hz9 := Nat.le_trans hz8 K11.size
          have B9 : Hid (Bs w9 w.heap.size v' (enc U ++ (t.take (k + 1)).flatMap enc)) := by
            show Bs w9 w.heap.size v' (enc U ++ (t.take (k + 1)).flatMap enc)
            rw [HF.out, ← List.append_assoc, ← HLL.out]
            refine ⟨?_, fun h => HB8.nn (hn9.1 h).1⟩
            rw [List.length_append, List.map_append]
            exact ho9
          clear ho9 hg9 hn9 K11 HB8
          go_wp2_with fail
          go_roundw
          case rel => exact ⟨k + 1, by omega, by go_num, B9.out, hz9, K12.out⟩
          case measure => simp [intOf]; omega
        · obtain rfl : k = T := by omega
          have t1 : ¬(k : Int) < (k : Int) := by omega
          have hLL := HLL.out
          rw [List.take_of_length_le (by omega)] at hLL
          have HL2 := Lib.hid hLL
          have hB := HB.out
          obtain ⟨gg, cc, rfl, hcv⟩ := hB.text
          clear hB hTl hLL HLL HB
          go_wp2_with fail
          go_ret2
          exact ⟨by rw [← HL2.out]; rfl, K8.out⟩
  · replace c0 : w.cell? ⟨g, o, none⟩ = some (.int .u64 2) := c0
    replace hy2 := hy2 rfl
    clear hy1
    go_enter Try.func13, Try.ntmps13
    go_wp2
    go_quiet (fail)
    go_wp2
    have d0 : (w.drewN nq).cell? ⟨g, o, none⟩ = some (.int .u64 2) := c0
    have d1 : (w.drewN nq).cell? ⟨g, o + 1, none⟩ = some (.int .u64 y) := c1
    have n1 : 0 < n := by omega
    have n2 : 1 < n := by omega
    have n3 : ¬n ≤ 1 := by omega
    have n4 : ¬n = 0 := by omega
    clear c0 c1 HU
    have K0 := Lib.hid ((Kept.refl (fun i => w.heap.size ≤ i) w).drewN nq)
    have hgl0 : g < (w.drewN nq).heap.size := hgl
    have hw0 : Hid (w.heap.size = (w.drewN nq).heap.size) := rfl
    generalize w.drewN nq = w0 at d0 d1 K0 hgl0 hw0 ⊢
    go_still_tail 8, (by kernel_rfl)
    change wpList _ _ _ _ _ w0.drew
    have K1 := Lib.hid (K0.out.drew)
    have hgl1 : g < w0.drew.heap.size := hgl0
    have hw1 : Hid (w.heap.size = w0.drew.heap.size) := hw0
    clear K0 hgl0 hw0 d0 d1
    generalize w0.drew = w2 at K1 hgl1 hw1 ⊢
    go_wp2_with fail
    refine (ONE2.out _).mono ?_
    rintro e w6 ⟨v, rfl, B6, K6⟩
    have K7 := Lib.hid (K1.out.trans (K6.mono (fun i h => by have := hw1.out; omega)))
    have HT : Hid (∀ i, i < t.length → w6.cell? ⟨g, o + 2 + i, none⟩ = some (.int .u64 ((t.getD i 0 : Nat) : Int))) := fun i hi =>
      (World.cell?_of_block (w := w) (a := ⟨g, o + 2 + i, none⟩) (K7.out.block g hgl (by omega))).trans (HC.out i hi)
    have hgl6 := Nat.lt_of_lt_of_le hgl1 K6.size
    have hz6 : w.heap.size ≤ w6.heap.size := K7.out.size
    have HB6 := Lib.hid (B6.lower (b2 := w.heap.size) (by have := hw1.out; omega))
    have HCC := HC
    clear K1 K6 B6 HC
    by_cases hcap2 : cap = 2
    · obtain rfl := hcap2
      obtain rfl : n = 2 := by omega
      obtain rfl : t = [] := List.eq_nil_of_length_eq_zero (by have := HN.out; omega)
      go_wp2_with fail
      go_loopw [51, 4] (fun i v' wr => i = .int .i64 0 ∧ v' = v ∧ wr = w6) (fun _ _ _ => 0)
      case atStart => exact ⟨rfl, rfl, rfl⟩
      case round =>
        obtain ⟨rfl, rfl, rfl⟩ := hrel
        obtain ⟨gg, cc, rfl, hcv⟩ := HB6.out.text
        go_wp2_with fail
        go_ret2
        refine ⟨?_, K7.out⟩
        simp
    · have hc3 : 2 < cap := by have := HN.out; omega
      go_wp2_with fail
      generalize hT : n - 2 = T
      have HTT : Hid (T = t.length) := by
        show T = t.length
        have := HN.out
        omega
      clear hT
      go_loopw [51, 4] (fun i v' wr => ∃ k : Nat, k ≤ T ∧ i = .int .i64 k ∧ Bs wr w.heap.size v' (enc U ++ (t.take k).flatMap enc) ∧ w.heap.size ≤ wr.heap.size ∧ Kept (fun i => w.heap.size ≤ i) w wr) (fun i _ _ => T - (intOf i).toNat)
      case atStart => exact ⟨0, by omega, rfl, by simpa using HB6.out, hz6, K7.out⟩
      case round =>
        obtain ⟨k, hk, rfl, B, hz, K⟩ := hrel
        obtain ⟨L, hL⟩ : ∃ L, L = enc U ++ (t.take k).flatMap enc := ⟨_, rfl⟩
        rw [← hL] at B
        have HLL := Lib.hid hL
        have HB := Lib.hid B
        have K8 := Lib.hid K
        clear B K HB6 K7 hL
        have hTl := HTT.out
        have hTs : T ≤ 1000 := by omega
        by_cases hlt : k < T
        · have hkt : k < t.length := by omega
          have t1 : (k : Int) < (T : Int) := by omega
          have hcell : w6.cell? ⟨g, o + 2 + k, none⟩ = some (.int .u64 ((t.getD k 0 : Nat) : Int)) := HT.out k hkt
          have hcr : wr.cell? ⟨g, o + 2 + k, none⟩ = some (.int .u64 ((t.getD k 0 : Nat) : Int)) :=
            (World.cell?_of_block (w := w) (a := ⟨g, o + 2 + k, none⟩) (K8.out.block g hgl (by omega))).trans (HCC.out k hkt)
          have ha : t.getD k 0 < 18446744073709551616 := HS.out _ (by simp [List.getD, hkt])
          have hfl : L.length ≤ 10010 := by
            rw [HLL.out]
            have h1 := (enc_len U HLT.out).2
            have h2 := flat_len (t.take k) (fun m hm => HS.out m (List.mem_of_mem_take hm))
            rw [List.length_take] at h2
            rw [List.length_append]
            omega
          have HF := Lib.hid (take_flat t k hkt)
          have ONEA := Lib.hid (one_c (t.getD k 0) ha)
          have hea := (enc_len (t.getD k 0) ha).2
          clear hcell ha hTl
          generalize t.getD k 0 = a at hcr HF ONEA hea
          obtain ⟨M, hM⟩ : ∃ M, M = enc a := ⟨_, rfl⟩
          rw [← hM] at HF ONEA hea
          clear hM
          go_wp2_with fail
          refine (ONEA.out _).mono ?_
          rintro e w8 ⟨v2, rfl, B8, K9⟩
          have HB8 := HB.out.old K9 (fun i h => h)
          have K10 := Lib.hid (K8.out.trans (K9.mono (fun i h => by omega)))
          have hz8 := Nat.le_trans hz K9.size
          obtain ⟨g2, cap2, rfl, hb2, hg2, hlc, hc2, hcell2⟩ := B8.at_
          have HC2 := Lib.hid hcell2
          clear hcell2 K9 K8 HB hcr
          go_wp2_with (at_builtin; refine wpList_append_own _ rfl (.tmp 55) (.tmp 57) 43 rfl w.heap.size 5 i0 (.int .u8 0) 1 1 Try.underlying43 hi0 hz0 hz1 hz2 rfl (by decide) _ _ _ rfl HB8.own ⟨g2, 0, none⟩ M.length cap2 (M.map (Value.int .u8)) rfl (by simp) ?c1 ?c2 ?c3 ?c4 ?c5 ?_)
          case c1 =>
            intro j u hj
            rw [add_plain, Nat.zero_add]
            exact HC2.out j u hj
          case c2 => intro u hu; simp at hu; obtain ⟨b, _, rfl⟩ := hu; rfl
          case c3 => unfold maxLen; omega
          case c4 => omega
          case c5 => exact hz8
          intro v' w9 ho9 hg9 hn9
          have K11 : Kept (fun i => w.heap.size ≤ i) w8 w9 := own_kept HB8.own (Kept.refl _ w8) hg9
          have K12 := Lib.hid (K10.out.trans K11)
          have hz9 := Nat.le_trans hz8 K11.size
          have B9 : Hid (Bs w9 w.heap.size v' (enc U ++ (t.take (k + 1)).flatMap enc)) := by
            show Bs w9 w.heap.size v' (enc U ++ (t.take (k + 1)).flatMap enc)
            rw [HF.out, ← List.append_assoc, ← HLL.out]
            refine ⟨?_, fun h => HB8.nn (hn9.1 h).1⟩
            rw [List.length_append, List.map_append]
            exact ho9
          clear ho9 hg9 hn9 K11 HB8
          go_wp2_with fail
          go_roundw
          case rel => exact ⟨k + 1, by omega, by go_num, B9.out, hz9, K12.out⟩
          case measure => simp [intOf]; omega
        · obtain rfl : k = T := by omega
          have t1 : ¬(k : Int) < (k : Int) := by omega
          have hLL := HLL.out
          rw [List.take_of_length_le (by omega)] at hLL
          have HL2 := Lib.hid hLL
          have hB := HB.out
          obtain ⟨gg, cc, rfl, hcv⟩ := hB.text
          clear hB hTl hLL HLL HB
          go_wp2_with fail
          go_ret2
          exact ⟨by rw [← HL2.out]; rfl, K8.out⟩
end Go.Proofs.Ytgloehelfdmmaaa.Oid
