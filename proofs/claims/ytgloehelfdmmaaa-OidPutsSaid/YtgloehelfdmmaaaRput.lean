/- The document's Put, for every list of arcs. -/
import Derived.Test.YtgloehelfdmmaaaWrong
namespace Go.Proofs.Ytgloehelfdmmaaa.Oid
set_option linter.unusedVariables false
open Go.RowKit

theorem rput_short (A : Option Addr) (n cap : Nat) (w : World) (h : n < 2) : Calls Try.prog 14 #[.slice A n cap] w (NoPost w) := by
  have h1 : (n : Int) < 2 := by omega
  go_enter Try.func14, Try.ntmps14
  go_wp2
  go_ret2
  exact ⟨rfl, Kept.refl _ w⟩
set_option maxHeartbeats 1000000 in
theorem rput_no (g o n cap : Nat) (x y : Int) (w : World) (hn : 2 ≤ n) (hnm : n ≤ 2000) (c0 : w.cell? ⟨g, o, none⟩ = some (.int .u64 x)) (c1 : w.cell? ⟨g, o + 1, none⟩ = some (.int .u64 y))
    (h : 2 < x ∨ ((x = 0 ∨ x = 1) ∧ 40 ≤ y) ∨ (x = 2 ∧ 18446744073709551535 < y)) : Calls Try.prog 14 #[.slice (some ⟨g, o, none⟩) n cap] w (NoPost w) := by
  have h1 : ¬(n : Int) < 2 := by omega
  have h2 : (0 : Int) < (n : Int) := by omega
  have h3 : (1 : Int) < (n : Int) := by omega
  rcases h with h | ⟨rfl | rfl, h⟩ | ⟨rfl, h⟩
  · go_enter Try.func14, Try.ntmps14
    go_wp2
    go_ret2
    exact ⟨rfl, Kept.refl _ w⟩
  all_goals
    have h4 : ¬y ≤ 39 := by omega
    have h5 : 39 < y := by omega
    go_enter Try.func14, Try.ntmps14
    go_wp2
    go_ret2
    exact ⟨rfl, Kept.refl _ w⟩
set_option maxHeartbeats 1000000 in
theorem rput_ok (g o cap n : Nat) (x y : Nat) (t : List Nat) (w : World) (hgl : g < w.heap.size) (hn : n = t.length + 2) (hnm : t.length ≤ 200) (c0 : w.cell? ⟨g, o, none⟩ = some (.int .u64 x)) (c1 : w.cell? ⟨g, o + 1, none⟩ = some (.int .u64 y))
    (hc : ∀ i, i < t.length → w.cell? ⟨g, o + 2 + i, none⟩ = some (.int .u64 ((t.getD i 0 : Nat) : Int))) (hs : ∀ n ∈ t, n < 18446744073709551616)
    (h : ((x = 0 ∨ x = 1) ∧ y < 40) ∨ (x = 2 ∧ y ≤ 18446744073709551535)) : Calls Try.prog 14 #[.slice (some ⟨g, o, none⟩) n cap] w (TextPost (strOfNums (enc (40 * x + y) ++ t.flatMap enc)) w) := by
  have h1 : ¬(n : Int) < 2 := by omega
  have h2 : (0 : Int) < (n : Int) := by omega
  have h3 : (1 : Int) < (n : Int) := by omega
  have HN := Lib.hid hn
  have HC := Lib.hid hc
  have HS := Lib.hid hs
  obtain ⟨U, hU⟩ : ∃ U, U = 40 * x + y := ⟨_, rfl⟩
  rw [← hU]
  have hlt : U < 18446744073709551616 := by omega
  have ONE := Lib.hid (number_c U hlt)
  have HU := Lib.hid hU
  have HLT := Lib.hid hlt
  clear hc hs hlt hn hU
  have u1 : ∃ z : Int, (U : Int) = z + (y : Int) ∧ ((x = 0 ∧ z = 0) ∨ (x = 1 ∧ z = 40) ∨ (x = 2 ∧ z = 80)) := by
    have h1 := HU.out
    rcases h with ⟨rfl | rfl, h⟩ | ⟨rfl, h⟩
    · exact ⟨0, by omega, .inl ⟨rfl, rfl⟩⟩
    · exact ⟨40, by omega, .inr (.inl ⟨rfl, rfl⟩)⟩
    · exact ⟨80, by omega, .inr (.inr ⟨rfl, rfl⟩)⟩
  obtain ⟨z, u1, hz⟩ := u1
  have ONE2 : Hid (∀ w, Calls Try.prog 19 #[.int .u64 (z + (y : Int))] w fun e w' => e = .returned (.string (strOfNums (enc U))) ∧ Kept (fun i => w.heap.size ≤ i) w w') := fun w => by
    have h := ONE.out w
    rw [u1] at h
    exact h
  clear u1 ONE
  have hy : (x < 2 → ¬39 < (y : Int)) ∧ (x = 2 → ¬18446744073709551535 < (y : Int)) := by omega
  obtain ⟨hy1, hy2⟩ := hy
  clear h HU
  obtain ⟨L0, hL0⟩ : ∃ L0, L0 = enc U := ⟨_, rfl⟩
  have hen := (enc_len U HLT.out).2
  rw [← hL0] at ONE2 hen ⊢
  clear hL0
  rcases hz with ⟨rfl, rfl⟩ | ⟨rfl, rfl⟩ | ⟨rfl, rfl⟩
  · replace c0 : w.cell? ⟨g, o, none⟩ = some (.int .u64 0) := c0
    replace hy1 := hy1 (by omega)
    clear hy2
    go_enter Try.func14, Try.ntmps14
    go_wp2
    have n1 : 0 < n := by omega
    have n2 : 1 < n := by omega
    have n3 : ¬n ≤ 1 := by omega
    have n4 : ¬n = 0 := by omega
    go_still_tail 8, (by kernel_rfl)
    change wpList _ _ _ _ _ w.drew
    have hgl1 : g < w.drew.heap.size := hgl
    have hw1 : Hid (w.heap.size = w.drew.heap.size) := rfl
    have K1 := Lib.hid ((Kept.refl (fun i => w.heap.size ≤ i) w).drew)
    clear c0 c1
    generalize w.drew = w2 at K1 hgl1 hw1 ⊢
    go_wp2_with fail
    refine (ONE2.out _).mono ?_
    rintro e w6 ⟨rfl, K6⟩
    have K7 := Lib.hid (K1.out.trans (K6.mono (fun i h => by have := hw1.out; omega)))
    have hz6 : w.heap.size ≤ w6.heap.size := K7.out.size
    clear K1 K6
    go_wp2_with fail
    go_loopw [5, 4] (fun i v wr => ∃ k : Nat, k ≤ t.length ∧ i = .int .i64 ((k + 2 : Nat) : Int) ∧ v = .string (strOfNums (L0 ++ (t.take k).flatMap enc)) ∧ w.heap.size ≤ wr.heap.size ∧ Kept (fun i => w.heap.size ≤ i) w wr) (fun i _ _ => t.length + 2 - (intOf i).toNat)
    case atStart => exact ⟨0, by omega, rfl, by simp, hz6, K7.out⟩
    case round =>
      obtain ⟨k, hk, rfl, rfl, hz, K⟩ := hrel
      have K8 := Lib.hid K
      clear K K7
      have hln : t.length + 2 = n := HN.out.symm
      by_cases hlt : k < t.length
      · have t1 : (k : Int) + 2 < (n : Int) := by omega
        have hcr : wr.cell? ⟨g, o + (k + 2), none⟩ = some (.int .u64 ((t.getD k 0 : Nat) : Int)) := by
          have h := (World.cell?_of_block (w := w) (a := ⟨g, o + 2 + k, none⟩) (K8.out.block g hgl (by omega))).trans (HC.out k hlt)
          rw [show o + (k + 2) = o + 2 + k from by omega]
          exact h
        have ha : t.getD k 0 < 18446744073709551616 := HS.out _ (by simp [List.getD, hlt])
        have hfl : (L0 ++ (t.take k).flatMap enc).length ≤ 2010 := by
          have h2 := flat_len (t.take k) (fun m hm => HS.out m (List.mem_of_mem_take hm))
          rw [List.length_take] at h2
          rw [List.length_append]
          omega
        have HF := Lib.hid (take_flat t k hlt)
        have ONEA := Lib.hid (number_c (t.getD k 0) ha)
        have hea := (enc_len (t.getD k 0) ha).2
        clear ha
        generalize t.getD k 0 = a at hcr HF ONEA hea
        obtain ⟨M, hM⟩ : ∃ M, M = enc a := ⟨_, rfl⟩
        rw [← hM] at HF ONEA hea
        obtain ⟨L, hL⟩ : ∃ L, L = L0 ++ (t.take k).flatMap enc := ⟨_, rfl⟩
        have HL := Lib.hid hL
        rw [← hL] at hfl ⊢
        have s1 := strOfNums_size L
        have s2 := strOfNums_size M
        clear hM hL hln
        go_wp2_with fail
        refine (ONEA.out _).mono ?_
        rintro e w8 ⟨rfl, K9⟩
        have K10 := Lib.hid (K8.out.trans (K9.mono (fun i h => by omega)))
        have hz8 := Nat.le_trans hz K9.size
        clear K9 K8 hcr
        go_wp2_with fail
        go_roundw
        case rel => exact ⟨k + 1, by omega, by go_num, by rw [← strOfNums_append, HL.out, List.append_assoc, HF.out], hz8, K10.out⟩
        case measure => simp [intOf]; omega
      · obtain rfl : k = t.length := by omega
        have t1 : ¬(t.length : Int) + 2 < (n : Int) := by omega
        have HT : Hid (t.take t.length = t) := List.take_of_length_le (Nat.le_refl _)
        clear hln
        go_wp2_with fail
        go_ret2
        refine ⟨?_, K8.out⟩
        simp
  · replace c0 : w.cell? ⟨g, o, none⟩ = some (.int .u64 1) := c0
    replace hy1 := hy1 (by omega)
    clear hy2
    go_enter Try.func14, Try.ntmps14
    go_wp2
    have n1 : 0 < n := by omega
    have n2 : 1 < n := by omega
    have n3 : ¬n ≤ 1 := by omega
    have n4 : ¬n = 0 := by omega
    go_still_tail 8, (by kernel_rfl)
    change wpList _ _ _ _ _ w.drew
    have hgl1 : g < w.drew.heap.size := hgl
    have hw1 : Hid (w.heap.size = w.drew.heap.size) := rfl
    have K1 := Lib.hid ((Kept.refl (fun i => w.heap.size ≤ i) w).drew)
    clear c0 c1
    generalize w.drew = w2 at K1 hgl1 hw1 ⊢
    go_wp2_with fail
    refine (ONE2.out _).mono ?_
    rintro e w6 ⟨rfl, K6⟩
    have K7 := Lib.hid (K1.out.trans (K6.mono (fun i h => by have := hw1.out; omega)))
    have hz6 : w.heap.size ≤ w6.heap.size := K7.out.size
    clear K1 K6
    go_wp2_with fail
    go_loopw [5, 4] (fun i v wr => ∃ k : Nat, k ≤ t.length ∧ i = .int .i64 ((k + 2 : Nat) : Int) ∧ v = .string (strOfNums (L0 ++ (t.take k).flatMap enc)) ∧ w.heap.size ≤ wr.heap.size ∧ Kept (fun i => w.heap.size ≤ i) w wr) (fun i _ _ => t.length + 2 - (intOf i).toNat)
    case atStart => exact ⟨0, by omega, rfl, by simp, hz6, K7.out⟩
    case round =>
      obtain ⟨k, hk, rfl, rfl, hz, K⟩ := hrel
      have K8 := Lib.hid K
      clear K K7
      have hln : t.length + 2 = n := HN.out.symm
      by_cases hlt : k < t.length
      · have t1 : (k : Int) + 2 < (n : Int) := by omega
        have hcr : wr.cell? ⟨g, o + (k + 2), none⟩ = some (.int .u64 ((t.getD k 0 : Nat) : Int)) := by
          have h := (World.cell?_of_block (w := w) (a := ⟨g, o + 2 + k, none⟩) (K8.out.block g hgl (by omega))).trans (HC.out k hlt)
          rw [show o + (k + 2) = o + 2 + k from by omega]
          exact h
        have ha : t.getD k 0 < 18446744073709551616 := HS.out _ (by simp [List.getD, hlt])
        have hfl : (L0 ++ (t.take k).flatMap enc).length ≤ 2010 := by
          have h2 := flat_len (t.take k) (fun m hm => HS.out m (List.mem_of_mem_take hm))
          rw [List.length_take] at h2
          rw [List.length_append]
          omega
        have HF := Lib.hid (take_flat t k hlt)
        have ONEA := Lib.hid (number_c (t.getD k 0) ha)
        have hea := (enc_len (t.getD k 0) ha).2
        clear ha
        generalize t.getD k 0 = a at hcr HF ONEA hea
        obtain ⟨M, hM⟩ : ∃ M, M = enc a := ⟨_, rfl⟩
        rw [← hM] at HF ONEA hea
        obtain ⟨L, hL⟩ : ∃ L, L = L0 ++ (t.take k).flatMap enc := ⟨_, rfl⟩
        have HL := Lib.hid hL
        rw [← hL] at hfl ⊢
        have s1 := strOfNums_size L
        have s2 := strOfNums_size M
        clear hM hL hln
        go_wp2_with fail
        refine (ONEA.out _).mono ?_
        rintro e w8 ⟨rfl, K9⟩
        have K10 := Lib.hid (K8.out.trans (K9.mono (fun i h => by omega)))
        have hz8 := Nat.le_trans hz K9.size
        clear K9 K8 hcr
        go_wp2_with fail
        go_roundw
        case rel => exact ⟨k + 1, by omega, by go_num, by rw [← strOfNums_append, HL.out, List.append_assoc, HF.out], hz8, K10.out⟩
        case measure => simp [intOf]; omega
      · obtain rfl : k = t.length := by omega
        have t1 : ¬(t.length : Int) + 2 < (n : Int) := by omega
        have HT : Hid (t.take t.length = t) := List.take_of_length_le (Nat.le_refl _)
        clear hln
        go_wp2_with fail
        go_ret2
        refine ⟨?_, K8.out⟩
        simp
  · replace c0 : w.cell? ⟨g, o, none⟩ = some (.int .u64 2) := c0
    replace hy2 := hy2 rfl
    clear hy1
    go_enter Try.func14, Try.ntmps14
    go_wp2
    have n1 : 0 < n := by omega
    have n2 : 1 < n := by omega
    have n3 : ¬n ≤ 1 := by omega
    have n4 : ¬n = 0 := by omega
    go_still_tail 8, (by kernel_rfl)
    change wpList _ _ _ _ _ w.drew
    have hgl1 : g < w.drew.heap.size := hgl
    have hw1 : Hid (w.heap.size = w.drew.heap.size) := rfl
    have K1 := Lib.hid ((Kept.refl (fun i => w.heap.size ≤ i) w).drew)
    clear c0 c1
    generalize w.drew = w2 at K1 hgl1 hw1 ⊢
    go_wp2_with fail
    refine (ONE2.out _).mono ?_
    rintro e w6 ⟨rfl, K6⟩
    have K7 := Lib.hid (K1.out.trans (K6.mono (fun i h => by have := hw1.out; omega)))
    have hz6 : w.heap.size ≤ w6.heap.size := K7.out.size
    clear K1 K6
    go_wp2_with fail
    go_loopw [5, 4] (fun i v wr => ∃ k : Nat, k ≤ t.length ∧ i = .int .i64 ((k + 2 : Nat) : Int) ∧ v = .string (strOfNums (L0 ++ (t.take k).flatMap enc)) ∧ w.heap.size ≤ wr.heap.size ∧ Kept (fun i => w.heap.size ≤ i) w wr) (fun i _ _ => t.length + 2 - (intOf i).toNat)
    case atStart => exact ⟨0, by omega, rfl, by simp, hz6, K7.out⟩
    case round =>
      obtain ⟨k, hk, rfl, rfl, hz, K⟩ := hrel
      have K8 := Lib.hid K
      clear K K7
      have hln : t.length + 2 = n := HN.out.symm
      by_cases hlt : k < t.length
      · have t1 : (k : Int) + 2 < (n : Int) := by omega
        have hcr : wr.cell? ⟨g, o + (k + 2), none⟩ = some (.int .u64 ((t.getD k 0 : Nat) : Int)) := by
          have h := (World.cell?_of_block (w := w) (a := ⟨g, o + 2 + k, none⟩) (K8.out.block g hgl (by omega))).trans (HC.out k hlt)
          rw [show o + (k + 2) = o + 2 + k from by omega]
          exact h
        have ha : t.getD k 0 < 18446744073709551616 := HS.out _ (by simp [List.getD, hlt])
        have hfl : (L0 ++ (t.take k).flatMap enc).length ≤ 2010 := by
          have h2 := flat_len (t.take k) (fun m hm => HS.out m (List.mem_of_mem_take hm))
          rw [List.length_take] at h2
          rw [List.length_append]
          omega
        have HF := Lib.hid (take_flat t k hlt)
        have ONEA := Lib.hid (number_c (t.getD k 0) ha)
        have hea := (enc_len (t.getD k 0) ha).2
        clear ha
        generalize t.getD k 0 = a at hcr HF ONEA hea
        obtain ⟨M, hM⟩ : ∃ M, M = enc a := ⟨_, rfl⟩
        rw [← hM] at HF ONEA hea
        obtain ⟨L, hL⟩ : ∃ L, L = L0 ++ (t.take k).flatMap enc := ⟨_, rfl⟩
        have HL := Lib.hid hL
        rw [← hL] at hfl ⊢
        have s1 := strOfNums_size L
        have s2 := strOfNums_size M
        clear hM hL hln
        go_wp2_with fail
        refine (ONEA.out _).mono ?_
        rintro e w8 ⟨rfl, K9⟩
        have K10 := Lib.hid (K8.out.trans (K9.mono (fun i h => by omega)))
        have hz8 := Nat.le_trans hz K9.size
        clear K9 K8 hcr
        go_wp2_with fail
        go_roundw
        case rel => exact ⟨k + 1, by omega, by go_num, by rw [← strOfNums_append, HL.out, List.append_assoc, HF.out], hz8, K10.out⟩
        case measure => simp [intOf]; omega
      · obtain rfl : k = t.length := by omega
        have t1 : ¬(t.length : Int) + 2 < (n : Int) := by omega
        have HT : Hid (t.take t.length = t) := List.take_of_length_le (Nat.le_refl _)
        clear hln
        go_wp2_with fail
        go_ret2
        refine ⟨?_, K8.out⟩
        simp
theorem rput_c (A : Option Addr) (l : List Nat) (cap : Nat) (w : World) (h : Arcs w A l cap) (hl : l.length ≤ 200) : Calls Try.prog 14 #[.slice A l.length cap] w (PutPost (putS l) w) := by
  by_cases h2 : l.length < 2
  · rw [put_short l h2]
    exact rput_short A l.length cap w h2
  · obtain ⟨g, o, rfl, hg, hc⟩ := h.plain (by omega)
    obtain ⟨x, y, t, rfl⟩ : ∃ x y t, l = x :: y :: t := by
      match l, h2 with
      | x :: y :: t, _ => exact ⟨x, y, t, rfl⟩
      | [x], h => exact absurd (by simp) h
      | [], h => exact absurd (by simp) h
    · have c0 : w.cell? ⟨g, o, none⟩ = some (.int .u64 (x : Int)) := hc 0 (by simp)
      have c1 : w.cell? ⟨g, o + 1, none⟩ = some (.int .u64 (y : Int)) := hc 1 (by simp)
      have hx := h.small x (by simp)
      have hy := h.small y (by simp)
      rw [putS]
      split
      · next hn =>
        refine rput_no g o _ cap x y w (by simp) (by omega) c0 c1 ?_
        omega
      · next hn =>
        refine rput_ok g o cap _ x y t w hg rfl (by simp at hl; omega) c0 c1 (fun i hi => ?_) (fun n hn => h.small n (by simp [hn])) (by omega)
        have := hc (i + 2) (by simp; omega)
        rw [show o + 2 + i = o + (i + 2) from by omega]
        simpa using this
end Go.Proofs.Ytgloehelfdmmaaa.Oid
