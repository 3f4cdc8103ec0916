/- The document's Get, for every content. -/
import Derived.Test.YtgloehelfdmmaaaWrong
import Derived.Deep.RegionLaw
namespace Go.Proofs.Ytgloehelfdmmaaa.Oid
set_option linter.unusedVariables false
open Go.RowKit

theorem step_append_u64 {ops : Array Oper} {o : Oper} {a : Act} {w : World} {K : Act → World → Prop} {Q : Exit → Act → World → Prop} {E : Prop} (hg : o.guard = none) (s x : Operand)
    (hop : o.op = .call { callee := .builtin .append, args := #[s, x], argTypes := #[30, 30] }) (base : Nat) (v : Value) (n : Nat) (xs : List Value) (hs : a.eval s = v) (hown : w.ownsRow base 40 1 v n xs)
    (ad : Addr) (m c : Nat) (news : List Value) (hx : a.eval x = .slice (some ad) m c) (hl : news.length = m * 1) (hnews : ∀ j u, news[j]? = some u → w.cell? (ad.add j) = some u) (h1 : ∀ u ∈ news, u.oneCell' = true)
    (h63 : n + m ≤ maxLen) (hbytes : (n + m) * 8 ≤ 140737488355328) (hbase : base ≤ w.heap.size)
    (hK : ∀ v' w', w'.ownsRow base 40 1 v' (n + m) (xs ++ news) → w.grownBy w' v.ownBlock → (v' = .slice none 0 0 ↔ v = .slice none 0 0 ∧ m = 0) → K (a.put o.dst v') w') :
    if Region.wanted o (yielded ops a.tmps) = true then Oper.wp Try.prog o a w K Q else E := by
  have hw : Region.wanted o (yielded ops a.tmps) = true := by simp [Region.wanted, hg]
  rw [if_pos hw]
  obtain ⟨i0, hi, hz0, hz1, hz2⟩ := info_parts info40
  obtain ⟨v', w', hr, ho, hgr, hn⟩ := run_append_own w (P := Try.prog) base 30 o.type 40 i0 _ 1 8 Try.underlying30 hi hz0 hz1 hz2 rfl (by decide) v n xs hown ad m c news hl hnews h1 h63 hbytes hbase
  unfold Oper.wp
  simp [execOp, hop, resolve, invoke, builtin, hs, hx, hr, Result.andThen]
  exact hK v' w' ho hgr hn
theorem Ns.at_ {w : World} {base : Nat} {v : Value} {l : List Nat} (h : Ns w base v l) (hl : l ≠ []) : ∃ g cap, v = .slice (some ⟨g, 0, none⟩) l.length cap ∧ g < w.heap.size ∧ l.length ≤ cap ∧ cap ≤ 9223372036854775807 ∧ ∀ i, i < l.length → w.cell? ⟨g, i, none⟩ = some (.int .u64 ((l.getD i 0 : Nat) : Int)) := by
  rcases h.own.2 with ⟨rfl, h0⟩ | ⟨g, cap, cur, rfl, hb, hg, hn, hm, hsz, ht⟩
  · exact absurd (h.nn rfl) hl
  · refine ⟨g, cap, rfl, (Array.getElem?_eq_some_iff.1 hg).1, hn, by unfold maxLen at hm; omega, fun i hi => ?_⟩
    have e : cur[i]? = some (.int .u64 ((l.getD i 0 : Nat) : Int)) := by
      have e1 : (cur.toList.take (l.length * 1))[i]? = (l.map fun n : Nat => Value.int .u64 (n : Int))[i]? := by rw [ht]
      rw [List.getElem?_take_of_lt (by omega), List.getElem?_map, Array.getElem?_toList] at e1
      rw [e1]
      simp [List.getD, List.getElem?_eq_getElem hi]
    unfold World.cell?
    rw [hg]
    simpa using e
theorem get_wrong (c : ByteArray) (h1 : 1 ≤ c.size) (h : wrongS (c.size : Int) c ≠ -1) : getS (bl c) = none := by
  unfold getS
  rw [if_pos]
  by_cases hr : right false (bl c) = false
  · exact .inr hr
  · refine absurd ?_ h
    have hne : bl c ≠ [] := fun h => by
      have := congrArg List.length h
      rw [bl_length, List.length_nil] at this
      omega
    unfold wrongS
    rw [if_neg (by omega)]
    have := (wr_right (bl c) false 0 hne).2 (by simpa using hr)
    rw [Nat.zero_add, bl_length] at this
    exact this
theorem get_right (c : ByteArray) (h1 : 1 ≤ c.size) (h : wrongS (c.size : Int) c = -1) : getS (bl c) = (dec 0 (bl c)).map split ∧ ∀ l, dec 0 (bl c) = some l → l ≠ [] := by
  have hne : bl c ≠ [] := fun h => by
    have := congrArg List.length h
    rw [bl_length, List.length_nil] at this
    omega
  unfold wrongS at h
  rw [if_neg (by omega)] at h
  have hr : right false (bl c) = true := by
    refine (wr_right (bl c) false 0 hne).1 ?_
    rw [Nat.zero_add, bl_length]
    exact h
  refine ⟨?_, fun l hl => dec_some (bl c) false 0 l hne hr hl⟩
  unfold getS
  rw [if_neg (by rintro (h | h); exact hne h; rw [hr] at h; simp at h)]
theorem rget_no (c : ByteArray) (hc : c.size ≤ 2000) (h : c.size = 0 ∨ wrongS (c.size : Int) c ≠ -1) (w : World) : Calls Try.prog 16 #[.string c] w (GetPost none w) := by
  by_cases h0 : c.size = 0
  · have q : ((c.size : Int) == 0) = true := by rw [h0]; rfl
    clear h h0 hc
    go_enter Try.func16, Try.ntmps16
    go_wp2_with fail
    go_ret2
    exact ⟨rfl, Kept.refl _ w⟩
  · have q : ((c.size : Int) == 0) = false := beq_eq_false_iff_ne.2 (by omega)
    have hw := h.resolve_left h0
    have WR := wrong_c (c.size : Int) c w hc (by omega)
    obtain ⟨R, hR⟩ : ∃ R, R = wrongS (c.size : Int) c := ⟨_, rfl⟩
    rw [← hR] at WR hw
    have q2 : (R != -1) = true := by simpa using hw
    have HWR := Lib.hid WR
    clear WR hR hw h h0
    go_enter Try.func16, Try.ntmps16
    go_wp2_with fail
    refine HWR.out.mono ?_
    rintro e w1 ⟨rfl, rfl⟩
    go_wp2_with fail
    go_ret2
    exact ⟨rfl, Kept.refl _ w⟩
set_option maxHeartbeats 2000000 in
theorem rget_c (c : ByteArray) (hc : c.size ≤ 2000) (w : World) : Calls Try.prog 16 #[.string c] w (GetPost (getS (bl c)) w) := by
  by_cases hno : c.size = 0 ∨ wrongS (c.size : Int) c ≠ -1
  · have : getS (bl c) = none := by
      rcases hno with h | h
      · unfold getS
        rw [if_pos (.inl (List.eq_nil_of_length_eq_zero (by rw [bl_length]; exact h)))]
      · by_cases h1 : 1 ≤ c.size
        · exact get_wrong c h1 h
        · unfold getS
          rw [if_pos (.inl (List.eq_nil_of_length_eq_zero (by rw [bl_length]; omega)))]
    rw [this]
    exact rget_no c hc hno w
  · have h1 : 1 ≤ c.size := by omega
    have hw : wrongS (c.size : Int) c = -1 := by
      by_cases h : wrongS (c.size : Int) c = -1
      · exact h
      · exact absurd (.inr h) hno
    obtain ⟨hg, hne⟩ := get_right c h1 hw
    have q : ((c.size : Int) == 0) = false := beq_eq_false_iff_ne.2 (by omega)
    have WR := wrong_c (c.size : Int) c w hc (by omega)
    rw [hw] at WR
    have HWR := Lib.hid WR
    obtain ⟨D, hD⟩ : ∃ D, D = dec 0 (bl c) := ⟨_, rfl⟩
    rw [← hD] at hg hne
    rw [hg]
    have HD := Lib.hid hD
    have HNE := Lib.hid hne
    obtain ⟨i0, hi0, hz0, hz1, hz2⟩ := info_parts info40
    clear WR hw hno hg hD hne
    go_enter Try.func16, Try.ntmps16
    go_wp2_with fail
    refine HWR.out.mono ?_
    rintro e w1 ⟨rfl, rfl⟩
    go_wp2_with fail
    have K2 := Lib.hid ((Kept.refl (fun i => w.heap.size ≤ i) w).alloc (.cells #[] 40))
    have N2 : Ns (w.alloc (.cells #[] 40)) w.heap.size (.slice (some ⟨w.heap.size, 0, none⟩) 0 0) [] := ⟨World.ownsRow_lit (base := w.heap.size) (e := 40) (size := 1) w #[] 0 (Nat.le_refl _) (by simp [maxLen]) (by simp), fun h => rfl⟩
    go_loopw [6, 5, 4] (fun i nn v wr => ∃ (k N : Nat) (l : List Nat), k ≤ c.size ∧ i = .int .i64 k ∧ nn = .int .u64 N ∧ l.length ≤ k ∧ Ns wr w.heap.size v l ∧ w.heap.size ≤ wr.heap.size ∧ (dec N ((bl c).drop k)).map (fun t => l ++ t) = D ∧ Kept (fun i => w.heap.size ≤ i) w wr) (fun i _ _ _ => c.size - (intOf i).toNat)
    case atStart => exact ⟨0, 0, [], by omega, rfl, rfl, by simp, N2, by simp, by rw [List.drop_zero, HD.out]; cases dec 0 (bl c) <;> rfl, K2.out⟩
    case round =>
      obtain ⟨k, N, l, hk, rfl, rfl, hll, B, hz, hd, K⟩ := hrel
      have HB := Lib.hid B
      have HDD := Lib.hid hd
      have K3 := Lib.hid K
      clear B hd K K2 N2
      by_cases hlt : k < c.size
      · have t1 : (k : Int) < (c.size : Int) := by omega
        have hbb := byte_at c k hlt
        have hdr := HDD.out
        rw [bl_drop c k hlt, dec] at hdr
        obtain ⟨b, hb⟩ : ∃ b : Int, ((c[k]'hlt).toNat : Int) = b := ⟨_, rfl⟩
        rw [hb] at hbb hdr
        have HDR := Lib.hid hdr
        obtain ⟨b0, b1⟩ := hbb
        clear hdr HDD
        by_cases hN : 144115188075855871 < N
        · have hN' : (144115188075855871 : Int) < (N : Int) := by omega
          have hDn : D = none := by
            rw [← HDR.out, if_pos hN]
            rfl
          subst hDn
          go_wp2_with fail
          go_ret2
          exact ⟨rfl, K3.out⟩
        · have hN' : ¬(144115188075855871 : Int) < (N : Int) := by omega
          obtain ⟨M, hM⟩ : ∃ M, M = 128 * N + (b % 128).toNat := ⟨_, rfl⟩
          have eM : 128 * (N : Int) + b % 128 = (M : Int) := by omega
          have HM := Lib.hid hM
          clear hM
          by_cases hlo : b < 128
          · have HX : Hid ((dec 0 ((bl c).drop (k + 1))).map (fun t => (l ++ [M]) ++ t) = D) := by
              show (dec 0 ((bl c).drop (k + 1))).map (fun t => (l ++ [M]) ++ t) = D
              rw [← HDR.out, if_neg hN, if_pos hlo, ← HM.out]
              cases dec 0 ((bl c).drop (k + 1)) with
              | none => rfl
              | some t => simp
            obtain ⟨A, cp, rfl⟩ := HB.out.form
            clear HDR
            go_wp2_with (at_builtin; refine wpList_append_own _ rfl (.tmp 39) (.tmp 41) 30 rfl w.heap.size 40 i0 (.int .u64 0) 1 8 Try.underlying30 hi0 hz0 hz1 hz2 rfl (by decide) _ _ _ rfl (HB.out.own.alloc _) ⟨wr.heap.size, 0, none⟩ 1 1 [.int .u64 (M : Int)] rfl rfl ?a1 ?a2 ?a3 ?a4 ?a5 ?_)
            case a2 => first | rfl | (intro u hu; simp at hu; subst hu; rfl)
            case a3 => unfold maxLen; omega
            case a4 => omega
            case a5 => first | omega | (simp; omega)
            intro v' w8 ho hg hn
            have K7 := own_kept (HB.out.own.alloc (.cells #[.int .u64 (M : Int)] 40)) (w := wr) ((Kept.refl _ _).alloc _) hg
            have K8 := Lib.hid (K3.out.trans K7)
            have hz8 := Nat.le_trans hz K7.size
            have B8 : Hid (Ns w8 w.heap.size v' (l ++ [M])) := ns_next ho (fun e => by first | exact hn e | exact absurd (hn.1 e).2 (by simp))
            clear ho hg hn K7
            go_wp2_with fail
            go_roundw
            case rel => exact ⟨k + 1, 0, l ++ [M], by omega, by go_num, rfl, by simp; omega, B8.out, hz8, HX.out, K8.out⟩
            case measure => simp [intOf]; omega
          · have HX : Hid ((dec M ((bl c).drop (k + 1))).map (fun t => l ++ t) = D) := by
              show (dec M ((bl c).drop (k + 1))).map (fun t => l ++ t) = D
              rw [← HDR.out, if_neg hN, if_neg hlo, ← HM.out]
            clear HDR
            go_wp2_with fail
            go_roundw
            case rel => exact ⟨k + 1, M, l, by omega, by go_num, rfl, by omega, HB.out, hz, HX.out, K3.out⟩
            case measure => simp [intOf]; omega
      · obtain rfl : k = c.size := by omega
        have t1 : ¬(c.size : Int) < (c.size : Int) := by omega
        have hD : D = some l := by
          rw [← HDD.out, List.drop_eq_nil_of_le (by rw [bl_length]; exact Nat.le_refl _), dec]
          simp
        subst hD
        have hl := HNE.out l rfl
        have HSM : Hid (∀ n ∈ l, n < 18446744073709551616) := dec_small (bl c) 0 l HD.out.symm
        obtain ⟨g, cap, rfl, hg, hcap, hcm, hcell⟩ := HB.out.at_ hl
        obtain ⟨x, t, rfl⟩ : ∃ x t, l = x :: t := by
          cases l with
          | nil => exact absurd rfl hl
          | cons x t => exact ⟨x, t, rfl⟩
        have c0 : wr.cell? ⟨g, 0, none⟩ = some (.int .u64 (x : Int)) := hcell 0 (by simp)
        have hct : ∀ i, i < t.length → wr.cell? ⟨g, 1 + i, none⟩ = some (.int .u64 ((t.getD i 0 : Nat) : Int)) := fun i hi => by
          have := hcell (i + 1) (by simp; omega)
          rw [Nat.add_comm 1 i]
          simpa using this
        have HCT := Lib.hid hct
        have hz8 : w.heap.size ≤ wr.drew.heap.size := hz
        have hgd : g < wr.drew.heap.size := hg
        have hlen : t.length ≤ 2000 := by simp at hll; omega
        rw [show (x :: t).length = t.length + 1 from rfl] at hcap
        have HSP : Hid (split (x :: t) = min (x / 40) 2 :: (x - 40 * min (x / 40) 2) :: t) := rfl
        clear hcell hct hl HNE HDD HD
        have HX : Hid (x < 18446744073709551616) := HSM.out x (by simp)
        by_cases hcap1 : cap = 1
        · obtain rfl := hcap1
          obtain rfl : t = [] := List.eq_nil_of_length_eq_zero (by omega)
          by_cases h80 : x < 80
          · obtain ⟨F, hF⟩ : ∃ F, F = x / 40 := ⟨_, rfl⟩
            obtain ⟨G, hG⟩ : ∃ G, G = x - 40 * F := ⟨_, rfl⟩
            have HFG : Hid (min (x / 40) 2 = F ∧ x - 40 * min (x / 40) 2 = G) := ⟨by omega, by omega⟩
            have eF : (x : Int) / 40 = (F : Int) := by omega
            have u1 : IntKind.u64.wrap (40 * (F : Int)) = 40 * (F : Int) := by rw [IntKind.wrap_u64]; omega
            have u2 : IntKind.u64.wrap ((x : Int) - 40 * (F : Int)) = (G : Int) := by rw [IntKind.wrap_u64]; omega
            have hx80 : (x : Int) < 80 := by omega
            clear hF hG
            go_wp2_with fail
            go_region_law ((refine step_append_u64 rfl (.tmp 58) (.tmp 60) rfl w.heap.size (.slice (some ⟨wr.heap.size, 0, none⟩) 2 2) 2 [.int .u64 (F : Int), .int .u64 (G : Int)] rfl (World.ownsRow_lit (base := w.heap.size) (e := 40) (size := 1) wr #[.int .u64 (F : Int), .int .u64 (G : Int)] 2 hz (by simp [maxLen]) (by simp)).drew ⟨g, 0, none⟩ 0 0 [] rfl (by simp) (fun j u hj => by simp at hj) (by simp) (by unfold maxLen; omega) (by omega) (by simp; omega) ?_; intro v' w8 ho hgr hn'))
            all_goals
              have K7 : Kept (fun i => w.heap.size ≤ i) wr w8 := own_kept ((World.ownsRow_lit (base := w.heap.size) (e := 40) (size := 1) wr #[.int .u64 (F : Int), .int .u64 (G : Int)] 2 hz (by simp [maxLen]) (by simp)).drew) ((Kept.refl _ wr).alloc _).drew hgr
              have K8 := Lib.hid (K3.out.trans K7)
              have NN : Hid (Ns w8 w.heap.size v' (F :: G :: [])) := ⟨by
                have h := ho
                rw [Nat.add_comm] at h
                exact h, fun e => by have := (hn'.1 e).1; simp at this⟩
              clear ho hgr hn' K7
              go_wp2_with fail
              go_ret2
              refine ⟨⟨_, rfl, ?_⟩, K8.out⟩
              rw [HSP.out, HFG.out.2, HFG.out.1]
              exact NN.out
          · obtain ⟨G, hG⟩ : ∃ G, G = x - 80 := ⟨_, rfl⟩
            have HFG : Hid (min (x / 40) 2 = 2 ∧ x - 40 * min (x / 40) 2 = G) := ⟨by omega, by omega⟩
            have u0 : IntKind.u64.wrap 80 = 80 := by decide
            have u1 : IntKind.u64.wrap (40 * 2) = 80 := by decide
            have u2 : IntKind.u64.wrap ((x : Int) - 80) = (G : Int) := by rw [IntKind.wrap_u64]; have := HX.out; omega
            have hx80 : ¬(x : Int) < 80 := by omega
            clear hG
            go_wp2_with fail
            go_region_law ((refine step_append_u64 rfl (.tmp 58) (.tmp 60) rfl w.heap.size (.slice (some ⟨wr.heap.size, 0, none⟩) 2 2) 2 [.int .u64 2, .int .u64 (G : Int)] rfl (World.ownsRow_lit (base := w.heap.size) (e := 40) (size := 1) wr #[.int .u64 2, .int .u64 (G : Int)] 2 hz (by simp [maxLen]) (by simp)).drew ⟨g, 0, none⟩ 0 0 [] rfl (by simp) (fun j u hj => by simp at hj) (by simp) (by unfold maxLen; omega) (by omega) (by simp; omega) ?_; intro v' w8 ho hgr hn'))
            all_goals
              have K7 : Kept (fun i => w.heap.size ≤ i) wr w8 := own_kept ((World.ownsRow_lit (base := w.heap.size) (e := 40) (size := 1) wr #[.int .u64 2, .int .u64 (G : Int)] 2 hz (by simp [maxLen]) (by simp)).drew) ((Kept.refl _ wr).alloc _).drew hgr
              have K8 := Lib.hid (K3.out.trans K7)
              have NN : Hid (Ns w8 w.heap.size v' (2 :: G :: [])) := ⟨by
                have h := ho
                rw [Nat.add_comm] at h
                exact h, fun e => by have := (hn'.1 e).1; simp at this⟩
              clear ho hgr hn' K7
              go_wp2_with fail
              go_ret2
              refine ⟨⟨_, rfl, ?_⟩, K8.out⟩
              rw [HSP.out, HFG.out.2, HFG.out.1]
              exact NN.out
        · have hcap2 : 1 < cap := by omega
          have n1 : 0 < t.length + 1 := by omega
          have n2 : 1 ≤ t.length + 1 := by omega
          have n3 : (1 : Int) ≤ (t.length : Int) + 1 := by omega
          by_cases h80 : x < 80
          · obtain ⟨F, hF⟩ : ∃ F, F = x / 40 := ⟨_, rfl⟩
            obtain ⟨G, hG⟩ : ∃ G, G = x - 40 * F := ⟨_, rfl⟩
            have HFG : Hid (min (x / 40) 2 = F ∧ x - 40 * min (x / 40) 2 = G) := ⟨by omega, by omega⟩
            have eF : (x : Int) / 40 = (F : Int) := by omega
            have u1 : IntKind.u64.wrap (40 * (F : Int)) = 40 * (F : Int) := by rw [IntKind.wrap_u64]; omega
            have u2 : IntKind.u64.wrap ((x : Int) - 40 * (F : Int)) = (G : Int) := by rw [IntKind.wrap_u64]; omega
            have hx80 : (x : Int) < 80 := by omega
            clear hF hG
            go_wp2_with fail
            go_region_law ((refine step_append_u64 rfl (.tmp 58) (.tmp 60) rfl w.heap.size (.slice (some ⟨wr.heap.size, 0, none⟩) 2 2) 2 [.int .u64 (F : Int), .int .u64 (G : Int)] rfl (World.ownsRow_lit (base := w.heap.size) (e := 40) (size := 1) wr #[.int .u64 (F : Int), .int .u64 (G : Int)] 2 hz (by simp [maxLen]) (by simp)).drew ⟨g, 1, none⟩ t.length (cap - 1) (t.map fun n : Nat => Value.int .u64 (n : Int)) rfl (by simp) (fun j u hj => by
              obtain ⟨hj1, rfl⟩ := vals_get t j u hj
              rw [add_plain]
              show (wr.alloc _).cell? _ = _
              rw [World.cell?_alloc_lt _ _ _ hg]
              exact HCT.out j hj1) (fun u hu => by simp at hu; obtain ⟨b, _, rfl⟩ := hu; rfl) (by unfold maxLen; omega) (by omega) (by simp; omega) ?_; intro v' w8 ho hgr hn'))
            all_goals
              have K7 : Kept (fun i => w.heap.size ≤ i) wr w8 := own_kept ((World.ownsRow_lit (base := w.heap.size) (e := 40) (size := 1) wr #[.int .u64 (F : Int), .int .u64 (G : Int)] 2 hz (by simp [maxLen]) (by simp)).drew) ((Kept.refl _ wr).alloc _).drew hgr
              have K8 := Lib.hid (K3.out.trans K7)
              have NN : Hid (Ns w8 w.heap.size v' (F :: G :: t)) := ⟨by
                have h := ho
                rw [Nat.add_comm] at h
                exact h, fun e => by have := (hn'.1 e).1; simp at this⟩
              clear ho hgr hn' K7
              go_wp2_with fail
              go_ret2
              refine ⟨⟨_, rfl, ?_⟩, K8.out⟩
              rw [HSP.out, HFG.out.2, HFG.out.1]
              exact NN.out
          · obtain ⟨G, hG⟩ : ∃ G, G = x - 80 := ⟨_, rfl⟩
            have HFG : Hid (min (x / 40) 2 = 2 ∧ x - 40 * min (x / 40) 2 = G) := ⟨by omega, by omega⟩
            have u0 : IntKind.u64.wrap 80 = 80 := by decide
            have u1 : IntKind.u64.wrap (40 * 2) = 80 := by decide
            have u2 : IntKind.u64.wrap ((x : Int) - 80) = (G : Int) := by rw [IntKind.wrap_u64]; have := HX.out; omega
            have hx80 : ¬(x : Int) < 80 := by omega
            clear hG
            go_wp2_with fail
            go_region_law ((refine step_append_u64 rfl (.tmp 58) (.tmp 60) rfl w.heap.size (.slice (some ⟨wr.heap.size, 0, none⟩) 2 2) 2 [.int .u64 2, .int .u64 (G : Int)] rfl (World.ownsRow_lit (base := w.heap.size) (e := 40) (size := 1) wr #[.int .u64 2, .int .u64 (G : Int)] 2 hz (by simp [maxLen]) (by simp)).drew ⟨g, 1, none⟩ t.length (cap - 1) (t.map fun n : Nat => Value.int .u64 (n : Int)) rfl (by simp) (fun j u hj => by
              obtain ⟨hj1, rfl⟩ := vals_get t j u hj
              rw [add_plain]
              show (wr.alloc _).cell? _ = _
              rw [World.cell?_alloc_lt _ _ _ hg]
              exact HCT.out j hj1) (fun u hu => by simp at hu; obtain ⟨b, _, rfl⟩ := hu; rfl) (by unfold maxLen; omega) (by omega) (by simp; omega) ?_; intro v' w8 ho hgr hn'))
            all_goals
              have K7 : Kept (fun i => w.heap.size ≤ i) wr w8 := own_kept ((World.ownsRow_lit (base := w.heap.size) (e := 40) (size := 1) wr #[.int .u64 2, .int .u64 (G : Int)] 2 hz (by simp [maxLen]) (by simp)).drew) ((Kept.refl _ wr).alloc _).drew hgr
              have K8 := Lib.hid (K3.out.trans K7)
              have NN : Hid (Ns w8 w.heap.size v' (2 :: G :: t)) := ⟨by
                have h := ho
                rw [Nat.add_comm] at h
                exact h, fun e => by have := (hn'.1 e).1; simp at this⟩
              clear ho hgr hn' K7
              go_wp2_with fail
              go_ret2
              refine ⟨⟨_, rfl, ?_⟩, K8.out⟩
              rw [HSP.out, HFG.out.2, HFG.out.1]
              exact NN.out
end Go.Proofs.Ytgloehelfdmmaaa.Oid
