/- The walk of WAll. -/
import Derived.Test.YtakhdkfcnanglaaWcom
namespace Go.Proofs.Ytakhdkfcnanglaa.WAll
open Go.RowKit
open Go.Proofs.Ytakhdkfcnanglaa.Obj Go.Proofs.Ytakhdkfcnanglaa.New Go.Proofs.Ytakhdkfcnanglaa.Play Go.Proofs.Ytakhdkfcnanglaa.Ref Go.Proofs.Ytakhdkfcnanglaa.Flow Go.Proofs.Ytakhdkfcnanglaa.Win
set_option linter.unusedVariables false

theorem at_p (b q sb g N Z : Nat) (d : ByteArray) (x : Ab) (w : World) (m : Nat) (hm : x.p = m) (h : W w b q sb g N Z d x) :
    Calls Try.prog 27 #[.pointer (some ⟨b, 0, none⟩)] w fun e w' => e = .returned (.int .i64 m) ∧ w = w' := by
  subst hm
  exact at_c b q sb g N Z d x w h
/-- the bytes as numbers -/
def bl (s : ByteArray) : List Int := s.data.toList.map fun b => (b.toNat : Int)
theorem bl_length (s : ByteArray) : (bl s).length = s.size := by simp [bl]
theorem bl_snoc (s : ByteArray) (k : Nat) (h : k < s.size) : (bl s).take (k + 1) = (bl s).take k ++ [bt s k] := by
  rw [List.take_succ_eq_append_getElem (by rw [bl_length]; exact h)]
  congr 1
  unfold bt
  simp [bl, Array.getD, h]
theorem strOfNums_bl (s : ByteArray) : strOfNums (bl s) = s := by
  unfold strOfNums bl
  rw [List.map_map]
  have e : (fun n : Int => UInt8.ofNat n.toNat) ∘ (fun b : UInt8 => (b.toNat : Int)) = id := by
    funext b
    simp
  rw [e]
  simp
theorem own_keep {S : Nat → Prop} {w w' : World} {base : Nat} {v : Value} {n : Nat} {xs : List Value} (h : w.ownsRow base 5 1 v n xs) (k : Kept S w w') (hS : ∀ i, S i → i < base) : w'.ownsRow base 5 1 v n xs := by
  obtain ⟨h1, h2⟩ := h
  refine ⟨h1, h2.imp id ?_⟩
  rintro ⟨g, cap, cur, hv, hb, hg, hr⟩
  have hlt : g < w.heap.size := (Array.getElem?_eq_some_iff.1 hg).1
  exact ⟨g, cap, cur, hv, hb, (k.block g hlt (fun hs => by have := hS g hs; omega)).trans hg, hr⟩
theorem own_kept {w w1 w' : World} {base : Nat} {v : Value} {n : Nat} {xs : List Value} (h : w.ownsRow base 5 1 v n xs) (k : Kept (fun i => base ≤ i) w w1) (hg : w1.grownBy w' v.ownBlock) : Kept (fun i => base ≤ i) w w' := by
  refine k.trans ⟨hg.os, hg.tape, hg.output, hg.size, fun i hi hs => hg.block i hi (fun e => ?_)⟩
  rcases h.2 with ⟨rfl, _⟩ | ⟨g, cap, cur, rfl, hb, _⟩
  · simp [Value.ownBlock] at e
  · simp [Value.ownBlock] at e
    exact hs (by omega)
theorem own_text {w : World} {base : Nat} {v : Value} {l : List Int} (h : w.ownsRow base 5 1 v l.length (l.map (Value.int .u8))) (hv : v ≠ .slice none 0 0) :
    ∃ g cap, v = .slice (some ⟨g, 0, none⟩) l.length cap ∧ (convert 41 9 (.slice (some ⟨g, 0, none⟩) l.length cap)).run Try.prog w = .ok (.string (strOfNums l)) w := by
  rcases h.2 with ⟨h0, _⟩ | ⟨g, cap, cur, rfl, hb, hg, hn, hm, hs, ht⟩
  · exact absurd h0 hv
  · refine ⟨g, cap, rfl, run_convert_bytes_arg (P := Try.prog) (w := w) 41 5 Try.underlying41 Try.underlying5 g 0 l.length cap l rfl (fun i hi => ?_) 9 Try.underlying9⟩
    have hjc : i < cur.size := by omega
    have e : cur[i]? = some (.int .u8 (l.getD i 0)) := by
      have e1 : (cur.toList.take (l.length * 1))[i]? = (l.map (Value.int .u8))[i]? := by rw [ht]
      rw [List.getElem?_take_of_lt (by omega), List.getElem?_map, Array.getElem?_toList] at e1
      rw [e1]
      simp [List.getD, List.getElem?_eq_getElem hi]
    unfold World.cell?
    rw [hg]
    simpa using e

set_option maxHeartbeats 1000000 in
theorem walk_out (x : Int) (d : ByteArray) (A : Option Addr) (cap : Nat) (st : List (Int × Int)) (w : World) (hd : d.size ≤ 140737488351232) (hn : st.length ≤ 9223372036854775807) (h : 1000 < d.size ∨ 300 < st.length) :
    Calls Try.prog 7 #[.int .i64 x, .string d, .slice A st.length cap] w fun e w' => e = .returned (.bool true) ∧ Below w.heap.size w w' := by
  go_enter Try.func7, Try.ntmps7
  go_wp2_with fail
  refine (awake_w w).mono ?_
  rintro e w1 ⟨rfl, B1⟩
  go_wp2_with fail
  refine (great_w d A st.length cap w1 (by omega) (by omega)).mono ?_
  rintro e w2 ⟨rfl, rfl⟩
  rw [show decide (1000 < d.size ∨ 300 < st.length) = true from by simp; omega]
  go_wp2_with fail
  refine (awake_w w1).mono ?_
  rintro e w2 ⟨rfl, B2⟩
  go_wp2_with fail
  go_ret
  exact ⟨rfl, Obj.step B1 B2⟩

set_option maxRecDepth 10000 in
set_option maxHeartbeats 4000000 in
theorem walk_within (x : Int) (d : ByteArray) (A : Option Addr) (cap : Nat) (st : List (Int × Int)) (w : World) (hd : d.size ≤ 1000) (hn : st.length ≤ 300) (G : Given w A st cap) :
    Calls Try.prog 7 #[.int .i64 x, .string d, .slice A st.length cap] w fun e w' => e = .returned (.bool true) ∧ Below w.heap.size w w' := by
  have hmost := G.most
  have hleb := G.le
  go_enter Try.func7, Try.ntmps7
  go_wp2_with fail
  refine (awake_w w).mono ?_
  rintro e w1 ⟨rfl, B1⟩
  have G1 : Given w1 A st cap := G.keep (Kept.of_below B1 (fun _ => False)) (fun _ h => h.elim)
  have K1 := Lib.hid (Kept.of_below B1 (fun i => w.heap.size ≤ i))
  clear B1 G
  go_wp2_with fail
  refine (great_w d A st.length cap w1 (by omega) (by omega)).mono ?_
  rintro e w2 ⟨rfl, rfl⟩
  rw [show decide (1000 < d.size ∨ 300 < st.length) = false from by simp; omega]
  go_wp2_with fail
  go_loopw [26] (fun i wr => ∃ (k : Nat), k ≤ st.length ∧ i = .int .i64 k ∧ (∀ j, j < k → (st.getD j (0, 0)).2 ≠ 2) ∧ Kept (fun _ => False) w1 wr) (fun i _ => st.length - (intOf i).toNat)
  case atStart => exact ⟨0, by omega, rfl, fun j hj => by omega, Kept.refl _ _⟩
  case round =>
    obtain ⟨k, hk, rfl, hks, KL⟩ := hrel
    have HKS := Lib.hid hks
    have HKL := Lib.hid KL
    clear hks KL
    by_cases hlt : k < st.length
    · have t1 : (k : Int) < (st.length : Int) := by omega
      obtain ⟨g, o, rfl, hgl, hc⟩ := (G1.keep HKL.out (fun _ h => h.elim)).plain (by omega)
      obtain ⟨z0, z1⟩ := hc k hlt
      have HG1 := Lib.hid G1
      clear hc G1
      obtain ⟨m, hm⟩ : ∃ m, m = (st.getD k (0, 0)).1 := ⟨_, rfl⟩
      obtain ⟨kd, hkd⟩ : ∃ kd, kd = (st.getD k (0, 0)).2 := ⟨_, rfl⟩
      rw [← hm] at z0
      rw [← hkd] at z1
      have HKD := Lib.hid hkd
      clear hm hkd
      by_cases h2 : kd = 2
      · subst h2
        go_wp2_with fail
        go_ret
        exact ⟨rfl, Kept.below (Below.refl _ w) ((K1.out.trans (HKL.out.mono (fun _ h => h.elim))).alloc _) (fun i h => h)⟩
      · have h2' : (kd == 2) = false := by simpa using h2
        have H2 := Lib.hid h2
        clear h2
        go_wp2_with fail
        go_roundw
        case rel => exact ⟨k + 1, by omega, by go_num, fun j hj => by
          rcases Nat.lt_or_ge j k with h | h
          · exact HKS.out j h
          · obtain rfl : j = k := by omega
            rw [← HKD.out]
            exact H2.out, HKL.out.alloc _⟩
        case measure => simp [intOf]; omega
    · obtain rfl : k = st.length := by omega
      have t1 : ¬(st.length : Int) < (st.length : Int) := by omega
      have hkinds : ∀ y ∈ st, y.2 ≠ 2 := by
        intro y hy
        obtain ⟨j, hj, rfl⟩ := List.getElem_of_mem hy
        have := HKS.out j hj
        simpa [List.getD, hj] using this
      have HKI := Lib.hid hkinds
      have G2 := G1.keep HKL.out (fun _ h => h.elim)
      have K2 := Lib.hid (K1.out.trans (HKL.out.mono (T := fun i => w.heap.size ≤ i) (fun _ h => h.elim)))
      clear hkinds G1 K1 HKL HKS
      go_wp2_with (at_builtin; refine wpList_copy rfl (.tmp 35) (.tmp 36) rfl A cap st wr G2 (by omega) rfl rfl ?_)
      intro A' cap' w3 G3 K3
      have K4 := Lib.hid (kup K2.out K3 (fun _ h => h.elim))
      clear K3 G2 K2
      go_wp2_with fail
      refine (new_c d A' cap' st w3 G3 (by omega)).mono ?_
      rintro e w4 ⟨sb, g, rfl, S4, K5, hb, hg⟩
      have K6 := Lib.hid (kup K4.out K5 (fun _ h => h.elim))
      have hsb := S4.lb
      have hw3 : w.heap.size ≤ w3.heap.size := K4.out.size
      have HG : Hid (st = [] ∨ (w3.heap.size ≤ g ∧ g < w4.heap.size)) := by
        rcases hg with h | h
        · exact .inl h
        · exact S4.lg.imp id (fun k => ⟨h, k⟩)
      clear K4 G3 K5 hg
      go_wp2_with fail
      refine (win_new x st.length sb g d st w4 S4 (by omega) (by omega)).mono ?_
      rintro e w5 ⟨rfl, X5, K5⟩
      have K7 := Lib.hid (kup K6.out K5 (fun _ h => h.elim))
      have hq5 : w4.heap.size + 1 < w5.heap.size := by obtain ⟨_, _, h⟩ := X5; exact h.wb.lb
      rw [show clampZ st.length = st.length from by unfold clampZ; omega] at X5
      have hn1 : 1 ≤ clampN x := by unfold clampN; omega
      clear K6 K5 S4
      generalize w4.heap.size = q at X5 hsb HG hq5 ⊢
      generalize w3.heap.size = lo at hb HG hw3
      generalize clampN x = N at X5 hn1 ⊢
      go_wp2_with fail
      have X6 := X5.keep ((Kept.refl (fun _ => False) w5).alloc (.cells #[] 5)) (fun h => h) (fun h => h) (fun h => h) (.inr (fun h => h))
      have K8 := Lib.hid (K7.out.alloc (.cells #[] 5))
      have hown := World.ownsRow_lit (base := w5.heap.size) (e := 5) (size := 1) w5 #[] 0 (Nat.le_refl _) (by simp [maxLen]) (by simp)
      have hz6 : w5.heap.size ≤ (w5.alloc (.cells #[] 5)).heap.size := by simp
      generalize (w5.alloc (.cells #[] 5)) = w6 at X6 K8 hown hz6 ⊢
      obtain ⟨base, hbase⟩ : ∃ base, base = w5.heap.size := ⟨_, rfl⟩
      rw [← hbase] at hown hz6 hq5
      rw [← hbase]
      obtain ⟨i0, hi, hzz0, hzz1, hzz2⟩ := info_parts info5
      have hgb : st = [] ∨ g < base := HG.out.imp id (fun h => by omega)
      have HGB := Lib.hid hgb
      clear X5 K7 hbase HG hgb
      go_loopw [51, 11] (fun i v wr => ∃ (k : Nat) (a : Ab), k ≤ d.size ∧ i = .int .i64 k ∧ wr.ownsRow base 5 1 v k (((bl d).take k).map (Value.int .u8)) ∧ v ≠ .slice none 0 0 ∧ base ≤ wr.heap.size ∧ W wr (q + 1) q sb g N st.length d a ∧ a.p = k ∧ a.All st.length d.size ∧ (a.s = [] ∨ g < base) ∧ Kept (fun i => w.heap.size ≤ i) w wr) (fun i _ _ => d.size - (intOf i).toNat)
      case atStart => exact ⟨0, _, by omega, rfl, by simpa using hown, by simp, hz6, X6, rfl, ⟨HKI.out, Nat.le_refl _, .inl rfl⟩, HGB.out, K8.out⟩
      case round =>
        obtain ⟨k, a, hk, rfl, ho, hv, hbz, X, hp, hal, hgs, K⟩ := hrel
        have HP := Lib.hid hp
        have HV := Lib.hid hv
        have HAL := Lib.hid hal
        have HGS := Lib.hid hgs
        have K0 := Lib.hid K
        clear K hp hv hal hgs X6 K8 hown hz6
        have hle := X.ok.le
        have haf : (a.fill N st.length d.size).All st.length d.size := HAL.out.fill (by omega) hle
        by_cases hlt : k < d.size
        · have t1 : (k : Int) < (d.size : Int) := by omega
          have hpos : 0 < (a.fill N st.length d.size).held := by
            rcases Nat.eq_zero_or_pos (a.fill N st.length d.size).held with h | h
            · have h2 := Ab.over_of (N := (N : Int)) (by omega) h
              rcases haf.e with h3 | ⟨_, h3⟩
              · exact absurd h3 h2
              · rw [Ab.fill_p, h, HP.out] at h3
                omega
            · exact h
          have hpn : (a.next N st.length d.size).p = k + 1 := by rw [Ab.next_some hpos, HP.out]
          have han : (a.next N st.length d.size).All st.length d.size := haf.take
          have hgn : (a.next N st.length d.size).s = [] ∨ g < base := HGS.out.imp (fun h => next_nil h) id
          have C1 := next_go (q + 1) q sb g N st.length d a wr X hpos
          rw [HP.out] at C1
          have HPN := Lib.hid hpn
          have HAN := Lib.hid han
          have HGN := Lib.hid hgn
          have HO := Lib.hid ho
          clear hpos hpn han hgn haf hle ho
          generalize a.next N st.length d.size = a2 at C1 HPN HAN HGN
          have hsn := bl_snoc d k hlt
          have HS := Lib.hid hsn
          clear hsn
          generalize bt d k = bb at C1 HS
          go_wp2_with fail
          refine C1.mono ?_
          rintro e w8 ⟨rfl, X8, K8⟩
          have ho8 := own_keep HO.out K8 (fun i h => by omega)
          have K11 := Lib.hid (kup K0.out K8 (fun i h => by omega))
          have hbz8 := Nat.le_trans hbz K8.size
          clear C1 K8 K0 X HO
          go_wp2_with (at_builtin; refine wpList_append_own _ rfl (.tmp 60) (.tmp 62) 41 rfl base 5 i0 (.int .u8 0) 1 1 Try.underlying41 hi hzz0 hzz1 hzz2 rfl (by decide) _ _ _ rfl (ho8.alloc _) ⟨w8.heap.size, 0, none⟩ 1 1 [.int .u8 bb] rfl rfl ?c1 ?c2 ?c3 ?c4 ?c5 ?_)
          case c1 =>
            intro j u hj
            match j, hj with
            | 0, hj => simp at hj; subst hj; simp [Addr.add]
          case c2 => intro u hu; simp at hu; subst hu; rfl
          case c3 => unfold maxLen; omega
          case c4 => omega
          case c5 => simp; omega
          intro v' w9 hown9 hgrow9 hnil9
          have K12 : Kept (fun i => base ≤ i) w8 w9 := own_kept ho8 ((Kept.refl _ w8).alloc _) hgrow9
          have X9 := X8.keep K12 (by omega) (by omega) (by omega) (HGN.out.imp id (fun h => by omega))
          have K13 := Lib.hid (kup K11.out K12 (fun i h => by omega))
          have hbz9 := Nat.le_trans hbz8 K12.size
          have HO9 := Lib.hid hown9
          have HV9 : Hid (v' ≠ .slice none 0 0) := fun h => hnil9 h
          clear hown9 hgrow9 hnil9 K12 K11 X8 ho8
          go_wp2_with fail
          go_roundw
          case rel =>
            refine ⟨k + 1, a2, by omega, by go_num, ?_, HV9.out, hbz9, X9, HPN.out, HAN.out, HGN.out, K13.out⟩
            rw [HS.out, List.map_append, List.map_take]
            exact HO9.out
          case measure => simp [intOf]; omega
        · obtain rfl : k = d.size := by omega
          have t1 : ¬(d.size : Int) < (d.size : Int) := by omega
          have h0 : (a.fill N st.length d.size).held = 0 := by
            have := X.ok.fill (N := (N : Int)) (Z := st.length) (by omega)
            have h2 := this.le
            rw [Ab.fill_p, HP.out] at h2
            omega
          have h14 : (a.fill N st.length d.size).e = 14 := by
            rcases haf.e with h3 | ⟨h3, _⟩
            · exact absurd h3 (Ab.over_of (N := (N : Int)) (by omega) h0)
            · exact h3
          have C1 := next_over (q + 1) q sb g N st.length d a wr X h0
          have hnx : a.next N st.length d.size = a.fill N st.length d.size := by
            unfold Ab.next Ab.take
            exact if_pos h0
          have hpf : (a.fill N st.length d.size).p = d.size := by rw [Ab.fill_p, HP.out]
          rw [hnx, h14] at C1
          have hgv : (a.fill N st.length d.size).p + (a.fill N st.length d.size).held = d.size := by omega
          have HGV := Lib.hid hgv
          rw [List.take_of_length_le (by rw [bl_length]; exact Nat.le_refl _), ← bl_length d] at ho
          have HO := Lib.hid ho
          clear h0 h14 hnx hpf hgv haf ho hle
          generalize a.fill N st.length d.size = a2 at C1 HGV
          go_wp2_with fail
          refine C1.mono ?_
          rintro e w8 ⟨rfl, X8, K8⟩
          have ho8 := own_keep HO.out K8 (fun i h => by omega)
          have K11 := Lib.hid (kup K0.out K8 (fun i h => by omega))
          obtain ⟨gg, cc, rfl, hcv⟩ := own_text ho8 HV.out
          rw [strOfNums_bl, bl_length] at hcv
          have C2 := given_w0 (q + 1) q sb g N st.length d a2 w8 X8
          rw [HGV.out] at C2
          have HC2 := Lib.hid C2
          rw [bl_length]
          clear C1 K8 K0 X HO ho8 C2
          go_wp2_with fail
          refine HC2.out.mono ?_
          rintro e w9 ⟨rfl, rfl⟩
          go_wp2_with fail
          go_ret
          exact ⟨by first | rfl | (simp; done), Kept.below (Below.refl _ w) K11.out (fun i h => h)⟩
theorem walk (x : Int) (d : ByteArray) (A : Option Addr) (cap : Nat) (st : List (Int × Int)) (w : World) (hd : d.size ≤ 140737488351232) (hn : st.length ≤ 9223372036854775807) (G : Given w A st cap) :
    Calls Try.prog 7 #[.int .i64 x, .string d, .slice A st.length cap] w fun e w' => e = .returned (.bool true) ∧ Below w.heap.size w w' := by
  by_cases h : 1000 < d.size ∨ 300 < st.length
  · exact walk_out x d A cap st w hd hn h
  · exact walk_within x d A cap st w (by omega) (by omega) G
end Go.Proofs.Ytakhdkfcnanglaa.WAll
