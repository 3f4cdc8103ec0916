/- The walk of WSizes. -/
import Derived.Test.YtakhdkfcnanglaaWcom
import Derived.Deep.RegionHeld3
namespace Go.Proofs.Ytakhdkfcnanglaa.WSizes
open Go.RowKit
open Go.Proofs.Ytakhdkfcnanglaa.Obj Go.Proofs.Ytakhdkfcnanglaa.New Go.Proofs.Ytakhdkfcnanglaa.Play Go.Proofs.Ytakhdkfcnanglaa.Ref Go.Proofs.Ytakhdkfcnanglaa.Flow Go.Proofs.Ytakhdkfcnanglaa.Win
set_option linter.unusedVariables false

theorem at_p (b q sb g N Z : Nat) (d : ByteArray) (x : Ab) (w : World) (m : Nat) (hm : x.p = m) (h : W w b q sb g N Z d x) :
    Calls Try.prog 27 #[.pointer (some ⟨b, 0, none⟩)] w fun e w' => e = .returned (.int .i64 m) ∧ w = w' := by
  subst hm
  exact at_c b q sb g N Z d x w h
theorem next_tell (b q sb g N Z : Nat) (d : ByteArray) (x : Ab) (v e' : Int) (w : World) (ht : Ab.tells d x (x.fill N Z d.size) = (v, e')) (h : W w b q sb g N Z d x) :
    Calls Try.prog 24 #[.pointer (some ⟨b, 0, none⟩)] w fun e w' => e = .returned (.tuple #[.int .u8 v, .int .i64 e']) ∧ W w' b q sb g N Z d (x.next N Z d.size) ∧ Kept (fun i => i = b ∨ i = q ∨ i = sb) w w' := by
  have C := next_any b q sb g N Z d x w h
  rw [ht] at C
  exact C
theorem new_none (d : ByteArray) (w : World) :
    Calls Try.prog 16 #[.string d, .slice none 0 0] w fun e w' => ∃ b g, e = .returned (.pointer (some ⟨b, 0, none⟩)) ∧ Src w' b g d [] 0 0 0 ∧ Kept (fun _ => False) w w' ∧ w.heap.size ≤ b :=
  (new_c d none 0 [] w (Given.none_ w) (by decide)).mono fun e w' ⟨b, g, h1, h2, h3, h4, _⟩ => ⟨b, g, h1, h2, h3, h4⟩

set_option maxHeartbeats 1000000 in
theorem walk_out (x y : Int) (d : ByteArray) (w : World) (h : 1000 < d.size) (hd : d.size ≤ 140737488351232) :
    Calls Try.prog 13 #[.agg #[.int .i64 x, .int .i64 y], .string d] w fun e w' => e = .returned (.bool true) ∧ Below w.heap.size w w' := by
  have h' : (1000 : Int) < (d.size : Int) := by omega
  have K0 := Lib.hid ((Kept.refl (fun i => w.heap.size ≤ i) w).alloc (.cells #[.int .i64 x, .int .i64 y] 46))
  go_enter Try.func13, Try.ntmps13
  go_wp2_with fail
  refine (new_none d _).mono ?_
  rintro e w1 ⟨sb, g, rfl, S1, K1, hb1⟩
  have K2 := Lib.hid (kup K0.out K1 (fun _ h => h.elim))
  clear K1 S1
  go_wp2_with fail
  refine (new_none d _).mono ?_
  rintro e w2 ⟨tb, g2, rfl, S1, K1, hb2⟩
  have K3 := Lib.hid (kup K2.out K1 (fun _ h => h.elim))
  clear K1 S1
  go_wp2_with fail
  refine (awake_w w2).mono ?_
  rintro e w3 ⟨rfl, B1⟩
  go_wp2_with fail
  refine (awake_w w3).mono ?_
  rintro e w4 ⟨rfl, B2⟩
  go_wp2_with fail
  go_ret
  exact ⟨rfl, Kept.below (Below.refl _ w) ((K3.out.trans (Kept.of_below B1 _)).trans (Kept.of_below B2 _)) (fun i h => h)⟩

set_option maxRecDepth 10000 in
set_option maxHeartbeats 4000000 in
theorem walk_within (x y : Int) (d : ByteArray) (w : World) (hd : d.size ≤ 1000) :
    Calls Try.prog 13 #[.agg #[.int .i64 x, .int .i64 y], .string d] w fun e w' => e = .returned (.bool true) ∧ Below w.heap.size w w' := by
  have y0 : (w.alloc (.cells #[.int .i64 x, .int .i64 y] 46)).cell? ⟨w.heap.size, 0, none⟩ = some (.int .i64 x) := World.cell?_alloc_new _ _ _ _
  have y1 : (w.alloc (.cells #[.int .i64 x, .int .i64 y] 46)).cell? ⟨w.heap.size, 1, none⟩ = some (.int .i64 y) := World.cell?_alloc_new _ _ _ _
  have K0 := Lib.hid ((Kept.refl (fun i => w.heap.size ≤ i) w).alloc (.cells #[.int .i64 x, .int .i64 y] 46))
  have hpp : w.heap.size < (w.alloc (.cells #[.int .i64 x, .int .i64 y] 46)).heap.size := by simp
  go_enter Try.func13, Try.ntmps13
  go_wp2_with fail
  generalize (w.alloc (.cells #[.int .i64 x, .int .i64 y] 46)) = w0 at y0 y1 K0 hpp ⊢
  obtain ⟨pp, hq⟩ : ∃ pp, pp = w.heap.size := ⟨_, rfl⟩
  rw [← hq] at y0 y1 hpp
  rw [← hq]
  have HQ := Lib.hid hq
  clear hq
  refine (new_none d w0).mono ?_
  rintro e w1 ⟨sb, g, rfl, S1, K1, hb1⟩
  have y0 := keep_cell K1 (fun h => h) y0
  have y1 := keep_cell K1 (fun h => h) y1
  have hsb := S1.lb
  have K2 := Lib.hid (kup K0.out K1 (fun _ h => h.elim))
  clear K1 K0
  go_wp2_with fail
  refine (new_none d w1).mono ?_
  rintro e w2 ⟨tb, g2, rfl, T2, K1, hb2⟩
  have y0 := keep_cell K1 (fun h => h) y0
  have y1 := keep_cell K1 (fun h => h) y1
  have S2 := Src.keep' S1 K1 (fun h => h) (.inl rfl)
  have htb := T2.lb
  have K3 := Lib.hid (kup K2.out K1 (fun _ h => h.elim))
  clear K1 S1 K2
  go_wp2_with fail
  refine (awake_w w2).mono ?_
  rintro e w3 ⟨rfl, B1⟩
  have K1 := Kept.of_below B1 (fun _ => False)
  have y0 := keep_cell K1 (fun h => h) y0
  have y1 := keep_cell K1 (fun h => h) y1
  have S3 := Src.keep' S2 K1 (fun h => h) (.inl rfl)
  have T3 := Src.keep' T2 K1 (fun h => h) (.inl rfl)
  have htb3 := T3.lb
  have K4 := Lib.hid (kup K3.out K1 (fun _ h => h.elim))
  clear K1 S2 T2 K3 B1
  go_wp2_with fail
  obtain ⟨lo, hi, hlo, hhi, hlh⟩ : ∃ lo hi : Int, (if y < x then y else x) = lo ∧ (if x < y then y else x) = hi ∧ lo ≤ hi := ⟨_, _, rfl, rfl, by split <;> split <;> omega⟩
  go_region_held3 (fun w' => w'.cell? ⟨pp, 0, none⟩ = some (.int .i64 x) ∧ w'.cell? ⟨pp, 1, none⟩ = some (.int .i64 y)) (first | exact ⟨y0, y1⟩ | exact ⟨x0, x1⟩ | exact ⟨v0, v1⟩) (first | (go_at_call 23; have C2 := X7; refine (win_new hi 0 tb g2 d [] w7 (Src.keep' T3.drew K7 (fun h => h) (.inr (fun h => h))) (by omega) (by decide)).mono ?_; rintro e w8 ⟨rfl, Y8, K8⟩; have v0 := keep_cell K8 (fun h => h) x0; have v1 := keep_cell K8 (fun h => h) x1) | (go_at_call 23; refine (win_new lo 0 sb g d [] _ S3.drew (by omega) (by decide)).mono ?_; rintro e w7 ⟨rfl, X7, K7⟩; have x0 := keep_cell K7 (fun h => h) y0; have x1 := keep_cell K7 (fun h => h) y1))
  all_goals
    rename_i hHeld
    clear hHeld x0 x1 v0 v1 y0 y1 hlo hhi
    have X8 : W w8 (w3.heap.size + 1) w3.heap.size sb g (clampN lo) (clampZ 0) d ⟨[], 0, 0, 0, 0⟩ := X7.keep K8 (fun h => h) (fun h => h) (fun h => h) (.inr (fun h => h))
    have hq7 : w3.heap.size + 1 < w7.heap.size := by obtain ⟨_, _, h⟩ := X7; exact h.wb.lb
    have K11 := Lib.hid (kup (kup K4.out.drew K7 (fun _ h => h.elim)) K8 (fun _ h => h.elim))
    have hw : w.heap.size ≤ pp := by have := HQ.out; omega
    have hst : sb < tb := by omega
    have hn1 : 1 ≤ clampN lo := by unfold clampN; omega
    have hn2 : 1 ≤ clampN hi := by unfold clampN; omega
    have hnn : clampN lo ≤ clampN hi := by unfold clampN; omega
    clear K4 K8 K7 X7 C2 T3 S3
    generalize w3.heap.size = q at X8 hq7 htb3 ⊢
    generalize w7.heap.size = r at Y8 hq7 ⊢
    generalize clampN lo = N at X8 hn1 hnn ⊢
    generalize clampN hi = M at Y8 hn2 hnn ⊢
    generalize clampZ 0 = Z at X8 Y8 ⊢
    go_wp2_with fail
    go_loopw [56] (fun i wr => ∃ (k : Nat) (a a' : Ab), k ≤ d.size + 1 ∧ i = .int .i64 k ∧ W wr (q + 1) q sb g N Z d a ∧ W wr (r + 1) r tb g2 M Z d a' ∧ (∃ c, a.Sz N d.size c) ∧ (∃ c, a'.Sz M d.size c) ∧ ((k ≤ d.size ∧ a.p = k ∧ a'.p = k ∧ a.e = 0 ∧ a'.e = 0) ∨ (k = d.size + 1 ∧ a.p = d.size ∧ a'.p = d.size ∧ a.e = 14 ∧ a'.e = 14)) ∧ Kept (fun i => w.heap.size ≤ i) w wr) (fun i _ => d.size + 1 - (intOf i).toNat)
    case atStart => exact ⟨0, _, _, by omega, rfl, X8, Y8, ⟨0, rfl, by simp, .inl rfl, .inl ⟨rfl, rfl⟩⟩, ⟨0, rfl, by simp, .inl rfl, .inl ⟨rfl, rfl⟩⟩, .inl ⟨by omega, rfl, rfl, rfl, rfl⟩, K11.out⟩
    case round =>
      obtain ⟨k, a, a', hk, rfl, X, Y, ⟨c, hs⟩, ⟨c', hs'⟩, hp, K⟩ := hrel
      have HS := Lib.hid hs
      have HS' := Lib.hid hs'
      have HP := Lib.hid hp
      have K0 := Lib.hid K
      clear K X8 Y8 K11 hs hs' hp
      by_cases hlt : k < d.size + 1
      · have t1 : (k : Int) < (d.size : Int) + 1 := by omega
        have key : ∃ (v e' : Int) (m : Nat), Ab.tells d a (a.fill N Z d.size) = (v, e') ∧ Ab.tells d a' (a'.fill M Z d.size) = (v, e') ∧ (a.next N Z d.size).p = m ∧ (a'.next M Z d.size).p = m ∧ (∃ c, (a.next N Z d.size).Sz N d.size c) ∧ (∃ c, (a'.next M Z d.size).Sz M d.size c) ∧
            ((k + 1 ≤ d.size ∧ (a.next N Z d.size).p = k + 1 ∧ (a'.next M Z d.size).p = k + 1 ∧ (a.next N Z d.size).e = 0 ∧ (a'.next M Z d.size).e = 0) ∨ (k + 1 = d.size + 1 ∧ (a.next N Z d.size).p = d.size ∧ (a'.next M Z d.size).p = d.size ∧ (a.next N Z d.size).e = 14 ∧ (a'.next M Z d.size).e = 14)) := by
          rcases HP.out with ⟨h1, h2, h3, h4, h5⟩ | ⟨h1, _⟩
          · by_cases hk2 : k < d.size
            · obtain ⟨s1, s2, s3, s4, s5⟩ := HS.out.next (Z := Z) hn1 h4 (by omega)
              obtain ⟨u1, u2, u3, u4, u5⟩ := HS'.out.next (Z := Z) hn2 h5 (by omega)
              refine ⟨bt d k, 0, k + 1, ?_, ?_, by omega, by omega, s1, u1, .inl ⟨by omega, by omega, by omega, s5, u5⟩⟩
              · unfold Ab.tells
                rw [if_neg (by omega), h2]
              · unfold Ab.tells
                rw [if_neg (by omega), h3]
            · obtain ⟨s1, s2, s3, s4, s5⟩ := HS.out.last (Z := Z) hn1 h4 (by omega)
              obtain ⟨u1, u2, u3, u4, u5⟩ := HS'.out.last (Z := Z) hn2 h5 (by omega)
              refine ⟨0, 14, d.size, ?_, ?_, s4, u4, s1, u1, .inr ⟨by omega, s4, u4, s5, u5⟩⟩
              · unfold Ab.tells
                rw [if_pos s2, s3]
              · unfold Ab.tells
                rw [if_pos u2, u3]
          · omega
        obtain ⟨v, e', m, k1, k2, k3, k4, k5, k6, k7⟩ := key
        have N1 := fun w h => next_tell (q + 1) q sb g N Z d a v e' w k1 h
        have N2 := fun w h => next_tell (r + 1) r tb g2 M Z d a' v e' w k2 h
        have A1 := fun w h => at_p (q + 1) q sb g N Z d (a.next N Z d.size) w m k3 h
        have A2 := fun w h => at_p (r + 1) r tb g2 M Z d (a'.next M Z d.size) w m k4 h
        have hgs : (a.next N Z d.size).s = [] := by obtain ⟨_, h⟩ := k5; exact h.s
        have hgs' : a'.s = [] := HS'.out.s
        have G1 := Lib.hid hgs
        have G2 := Lib.hid hgs'
        clear k1 k2 k3 k4 hgs hgs' HP HS HS'
        generalize a.next N Z d.size = a2 at N1 A1 k5 k7 G1
        generalize a'.next M Z d.size = a2' at N2 A2 k6 k7
        have HN1 := Lib.hid N1
        have HN2 := Lib.hid N2
        have HA1 := Lib.hid A1
        have HA2 := Lib.hid A2
        have H5 := Lib.hid k5
        have H6 := Lib.hid k6
        have H7 := Lib.hid k7
        clear N1 N2 A1 A2 k5 k6 k7
        go_wp2_with fail
        refine (HN1.out _ X).mono ?_
        rintro e w9 ⟨rfl, X9, K9⟩
        have Y9 := Y.keep K9 (by omega) (by omega) (by omega) (.inl G2.out)
        have K12 := Lib.hid (kup K0.out K9 (fun i h => by omega))
        clear K9 K0 X Y
        go_wp2_with fail
        refine (HN2.out _ Y9).mono ?_
        rintro e w10 ⟨rfl, Y10, K9⟩
        have X10 := X9.keep K9 (by omega) (by omega) (by omega) (.inl G1.out)
        have K13 := Lib.hid (kup K12.out K9 (fun i h => by omega))
        clear K9 K12 X9 Y9
        go_wp2_with fail
        refine (HA1.out _ X10).mono ?_
        rintro e w11 ⟨rfl, rfl⟩
        go_wp2_with fail
        refine (HA2.out _ Y10).mono ?_
        rintro e w11 ⟨rfl, rfl⟩
        go_wp2_with fail
        go_roundw
        case rel => exact ⟨k + 1, a2, a2', by omega, by go_num, X10, Y10, H5.out, H6.out, H7.out, K13.out⟩
        case measure => simp [intOf]; omega
      · obtain rfl : k = d.size + 1 := by omega
        have t1 : ¬(d.size : Int) + 1 < (d.size : Int) + 1 := by omega
        rw [show (((d.size + 1 : Nat)) : Int) = (d.size : Int) + 1 from by omega]
        have hcc : a'.calls ≤ a.calls := by
          rcases HP.out with ⟨h1, _⟩ | ⟨_, h2, h3, h4, h5⟩
          · omega
          · exact HS.out.order HS'.out hnn (by omega) (by rw [h4, h5])
        have hci : (a'.calls : Int) ≤ (a.calls : Int) := by omega
        go_wp2_with fail
        refine (calls_w0 (r + 1) r tb g2 M Z d a' wr Y).mono ?_
        rintro e w13 ⟨rfl, rfl⟩
        go_wp2_with fail
        refine (calls_w0 (q + 1) q sb g N Z d a wr X).mono ?_
        rintro e w13 ⟨rfl, rfl⟩
        go_wp2_with fail
        go_ret
        exact ⟨by first | rfl | (simp; omega), Kept.below (Below.refl _ w) K0.out (fun i h => h)⟩
theorem walk (x y : Int) (d : ByteArray) (w : World) (hd : d.size ≤ 140737488351232) :
    Calls Try.prog 13 #[.agg #[.int .i64 x, .int .i64 y], .string d] w fun e w' => e = .returned (.bool true) ∧ Below w.heap.size w w' := by
  by_cases h : 1000 < d.size
  · exact walk_out x y d w h hd
  · exact walk_within x y d w (by omega)
end Go.Proofs.Ytakhdkfcnanglaa.WSizes
