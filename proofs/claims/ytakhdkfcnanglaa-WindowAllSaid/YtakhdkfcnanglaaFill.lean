/- fill: a window's bytes are read (layer 4). -/
import Derived.Test.YtakhdkfcnanglaaWin
import Derived.Deep.RegionHeld3
namespace Go.Proofs.Ytakhdkfcnanglaa.Win
open Go.RowKit
open Go.Proofs.Ytakhdkfcnanglaa.Obj Go.Proofs.Ytakhdkfcnanglaa.New Go.Proofs.Ytakhdkfcnanglaa.Play Go.Proofs.Ytakhdkfcnanglaa.Ref Go.Proofs.Ytakhdkfcnanglaa.Flow
set_option linter.unusedVariables false

/-- is none over yet? -/
def flag (b : Nat) (w : World) : Nat := match w.cell? ⟨b, 6, none⟩ with
  | some (.int _ v) => if v = 0 then 1 else 0
  | _ => 0
theorem flag_zero {b : Nat} {w : World} (h : w.cell? ⟨b, 6, none⟩ = some (.int .i64 0)) : flag b w = 1 := by unfold flag; rw [h]; rfl
theorem flag_le (b : Nat) (w : World) : flag b w ≤ 1 := by
  unfold flag
  split
  · split <;> omega
  · omega
theorem flag_over {b : Nat} {w : World} {e : Int} (h : w.cell? ⟨b, 6, none⟩ = some (.int .i64 e)) (he : e ≠ 0) : flag b w = 0 := by unfold flag; rw [h]; simp only; rw [if_neg he]

theorem Win.read {w w' : World} {b q sb g N Z : Nat} {d : ByteArray} {y : Ab} {frm c : Nat} {o o' e' : Int} (H : Win w b q sb g N Z d y frm o) (WB : Wb w' b q sb N Z d y.p c e' 0)
    (S : Src w' sb g (d.extract (y.p + c) d.size) y.s.tail o' ((y.p + c : Nat) : Int) ((y.calls : Int) + 1)) (hon : e' = 0 → o' = 0) (hok : (⟨y.s.tail, y.p, c, y.calls + 1, e'⟩ : Ab).Ok d.size) : Win w' b q sb g N Z d ⟨y.s.tail, y.p, c, y.calls + 1, e'⟩ 0 o' :=
  ⟨WB, S, hon, hok, H.bs, H.qs, H.gb.imp (fun h => by simp only; rw [h]; rfl) id, H.n1, H.nm, H.zm, H.dm⟩
theorem ab_of {y : Ab} (h : y.held = 0) (he : y.e = 0) : y = ⟨y.s, y.p, 0, y.calls, 0⟩ := by
  cases y
  simp only at h he
  subst h he
  rfl

set_option maxHeartbeats 4000000 in
theorem fill_c (b q sb g N Z : Nat) (d : ByteArray) (x : Ab) (w : World) (h : W w b q sb g N Z d x) :
    Calls Try.prog 34 #[.pointer (some ⟨b, 0, none⟩)] w fun e w' => e = .returned (.tuple #[]) ∧ W w' b q sb g N Z d (x.fill N Z d.size) ∧ Kept (fun i => i = b ∨ i = q ∨ i = sb) w w' := by
  obtain ⟨frm0, o0, H0⟩ := h
  have hn1 := H0.n1
  have hnm := H0.nm
  have hzm := H0.zm
  have hdm := H0.dm
  have HX : Hid (x.fill N Z d.size = x.fillz N Z d.size 0) := rfl
  have HK := Lib.hid (Kept.refl (fun i => i = b ∨ i = q ∨ i = sb) w)
  go_enter Try.func34, Try.ntmps34
  go_wp2_with fail
  go_loopw [2] (fun i wr => ∃ (z frm : Nat) (y : Ab) (o : Int), z ≤ Z + 1 ∧ (y.held = 0 ∧ y.e = 0 → z ≤ Z) ∧ i = .int .i64 z ∧ Win wr b q sb g N Z d y frm o ∧ y.fillz N Z d.size z = x.fill N Z d.size ∧ Kept (fun i => i = b ∨ i = q ∨ i = sb) w wr) (fun i wr => 2 * (Z + 1 - (intOf i).toNat) + flag b wr)
  case atStart => exact ⟨0, frm0, x, o0, by omega, by omega, rfl, H0, rfl, HK.out⟩
  case round =>
    obtain ⟨z, frm, y, o, hz, hzz, rfl, H, hf, K⟩ := hrel
    have K0 := Lib.hid K
    have HF := Lib.hid hf
    have HZZ := Lib.hid hzz
    clear K hf hzz H0 HK HX
    have HW := Lib.hid H
    have WB := H.wb
    have c2 := WB.c2
    have c3 := WB.c3
    have c6 := WB.c6
    by_cases hh : y.held = 0
    · rw [hh, Nat.add_zero] at c3
      by_cases he : y.e = 0
      · rw [he] at c6
        have HE := Lib.hid he
        have HH := Lib.hid hh
        have HFL : Hid (flag b wr = 1) := flag_zero c6
        have c0 := WB.c0
        have c1 := WB.c1
        clear he hh WB H
        go_wp2_with fail
        go_quiet (fail)
        go_wp2_with fail
        have H1 := HW.out.drewN nq
        have K1 := Lib.hid (K0.out.drewN nq)
        clear c0 c1 c2 c3 c6 K0 HW
        generalize wr.drewN nq = w1 at H1 K1 ⊢
        have d0 := H1.wb.c0
        have d1 := H1.wb.c1
        have H1 := Lib.hid H1
        have ha : y.p ≤ d.size := by have := H1.out.ok.le; omega
        have hcl : y.calls ≤ 2001 := H1.out.ok.calls
        have hbs : b ≠ sb := H1.out.bs
        have HS : Src w1 sb g (d.extract y.p d.size) y.s 0 (y.p : Int) (y.calls : Int) := by
          have h := H1.out.src
          rw [HH.out, Nat.add_zero, H1.out.on HE.out] at h
          exact h
        have hlb := H1.out.wb.lb
        go_region_held3 (fun w' => w'.cell? ⟨b, 0, none⟩ = some (.pointer (some ⟨sb, 0, none⟩)) ∧ w'.cell? ⟨b, 1, none⟩ = some (.slice (some ⟨q, 0, none⟩) N N)) (first | exact ⟨d0, d1⟩ | exact ⟨x0, x1⟩) (first | (go_at_call 17; refine (read_d sb g d y.p y.s y.calls N _ (by omega) (by omega) HS.drew ha (by omega)).mono ?_; rintro e w6 ⟨rfl, S6, K6⟩; have x0 := (World.cell?_of_block (w := w1.drew) (a := ⟨b, 0, none⟩) (K6.block b hlb hbs)).trans d0; have x1 := (World.cell?_of_block (w := w1.drew) (a := ⟨b, 1, none⟩) (K6.block b hlb hbs)).trans d1))
        rename_i hHeld
        have hov := ov_ways N y.s (d.size - y.p)
        have hcn := cn_le N y.s (d.size - y.p)
        have hcN := cn_le_n N y.s (d.size - y.p)
        obtain ⟨c, hc⟩ : ∃ c, c = cn N y.s (d.size - y.p) := ⟨_, rfl⟩
        obtain ⟨o', ho⟩ : ∃ o', o' = ov N y.s (d.size - y.p) := ⟨_, rfl⟩
        rw [← hc] at hcn hcN S6 hov ⊢
        rw [← ho] at S6 hov ⊢
        have HC := Lib.hid hc
        have HO := Lib.hid ho
        have W6 := H1.out.wb.drew.keep K6 (fun e => hbs e) H1.out.qs
        rw [HH.out] at W6
        obtain ⟨w7, hcp, K7, hrow⟩ := copy_w W6 c hcN (by omega)
        have W7 := W6.filled c hcN K7 hrow
        have hbq := W6.bq
        have hqs := H1.out.qs
        have hgb := H1.out.gb
        have eb := K7.block b W6.lb hbq
        have e2 : w7.cell? ⟨b, 2, none⟩ = some (.int .i64 frm) := (World.cell?_of_block (w := w6) eb).trans W6.c2
        have e3 : w7.cell? ⟨b, 3, none⟩ = some (.int .i64 frm) := (World.cell?_of_block (w := w6) eb).trans W6.c3
        have f2 : w7.frozen? ⟨b, 2, none⟩ = false := (World.frozen?_of_block (w := w6) eb).trans (W6.fz 2 (by omega))
        have f3 : w7.frozen? ⟨b, 3, none⟩ = false := (World.frozen?_of_block (w := w6) eb).trans (W6.fz 3 (by omega))
        have f6 : w7.frozen? ⟨b, 6, none⟩ = false := (World.frozen?_of_block (w := w6) eb).trans (W6.fz 6 (by omega))
        have e6 : w7.cell? ⟨b, 6, none⟩ = some (.int .i64 y.e) := (World.cell?_of_block (w := w6) eb).trans W6.c6
        have e4 : w7.cell? ⟨b, 4, none⟩ = some (.int .i64 Z) := (World.cell?_of_block (w := w6) eb).trans W6.c4
        have S7 := Src.keep' (S := fun i => i = b ∨ i = q) (g := g) S6 (((K7.mono (T := fun i => i = b ∨ i = q) (fun i h => .inr h)).setCell (p := ⟨b, 2, none⟩) (.inl rfl) (.int .i64 0)).setCell (p := ⟨b, 3, none⟩) (.inl rfl) (.int .i64 c)) (by omega) (hgb.imp (fun h => by rw [h]; rfl) (fun h => by omega))
        have K8 := Lib.hid (((((K1.out.drew.trans (K6.mono (T := fun i => i = b ∨ i = q ∨ i = sb) (fun i h => .inr (.inr h)))).trans (K7.mono (T := fun i => i = b ∨ i = q ∨ i = sb) (fun i h => .inr (.inl h)))).setCell (p := ⟨b, 2, none⟩) (.inl rfl) (.int .i64 0)).setCell (p := ⟨b, 3, none⟩) (.inl rfl) (.int .i64 c)))
        have hsz : (d.extract y.p (y.p + c)).size = c := by rw [ByteArray.size_extract]; omega
        have hcp3 := hcp 3
        have W8 := Lib.hid W7
        have S8 := Lib.hid S7
        have hy : Hid (y = ⟨y.s, y.p, 0, y.calls, 0⟩) := ab_of HH.out HE.out
        have HOK : Hid ((y.fillz N Z d.size z).Ok d.size) := H1.out.ok.fillz (by omega)
        have HOK1 : Hid (y.Ok d.size) := H1.out.ok
        clear hHeld hcp hc ho W6 K7 hrow W7 eb S7 S6 K6 K1 HS d0 d1 x0
        rcases hov with rfl | ⟨rfl, -⟩ | rfl
        · by_cases hc0 : c = 0
          · have hcz : (c : Int) = 0 := by omega
            have hc1 : ((c : Int) == 0) = true := by simp; omega
            have HC0 := Lib.hid hc0
            clear hc0 hcz
            have hzZ := HZZ.out ⟨HH.out, HE.out⟩
            by_cases hst : Z < z + 1
            · have hst' : (Z : Int) < (z : Int) + 1 := by omega
              go_wp2_with fail
              go_roundw
              case rel =>
                have HY : Hid (y.fillz N Z d.size z = ⟨y.s.tail, y.p, c, y.calls + 1, 13⟩) := by
                  have h := fillz_stall (N := (N : Int)) (Z := Z) (L := d.size) (z := z) (s := y.s) (p := y.p) (calls := y.calls) (by omega) HO.out.symm (by rw [← HC.out]; exact HC0.out) hst
                  rw [← hy.out] at h
                  rw [HC0.out]
                  exact h
                have W9 := W8.out.setE 13
                refine ⟨z + 1, 0, ⟨y.s.tail, y.p, c, y.calls + 1, 13⟩, 0, by omega, fun h => absurd h.2 (by simp), by go_num, H1.out.read W9 (Src.keep' (S := (· = b)) S8.out (Kept.setIn (Kept.refl _ _)) (fun h => hbs h.symm) (hgb.imp (fun h => by rw [h]; rfl) (fun h => h.1))) (fun h => absurd h (by simp)) (by rw [← HY.out]; exact HOK.out), ?_, K8.out.setCell (.inl rfl) _⟩
                rw [← HF.out, HY.out]
                exact Ab.fillz_done (.inr (by simp))
              case measure =>
                have W9 := W8.out.setE 13
                rw [flag_over W9.c6 (by simp), HFL.out]
                simp [intOf]
                omega
            · have hst' : ¬(Z : Int) < (z : Int) + 1 := by omega
              go_wp2_with fail
              go_roundw
              case rel =>
                have W9 := W8.out
                rw [HE.out] at W9
                have hok := HOK1.out
                rw [hy.out] at hok
                have ho1 := hok.on (N := (N : Int)) (by omega) HO.out.symm (by rw [← HC.out]; exact HC0.out)
                refine ⟨z + 1, 0, ⟨y.s.tail, y.p, c, y.calls + 1, 0⟩, 0, by omega, fun _ => by omega, by go_num, H1.out.read W9 S8.out (fun _ => rfl) (by rw [HC0.out]; exact ho1), ?_, K8.out⟩
                rw [← HF.out]
                have h := fillz_more (N := (N : Int)) (Z := Z) (L := d.size) (z := z) (s := y.s) (p := y.p) (calls := y.calls) (by omega) HO.out.symm (by rw [← HC.out]; exact HC0.out) hst
                rw [← hy.out] at h
                rw [h, HC0.out]
              case measure =>
                have := flag_le b ((w7.setCell ⟨b, 2, none⟩ (.int .i64 0)).setCell ⟨b, 3, none⟩ (.int .i64 c))
                rw [HFL.out]
                simp [intOf]
                omega
          · have hc1 : ((c : Int) == 0) = false := by simp; omega
            go_wp2_with fail
            go_roundw
            case rel =>
              have HY : Hid (y.fillz N Z d.size z = ⟨y.s.tail, y.p, c, y.calls + 1, 0⟩) := by
                have h := fillz_some (N := (N : Int)) (Z := Z) (L := d.size) (z := z) (s := y.s) (p := y.p) (calls := y.calls) HO.out.symm (by rw [← HC.out]; omega)
                rw [← hy.out, ← HC.out] at h
                exact h
              have W9 := W8.out
              rw [HE.out] at W9
              refine ⟨z + 1, 0, ⟨y.s.tail, y.p, c, y.calls + 1, 0⟩, 0, by have := HZZ.out ⟨HH.out, HE.out⟩; omega, fun h => absurd h.1 hc0, by go_num, H1.out.read W9 S8.out (fun _ => rfl) (by rw [← HY.out]; exact HOK.out), ?_, K8.out⟩
              rw [← HF.out, HY.out]
              exact Ab.fillz_done (.inl (by simp only; omega))
            case measure =>
              have hzZ := HZZ.out ⟨HH.out, HE.out⟩
              have := flag_le b ((w7.setCell ⟨b, 2, none⟩ (.int .i64 0)).setCell ⟨b, 3, none⟩ (.int .i64 c))
              rw [HFL.out]
              simp [intOf]
              omega
        · skip
          go_wp2_with fail
          go_roundw
          case rel =>
            have HY : Hid (y.fillz N Z d.size z = ⟨y.s.tail, y.p, c, y.calls + 1, 14⟩) := by
              have h := fillz_end (N := (N : Int)) (Z := Z) (L := d.size) (z := z) (s := y.s) (p := y.p) (calls := y.calls) (by omega) HO.out.symm
              rw [← hy.out, ← HC.out] at h
              exact h
            have W9 := W8.out.setE 14
            refine ⟨z, 0, ⟨y.s.tail, y.p, c, y.calls + 1, 14⟩, 1, by omega, fun h => absurd h.2 (by simp), rfl, H1.out.read W9 (Src.keep' (S := (· = b)) S8.out (Kept.setIn (Kept.refl _ _)) (fun h => hbs h.symm) (hgb.imp (fun h => by rw [h]; rfl) (fun h => h.1))) (fun h => absurd h (by simp)) (by rw [← HY.out]; exact HOK.out), ?_, K8.out.setCell (.inl rfl) _⟩
            rw [← HF.out, HY.out]
            exact Ab.fillz_done (.inr (by simp))
          case measure =>
            have W9 := W8.out.setE 14
            rw [flag_over W9.c6 (by simp), HFL.out]
            simp [intOf]
        · skip
          go_wp2_with fail
          go_roundw
          case rel =>
            have HY : Hid (y.fillz N Z d.size z = ⟨y.s.tail, y.p, c, y.calls + 1, 12⟩) := by
              have h := fillz_fail (N := (N : Int)) (Z := Z) (L := d.size) (z := z) (s := y.s) (p := y.p) (calls := y.calls) (by omega) HO.out.symm
              rw [← hy.out, ← HC.out] at h
              exact h
            have W9 := W8.out.setE 12
            refine ⟨z, 0, ⟨y.s.tail, y.p, c, y.calls + 1, 12⟩, 2, by omega, fun h => absurd h.2 (by simp), rfl, H1.out.read W9 (Src.keep' (S := (· = b)) S8.out (Kept.setIn (Kept.refl _ _)) (fun h => hbs h.symm) (hgb.imp (fun h => by rw [h]; rfl) (fun h => h.1))) (fun h => absurd h (by simp)) (by rw [← HY.out]; exact HOK.out), ?_, K8.out.setCell (.inl rfl) _⟩
            rw [← HF.out, HY.out]
            exact Ab.fillz_done (.inr (by simp))
          case measure =>
            have W9 := W8.out.setE 12
            rw [flag_over W9.c6 (by simp), HFL.out]
            simp [intOf]
      · have he' : (y.e == 0) = false := by simpa using he
        have HE := Lib.hid he
        clear he H WB
        go_wp2_with fail
        go_quiet (fail)
        go_wp2_with fail
        go_end0
        refine ⟨rfl, ?_, K0.out.drewN _⟩
        rw [← HF.out, Ab.fillz_done (.inr HE.out)]
        exact ⟨frm, o, HW.out.drewN _⟩
    · have hne : ((frm : Int) == (frm : Int) + (y.held : Int)) = false := by simp; omega
      have HHH := Lib.hid hh
      clear hh H WB
      go_wp2_with fail
      go_quiet (fail)
      go_wp2_with fail
      go_end0
      refine ⟨rfl, ?_, K0.out.drewN _⟩
      rw [← HF.out, Ab.fillz_done (.inl (by have := HHH.out; omega))]
      exact ⟨frm, o, HW.out.drewN _⟩
end Go.Proofs.Ytakhdkfcnanglaa.Win
