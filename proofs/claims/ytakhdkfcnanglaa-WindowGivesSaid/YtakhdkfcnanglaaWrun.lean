/- The walk of Wrun. -/
import Derived.Test.YtakhdkfcnanglaaWcom
namespace Go.Proofs.Ytakhdkfcnanglaa.Wrun
open Go.RowKit
open Go.Proofs.Ytakhdkfcnanglaa.Obj Go.Proofs.Ytakhdkfcnanglaa.New Go.Proofs.Ytakhdkfcnanglaa.Play Go.Proofs.Ytakhdkfcnanglaa.Ref Go.Proofs.Ytakhdkfcnanglaa.Flow Go.Proofs.Ytakhdkfcnanglaa.Win
set_option linter.unusedVariables false

/-- What Run leaves. -/
def RunPost (N : Int) (Z : Nat) (d : ByteArray) (st : List (Int × Int)) (w : World) (e : Ending) (w' : World) : Prop :=
  ∃ (T : Nat) (E : Int) (C : Nat), e = .returned (.agg #[.string (d.extract 0 T), .int .i64 E, .int .i64 C]) ∧ Flow N Z st d.size 0 T E C ∧ T ≤ d.size ∧ Below w.heap.size w w'
theorem join (d : ByteArray) (a c : Nat) (h : a + c ≤ d.size) : d.extract 0 a ++ d.extract a (a + c) = d.extract 0 (a + c) := by
  rw [ByteArray.extract_append_extract]
  congr 1 <;> omega
theorem go_on (n : Int) (s : List (Int × Int)) (l : Nat) (hn : 1 ≤ n) (ho : ov n s l = 0) : s.tail.length + (l - cn n s l) + 1 ≤ s.length + l := by
  cases s with
  | cons x s => simp; omega
  | nil =>
    by_cases hl : l = 0
    · subst hl
      exact absurd ho (by unfold ov fin top; simp)
    · have : cn n [] l = came n l l := by unfold cn top; simp only [if_neg hl]
      rw [this]
      unfold came
      simp
      omega
/-- reads that are left -/
def left (r M : Nat) (w : World) : Nat := match w.cell? ⟨r, 3, none⟩ with
  | some (.int _ v) => M - v.toNat
  | _ => 0
theorem left_is {r M c : Nat} {w : World} (h : w.cell? ⟨r, 3, none⟩ = some (.int .i64 (c : Int))) : left r M w = M - c := by unfold left; rw [h]; simp
/-- the flow's block -/
structure Out (w : World) (o : Nat) (x : ByteArray) (E C : Int) : Prop where
  row : w.heap[o]? = some (.cells #[.string x, .int .i64 E, .int .i64 C] 50 (0, 0))
theorem Out.keep {S : Nat → Prop} {w w' : World} {o : Nat} {x : ByteArray} {E C : Int} (h : Out w o x E C) (k : Kept S w w') (hs : ¬S o) : Out w' o x E C :=
  ⟨(k.block o (Array.getElem?_eq_some_iff.1 h.row).1 hs).trans h.row⟩
theorem Out.c0 {w : World} {o : Nat} {x : ByteArray} {E C : Int} (h : Out w o x E C) : w.cell? ⟨o, 0, none⟩ = some (.string x) := by unfold World.cell?; rw [h.row]; simp
theorem Out.c1 {w : World} {o : Nat} {x : ByteArray} {E C : Int} (h : Out w o x E C) : w.cell? ⟨o, 1, none⟩ = some (.int .i64 E) := by unfold World.cell?; rw [h.row]; simp
theorem Out.c2 {w : World} {o : Nat} {x : ByteArray} {E C : Int} (h : Out w o x E C) : w.cell? ⟨o, 2, none⟩ = some (.int .i64 C) := by unfold World.cell?; rw [h.row]; simp
theorem Out.fr {w : World} {o : Nat} {x : ByteArray} {E C : Int} (h : Out w o x E C) (j : Nat) : w.frozen? ⟨o, j, none⟩ = false := by unfold World.frozen?; rw [h.row]; simp
theorem Out.set0 {w : World} {o : Nat} {x : ByteArray} {E C : Int} (h : Out w o x E C) (v : ByteArray) : Out (w.setCell ⟨o, 0, none⟩ (.string v)) o v E C := ⟨by simp [World.setCell, Array.getElem?_modify, h.row]⟩
theorem Out.set1 {w : World} {o : Nat} {x : ByteArray} {E C : Int} (h : Out w o x E C) (v : Int) : Out (w.setCell ⟨o, 1, none⟩ (.int .i64 v)) o x v C := ⟨by simp [World.setCell, Array.getElem?_modify, h.row]⟩
theorem Out.set2 {w : World} {o : Nat} {x : ByteArray} {E C : Int} (h : Out w o x E C) (v : Int) : Out (w.setCell ⟨o, 2, none⟩ (.int .i64 v)) o x E v := ⟨by simp [World.setCell, Array.getElem?_modify, h.row]⟩

set_option maxRecDepth 10000 in
set_option maxHeartbeats 4000000 in
theorem run_c (size zeros : Int) (d : ByteArray) (A : Option Addr) (cap : Nat) (st : List (Int × Int)) (w : World) (hd : d.size ≤ 1000) (hn : st.length ≤ 300) (G : Given w A st cap) :
    Calls Try.prog 28 #[.int .i64 size, .int .i64 zeros, .string d, .slice A st.length cap] w (RunPost (clampN size) (clampZ zeros) d st w) := by
  have hN : clampN size = (if size < 1 then 1 else if size > 65536 then 65536 else size) := by unfold clampN; (repeat' split) <;> omega
  have hZ : clampZ zeros = (if zeros < 0 then 0 else if zeros > 1000 then 1000 else zeros) := by unfold clampZ; (repeat' split) <;> omega
  have hn1 : 1 ≤ clampN size := by unfold clampN; omega
  have hzm : clampZ zeros ≤ 1000 := by unfold clampZ; omega
  have CN := fun w => clamp_c size 1 65536 w
  have CZ := fun w => clamp_c zeros 0 1000 w
  rw [← hN] at CN
  rw [← hZ] at CZ
  clear hN hZ
  have HCN := Lib.hid CN
  have HCZ := Lib.hid CZ
  clear CN CZ
  generalize clampN size = N at hn1 HCN ⊢
  generalize clampZ zeros = Z at hzm HCZ ⊢
  have HGV : Hid (0 < st.length → ∃ g o, A = some ⟨g, o, none⟩ ∧ g < w.heap.size ∧ ∀ i, i < st.length → w.cell? ⟨g, o + i * 2, none⟩ = some (.int .i64 (st.getD i (0, 0)).1) ∧ w.cell? ⟨g, o + i * 2 + 1, none⟩ = some (.int .i64 (st.getD i (0, 0)).2)) := fun h => G.plain h
  clear G
  go_enter Try.func28, Try.ntmps28
  go_wp2_with fail
  have R0 : Rsc (((w.alloc (.cells #[.string ⟨#[]⟩, .int .i64 0, .int .i64 0] 50)).alloc (.cells #[.string d, .slice A st.length cap, .int .i64 0, .int .i64 0, .int .i64 0] 30)).alloc (.cells #[.string ⟨#[]⟩, .int .i64 0, .int .i64 0] 50)) (w.heap.size + 1) A cap st d 0 0 0 := by
    have R : Rsc ((w.alloc (.cells #[.string ⟨#[]⟩, .int .i64 0, .int .i64 0] 50)).alloc (.cells #[.string d, .slice A st.length cap, .int .i64 0, .int .i64 0, .int .i64 0] 30)) (w.alloc (.cells #[.string ⟨#[]⟩, .int .i64 0, .int .i64 0] 50)).heap.size A cap st d 0 0 0 :=
      ⟨World.cell?_alloc_new _ _ _ _, World.cell?_alloc_new _ _ _ _, World.cell?_alloc_new _ _ _ _, World.cell?_alloc_new _ _ _ _, World.cell?_alloc_new _ _ _ _, fun j hj => by simp, by simp⟩
    rw [World.size_alloc] at R
    exact R.keep ((Kept.refl (fun _ => False) _).alloc _) (fun h => h)
  have O0 : Out (((w.alloc (.cells #[.string ⟨#[]⟩, .int .i64 0, .int .i64 0] 50)).alloc (.cells #[.string d, .slice A st.length cap, .int .i64 0, .int .i64 0, .int .i64 0] 30)).alloc (.cells #[.string ⟨#[]⟩, .int .i64 0, .int .i64 0] 50)) (w.heap.size + 2) ⟨#[]⟩ 0 0 := ⟨by
    have h := heap_alloc_new ((w.alloc (.cells #[.string ⟨#[]⟩, .int .i64 0, .int .i64 0] 50)).alloc (.cells #[.string d, .slice A st.length cap, .int .i64 0, .int .i64 0, .int .i64 0] 30)) (.cells #[.string ⟨#[]⟩, .int .i64 0, .int .i64 0] 50)
    simpa using h⟩
  have B0 : Out (((w.alloc (.cells #[.string ⟨#[]⟩, .int .i64 0, .int .i64 0] 50)).alloc (.cells #[.string d, .slice A st.length cap, .int .i64 0, .int .i64 0, .int .i64 0] 30)).alloc (.cells #[.string ⟨#[]⟩, .int .i64 0, .int .i64 0] 50)) w.heap.size ⟨#[]⟩ 0 0 := ⟨by
    rw [Below.heap_alloc _ _ _ (by simp; omega), Below.heap_alloc _ _ _ (by simp)]
    exact heap_alloc_new w _⟩
  have K0 := Lib.hid ((((Kept.refl (fun i => w.heap.size ≤ i) w).alloc (.cells #[.string ⟨#[]⟩, .int .i64 0, .int .i64 0] 50)).alloc (.cells #[.string d, .slice A st.length cap, .int .i64 0, .int .i64 0, .int .i64 0] 30)).alloc (.cells #[.string ⟨#[]⟩, .int .i64 0, .int .i64 0] 50))
  generalize (((w.alloc (.cells #[.string ⟨#[]⟩, .int .i64 0, .int .i64 0] 50)).alloc (.cells #[.string d, .slice A st.length cap, .int .i64 0, .int .i64 0, .int .i64 0] 30)).alloc (.cells #[.string ⟨#[]⟩, .int .i64 0, .int .i64 0] 50)) = w0 at R0 O0 B0 K0 ⊢
  obtain ⟨h, hh⟩ : ∃ h, h = w.heap.size := ⟨_, rfl⟩
  rw [← hh] at R0 O0 B0
  rw [← hh]
  have HH := Lib.hid hh
  clear hh
  go_loopw [11] (fun i wr => ∃ (z a calls : Nat), i = .int .i64 z ∧ z ≤ calls ∧ a ≤ d.size ∧ calls + (st.drop calls).length + (d.size - a) ≤ st.length + d.size ∧ Rsc wr (h + 1) A cap st d a calls 0 ∧ Out wr (h + 2) (d.extract 0 a) 0 calls ∧ Out wr h ⟨#[]⟩ 0 0 ∧ (∀ T E C, Flow N Z (st.drop calls) (d.size - a) z T E C → Flow N Z st d.size 0 (a + T) E (calls + C)) ∧ Kept (fun i => w.heap.size ≤ i) w wr) (fun _ wr => left (h + 1) (st.length + d.size + 2) wr)
  case atStart => exact ⟨0, 0, 0, rfl, by omega, by omega, by simp, R0, by rw [show d.extract 0 0 = ⟨#[]⟩ from size_zero (by rw [ByteArray.size_extract]; omega)]; exact O0, B0, fun T E C h => by rw [List.drop_zero, Nat.sub_zero] at h; rw [Nat.zero_add, Nat.zero_add]; exact h, K0.out⟩
  case round =>
    obtain ⟨z, a, calls, rfl, hz, ha, hm, R, O, B, hf, K⟩ := hrel
    have K1 := Lib.hid K
    have HF := Lib.hid hf
    have HM := Lib.hid hm
    have hcl : calls ≤ st.length + d.size := by omega
    have HB := Lib.hid B
    have HO := Lib.hid O
    have HR := Lib.hid R
    have c3 := R.c3
    have HL := Lib.hid (left_is (M := st.length + d.size + 2) c3)
    have t1 : (calls : Int) ≤ (st.length : Int) + (d.size : Int) + 2 := by omega
    clear K hf hm B R0 O0 B0 K0 R O
    go_wp2_with fail
    refine (HCN.out _).mono ?_
    rintro e w1 ⟨rfl, rfl⟩
    go_wp2_with fail
    refine (ref_run (h + 1) A cap st d a calls N _ HR.out (by omega) ha (by omega) (by omega) (fun hp => by
      obtain ⟨gg, oo, hA, hgg, hc⟩ := HGV.out hp
      have e1 := HH.out
      refine ⟨gg, oo, hA, by omega, fun i hi => ?_⟩
      have hb1 := K1.out.block gg hgg (by omega)
      exact ⟨(World.cell?_of_block (w := w) (a := ⟨gg, oo + i * 2, none⟩) hb1).trans (hc i hi).1, (World.cell?_of_block (w := w) (a := ⟨gg, oo + i * 2 + 1, none⟩) hb1).trans (hc i hi).2⟩)).mono ?_
    rintro e w2 ⟨rfl, R2, K2⟩
    have hov := ov_ways N (st.drop calls) (d.size - a)
    have hcn := cn_le N (st.drop calls) (d.size - a)
    have hgo := Lib.hid (go_on N (st.drop calls) (d.size - a) (by omega))
    obtain ⟨c, hc⟩ : ∃ c, c = cn N (st.drop calls) (d.size - a) := ⟨_, rfl⟩
    obtain ⟨o', ho⟩ : ∃ o', o' = ov N (st.drop calls) (d.size - a) := ⟨_, rfl⟩
    rw [← hc] at hcn R2 hov ⊢
    rw [← ho] at R2 hov ⊢
    have HC := Lib.hid hc
    have HOV := Lib.hid ho
    have O2 := HO.out.keep K2 (by omega)
    have B2 := HB.out.keep K2 (by omega)
    have e1 := HH.out
    have K3 := Lib.hid (kup K1.out K2 (fun i hi => by omega))
    have x0 := O2.c0
    have x1 := O2.c1
    have x2 := O2.c2
    have f0 := O2.fr 0
    have f1 := O2.fr 1
    have f2 := O2.fr 2
    have b0 := B2.c0
    have b1 := B2.c1
    have b2 := B2.c2
    have g0 := B2.fr 0
    have g1 := B2.fr 1
    have g2 := B2.fr 2
    have r3 := R2.c3
    have hj := Lib.hid (join d a c (by omega))
    obtain ⟨X, hX⟩ : ∃ X, X = d.extract 0 a := ⟨_, rfl⟩
    obtain ⟨Y, hY⟩ : ∃ Y, Y = d.extract a (a + c) := ⟨_, rfl⟩
    obtain ⟨V, hV⟩ : ∃ V, V = d.extract 0 (a + c) := ⟨_, rfl⟩
    have hXY : X ++ Y = V := by rw [hX, hY, hV]; exact hj.out
    have sX : X.size = a := by rw [hX, ByteArray.size_extract]; omega
    have sY : Y.size = c := by rw [hY, ByteArray.size_extract]; omega
    have sV : V.size = a + c := by rw [hV, ByteArray.size_extract]; omega
    rw [← hX] at x0
    rw [← hY]
    have HX := Lib.hid hX
    have HV := Lib.hid hV
    have HR2 := Lib.hid R2
    have HO2 := Lib.hid O2
    have HB2 := Lib.hid B2
    have HE1 := Lib.hid e1
    clear c3 hc ho R2 O2 B2 e1 hX hY hV K2 K1 HB HO HR
    rcases hov with rfl | ⟨rfl, -⟩ | rfl
    · by_cases hc0 : c = 0
      · have hYe : Y = ⟨#[]⟩ := size_zero (by omega)
        subst hYe
        have hz' : (z : Int) + 1 ≤ 2000 := by omega
        by_cases hst : Z < z + 1
        · have hst' : (Z : Int) < (z : Int) + 1 := by omega
          go_wp2_with fail
          refine (HCZ.out _).mono ?_
          rintro e w3 ⟨rfl, rfl⟩
          go_wp2_with fail
          refine bodyPost_ret (v := .agg #[.string V, .int .i64 13, .int .i64 ((calls : Int) + 1)]) (by simp [results, Try.results28, go_sem, b0, b1, b2]) rfl ⟨a + 0, 13, calls + 1, ?_, HF.out _ _ _ (.stall HOV.out.symm (by rw [← HC.out]; exact hc0) hst), by omega, Kept.below (Below.refl _ w) ((((((K3.out.setCell (by show w.heap.size ≤ h + 2; have := HE1.out; omega) _).setCell (by show w.heap.size ≤ h + 2; have := HE1.out; omega) _).setCell (by show w.heap.size ≤ h + 2; have := HE1.out; omega) _).setCell (by show w.heap.size ≤ h; have := HE1.out; omega) _).setCell (by show w.heap.size ≤ h; have := HE1.out; omega) _).setCell (by show w.heap.size ≤ h; have := HE1.out; omega) _) (fun i h => h)⟩
          rw [HV.out, hc0, show ((calls + 1 : Nat) : Int) = (calls : Int) + 1 from by omega]
        · have hst' : ¬(Z : Int) < (z : Int) + 1 := by omega
          have HST := Lib.hid hst
          clear hst
          go_wp2_with fail
          refine (HCZ.out _).mono ?_
          rintro e w3 ⟨rfl, rfl⟩
          go_wp2_with fail
          go_roundw
          case rel =>
            have Kx := Kept.setIn (b := h + 2) (o := 2) (s := none) (u := .int .i64 ((calls : Int) + 1)) (Kept.setIn (b := h + 2) (o := 0) (s := none) (u := .string V) (Kept.refl (· = h + 2) w2))
            have O3 := (HO2.out.set0 V).set2 ((calls : Int) + 1)
            rw [show (calls : Int) + 1 = ((calls + 1 : Nat) : Int) from by omega, HV.out] at O3
            have e1 := HE1.out
            refine ⟨z + 1, a + c, calls + 1, by go_num, by omega, by omega, ?_, HR2.out.keep Kx (by omega), by first | exact O3 | (rw [HV.out]; exact O3), HB2.out.keep Kx (by omega), fun T E C hfl => ?_, (K3.out.setCell (by show w.heap.size ≤ h + 2; omega) _).setCell (by show w.heap.size ≤ h + 2; omega) _⟩
            · rw [← List.tail_drop]
              have := hgo.out HOV.out.symm
              rw [← HC.out] at this
              have := HM.out
              omega
            · rw [← List.tail_drop] at hfl
              have := HF.out _ _ _ (.more HOV.out.symm (by rw [← HC.out]; exact hc0) HST.out (show Flow N Z (st.drop calls).tail (d.size - a) (z + 1) T E C by rw [show d.size - a = d.size - (a + c) from by omega]; exact hfl))
              rw [show a + c + T = a + T from by omega, show calls + 1 + C = calls + (C + 1) from by omega]
              exact this
          case measure =>
            have Kx := Kept.setIn (b := h + 2) (o := 2) (s := none) (u := .int .i64 ((calls : Int) + 1)) (Kept.setIn (b := h + 2) (o := 0) (s := none) (u := .string V) (Kept.refl (· = h + 2) w2))
            have := left_is (M := st.length + d.size + 2) (HR2.out.keep Kx (by omega)).c3
            rw [HL.out]
            refine Nat.lt_of_le_of_lt (Nat.le_of_eq this) ?_
            omega
      · have hYe : Y.toList.isEmpty = false := by
          rw [ByteArray.toList_eq]
          cases e : Y.data.toList with
          | nil => have h1 : Y.data.toList.length = Y.size := by rw [Array.length_toList]; rfl
                   rw [e] at h1; simp at h1; omega
          | cons _ _ => rfl
        go_wp2_with fail
        go_roundw
        case rel =>
          have Kx := Kept.setIn (b := h + 2) (o := 2) (s := none) (u := .int .i64 ((calls : Int) + 1)) (Kept.setIn (b := h + 2) (o := 0) (s := none) (u := .string V) (Kept.refl (· = h + 2) w2))
          have O3 := (HO2.out.set0 V).set2 ((calls : Int) + 1)
          rw [show (calls : Int) + 1 = ((calls + 1 : Nat) : Int) from by omega, HV.out] at O3
          have e1 := HE1.out
          refine ⟨0, a + c, calls + 1, by go_num, by omega, by omega, ?_, HR2.out.keep Kx (by omega), by first | exact O3 | (rw [HV.out]; exact O3), HB2.out.keep Kx (by omega), fun T E C hfl => ?_, (K3.out.setCell (by show w.heap.size ≤ h + 2; omega) _).setCell (by show w.heap.size ≤ h + 2; omega) _⟩
          · rw [← List.tail_drop]
            have := hgo.out HOV.out.symm
            rw [← HC.out] at this
            have := HM.out
            omega
          · rw [← List.tail_drop] at hfl
            have := HF.out _ _ _ (.some_ HOV.out.symm (by rw [← HC.out]; omega) (T := T) (E := E) (C := C) (by rw [← HC.out, show d.size - a - c = d.size - (a + c) from by omega]; exact hfl))
            rw [show a + c + T = a + (cn N (st.drop calls) (d.size - a) + T) from by rw [← HC.out]; omega, show calls + 1 + C = calls + (C + 1) from by omega]
            exact this
        case measure =>
          have Kx := Kept.setIn (b := h + 2) (o := 2) (s := none) (u := .int .i64 ((calls : Int) + 1)) (Kept.setIn (b := h + 2) (o := 0) (s := none) (u := .string V) (Kept.refl (· = h + 2) w2))
          have := left_is (M := st.length + d.size + 2) (HR2.out.keep Kx (by omega)).c3
          rw [HL.out]
          refine Nat.lt_of_le_of_lt (Nat.le_of_eq this) ?_
          omega
    · go_wp2_with fail
      refine bodyPost_ret (v := .agg #[.string V, .int .i64 14, .int .i64 ((calls : Int) + 1)]) (by simp [results, Try.results28, go_sem, b0, b1, b2]) rfl ⟨a + cn N (st.drop calls) (d.size - a), 14, calls + 1, ?_, HF.out _ _ _ (.end_ HOV.out.symm), by have := HC.out; omega, Kept.below (Below.refl _ w) ((((((K3.out.setCell (by show w.heap.size ≤ h + 2; have := HE1.out; omega) _).setCell (by show w.heap.size ≤ h + 2; have := HE1.out; omega) _).setCell (by show w.heap.size ≤ h + 2; have := HE1.out; omega) _).setCell (by show w.heap.size ≤ h; have := HE1.out; omega) _).setCell (by show w.heap.size ≤ h; have := HE1.out; omega) _).setCell (by show w.heap.size ≤ h; have := HE1.out; omega) _) (fun i h => h)⟩
      rw [HV.out, ← HC.out, show ((calls + 1 : Nat) : Int) = (calls : Int) + 1 from by omega]
    · go_wp2_with fail
      refine bodyPost_ret (v := .agg #[.string V, .int .i64 12, .int .i64 ((calls : Int) + 1)]) (by simp [results, Try.results28, go_sem, b0, b1, b2]) rfl ⟨a + cn N (st.drop calls) (d.size - a), 12, calls + 1, ?_, HF.out _ _ _ (.fail_ HOV.out.symm), by have := HC.out; omega, Kept.below (Below.refl _ w) ((((((K3.out.setCell (by show w.heap.size ≤ h + 2; have := HE1.out; omega) _).setCell (by show w.heap.size ≤ h + 2; have := HE1.out; omega) _).setCell (by show w.heap.size ≤ h + 2; have := HE1.out; omega) _).setCell (by show w.heap.size ≤ h; have := HE1.out; omega) _).setCell (by show w.heap.size ≤ h; have := HE1.out; omega) _).setCell (by show w.heap.size ≤ h; have := HE1.out; omega) _) (fun i h => h)⟩
      rw [HV.out, ← HC.out, show ((calls + 1 : Nat) : Int) = (calls : Int) + 1 from by omega]
end Go.Proofs.Ytakhdkfcnanglaa.Wrun
