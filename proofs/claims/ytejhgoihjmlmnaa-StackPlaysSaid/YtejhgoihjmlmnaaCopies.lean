/- A copy goes on from what is open, whatever becomes of that: the walk of StackCopies. -/
import Derived.Test.YtejhgoihjmlmnaaActs
import Derived.OwnWalk
import Derived.Lib.SliceRun
import Derived.Laws.AppendOwnNone
import Derived.Deep.RegionHeld3
namespace Go.Proofs.Ytejhgoihjmlmnaa.Copies
open Go.RowKit
open Go.Proofs.Ytejhgoihjmlmnaa.Obj Go.Proofs.Ytejhgoihjmlmnaa.Acts
set_option linter.unusedVariables false

set_option maxHeartbeats 400000 in
theorem walk_out (d : Int) (A : Option Addr) (cap : Nat) (st : List (Int × Int)) (w : World) (hl : st.length ≤ 9223372036854775807) (h : 200 < st.length) :
    Calls Try.prog 7 #[.int .i64 d, .slice A st.length cap] w fun e w' => e = .returned (.bool true) ∧ Below w.heap.size w w' := by
  have h' : (200 : Int) < (st.length : Int) := by omega
  go_enter Try.func7, Try.ntmps7
  go_wp2_with fail
  refine (new_c d _).mono ?_
  rintro e w1 ⟨rfl, S1, K1⟩
  have B1 := Lib.hid (Kept.below (Below.refl _ w) K1 (fun _ h => h.elim))
  clear S1 K1
  generalize hb : w.heap.size = b
  go_wp2_with fail
  refine (awake_c _).mono ?_
  rintro e w2 ⟨rfl, hb2⟩
  go_wp2_with fail
  refine (awake_c _).mono ?_
  rintro e w3 ⟨rfl, hb3⟩
  go_wp2_with fail
  go_ret
  subst hb
  exact ⟨rfl, Nested.step (Nested.step B1.out hb2) hb3⟩

def runS (most : Nat) (s : PS) (l : List (Int × Int)) : PS := l.foldl (fun s a => (pDo most s a).2) s
theorem runS_succ (most : Nat) (s : PS) (l : List (Int × Int)) (k : Nat) (h : k < l.length) : runS most s (l.take (k + 1)) = (pDo most (runS most s (l.take k)) (l.getD k (0, 0))).2 := by
  rw [List.take_add_one, List.getElem?_eq_getElem h, show l.getD k (0, 0) = l[k] from by simp [List.getD, h]]
  unfold runS
  rw [List.foldl_append]
  rfl
def outV (most : Nat) (s : PS) (l : List (Int × Int)) (j : Nat) : Int := (pDo most (runS most s (l.take j)) (l.getD j (0, 0))).1
theorem getD_drop' (l : List (Int × Int)) (a k : Nat) : (l.drop a).getD k (0, 0) = l.getD (a + k) (0, 0) := by simp [List.getD, List.getElem?_drop]
theorem kept_grown {w w' : World} {v : Value} {base e size n : Nat} {xs : List Value} (h : w.ownsRow base e size v n xs) (g : w.grownBy w' v.ownBlock) : Kept (fun i => base ≤ i) w w' :=
  ⟨g.os, g.tape, g.output, g.size, fun k hk hn => g.block k hk (fun e => hn (h.lt k e.symm).1)⟩
theorem grown_kept {w w' : World} {b : Nat} (k : Kept (· = b) w w') : w.grownBy w' (some b) :=
  ⟨k.os, k.tape, k.output, k.size, fun i hi hn => k.block i hi (fun e => hn (by rw [e]))⟩
theorem own_keep {w w' : World} {v : Value} {b base e size n : Nat} {xs : List Value} (h : w.ownsRow base e size v n xs) (k : Kept (· = b) w w') (hb : b < base) : w'.ownsRow base e size v n xs :=
  h.kept (grown_kept k) (by
    cases hv : v.ownBlock with
    | none => exact .inl rfl
    | some z => exact .inr (fun e => by have := (h.lt z hv).1; simp only [Option.some.injEq] at e; omega))
theorem own_cells {w : World} {v : Value} {base j : Nat} {f : Nat → Int} (h : w.ownsRow base 3 1 v j ((List.range j).map fun x => .int .i64 (f x))) :
    (j = 0 ∧ v = .slice none 0 0) ∨ ∃ g cap, v = .slice (some ⟨g, 0, none⟩) j cap ∧ base ≤ g ∧ g < w.heap.size ∧ ∀ i, i < j → w.cell? ⟨g, i, none⟩ = some (.int .i64 (f i)) := by
  obtain ⟨_, ⟨h1, h2⟩ | ⟨g, cap, cur, h1, h2, h3, h4, h5, h6, h7⟩⟩ := h
  · exact .inl ⟨h2, h1⟩
  · refine .inr ⟨g, cap, h1, h2, (Array.getElem?_eq_some_iff.1 h3).1, fun i hi => ?_⟩
    rw [cell_of_row w g i cur 3 (0, 0) h3, ← Array.getElem?_toList]
    have : (cur.toList.take (j * 1))[i]? = some (.int .i64 (f i)) := by rw [h7]; simp [hi]
    rw [List.getElem?_take, if_pos (by omega)] at this
    exact this
theorem info3 : (Try.prog.info? 3).map (fun i => (i.zero, i.size, i.bytes)) = some (some (.int .i64 0), 1, 8) := by kernel_rfl

set_option maxHeartbeats 4000000 in
theorem walk_within (d : Int) (A : Option Addr) (cap : Nat) (st : List (Int × Int)) (w : World) (hl : st.length ≤ 200) (h0 : 0 < st.length) (G : Given w A st cap) :
    Calls Try.prog 7 #[.int .i64 d, .slice A st.length cap] w fun e w' => e = .returned (.bool true) ∧ Below w.heap.size w w' := by
  have a2 : ¬(200 : Int) < (st.length : Int) := by omega
  have hle := G.le
  have hmc := G.most
  have HW := Lib.hid G.wf
  obtain ⟨gg, oo, rfl, hgg, HC0⟩ := G.plain h0
  have HC := Lib.hid HC0
  clear HC0
  obtain ⟨half, hh, hh2⟩ : ∃ half : Nat, (st.length : Int) / 2 = half ∧ half < st.length := ⟨st.length / 2, by omega, by omega⟩
  have hc2 : half < cap := by omega
  go_enter Try.func7, Try.ntmps7
  go_wp2_with fail
  refine (new_c d _).mono ?_
  rintro e w1 ⟨rfl, S1, K1⟩
  generalize hb : w.heap.size = b at S1 hgg ⊢
  have HB := Lib.hid hb
  clear hb
  have B1 := Lib.hid (K1.mono (T := (· = b)) (fun _ h => h.elim))
  clear K1
  go_wp2_with fail
  refine (awake_c _).mono ?_
  rintro e w2 ⟨rfl, hb2⟩
  have S2 := S1.keep (Kept.of_below hb2 (fun _ => False)) (fun h => h)
  have B2 := Lib.hid (B1.out.trans (Kept.of_below hb2 _))
  clear S1 B1 hb2
  obtain ⟨M, hM⟩ : ∃ M, M = clamp d := ⟨_, rfl⟩
  rw [← hM] at S2
  obtain ⟨m, hm⟩ : ∃ m, st.length - half = m := ⟨_, rfl⟩
  have hlm : half + m = st.length := by omega
  have HM := Lib.hid hlm
  clear hM hlm
  have S3 : Stk w2 b (runS M (fun _ => 0, 0) (st.take 0)).1 (runS M (fun _ => 0, 0) (st.take 0)).2 M := S2
  clear S2
  obtain ⟨i0, hi, hz0, hz1, hz2⟩ := info_parts info3
  go_wp2_with fail
  go_loopw [36] (fun i wr => ∃ k : Nat, k ≤ half ∧ i = .int .i64 k ∧ Stk wr b (runS M (fun _ => 0, 0) (st.take k)).1 (runS M (fun _ => 0, 0) (st.take k)).2 M ∧ Kept (· = b) w wr) (fun i _ => half - (intOf i).toNat)
  case atStart => exact ⟨0, Nat.zero_le _, rfl, S3, B2.out⟩
  case round =>
    obtain ⟨k, hk, rfl, S, K⟩ := hrel
    have K0 := Lib.hid K
    clear K S3 B2
    by_cases hlt : k < half
    · obtain ⟨z0, z1⟩ := HC.out k (by omega)
      have hbl := K0.out.block gg (by have := HB.out; omega) (by omega)
      replace z0 := (World.cell?_of_block (w := w) (a := ⟨gg, oo + k * 2, none⟩) hbl).trans z0
      replace z1 := (World.cell?_of_block (w := w) (a := ⟨gg, oo + k * 2 + 1, none⟩) hbl).trans z1
      have hwf := HW.out k (by omega)
      have hs := Lib.hid (runS_succ M (fun _ => 0, 0) st k (by omega))
      generalize st.getD k (0, 0) = x at z0 z1 hwf hs
      obtain ⟨p, q⟩ := x
      simp only at z0 z1 hwf
      generalize runS M (fun _ => 0, 0) (st.take k) = s at S hs
      have t1 : (k : Int) < half := by omega
      have lb := S.lt
      clear hbl
      go_wp2_with fail
      refine (do_c b M s p q _ (S.keep ((Kept.refl (fun _ => False) wr).alloc _) (fun h => h)) hwf.2).mono ?_
      rintro e w5 ⟨rfl, S5, K5⟩
      have K6 := Lib.hid ((K0.out.alloc (.cells #[.int .i64 p, .int .i64 q] 37)).trans K5)
      have S6 := Lib.hid S5
      clear S5 K5 S
      go_wp2_with fail
      go_roundw
      case rel => exact ⟨k + 1, by omega, by go_num, by rw [hs.out]; exact S6.out, K6.out⟩
      case measure => simp [intOf]; omega
    · obtain rfl : k = half := by omega
      have t1 : ¬(k : Int) < k := by omega
      have hs0 : runS M (fun _ => 0, 0) (st.take k) = runS M (fun _ => 0, 0) (st.take k) := rfl
      generalize runS M (fun _ => 0, 0) (st.take k) = s at S
      clear hs0
      go_wp2_with fail
      refine (copy_c b s.2 M s.1 wr S).mono ?_
      rintro e w5 ⟨rfl, S5, C5, K5⟩
      have K6 := Lib.hid (K0.out.trans (K5.mono (T := (· = b)) (fun _ h => h.elim)))
      have hbc : Hid (b < wr.heap.size) := S.lt
      generalize wr.heap.size = c at C5 hbc ⊢
      clear K5 S
      have hB : ∃ B, B = w5.heap.size := ⟨_, rfl⟩
      obtain ⟨B, hB⟩ := hB
      have hbB : b < B := by rw [hB]; exact S5.lt
      have hcB : c < B := by rw [hB]; exact C5.lt
      have HBQ := Lib.hid (Nat.le_of_eq hB)
      clear hB
      have S6 : Stk w5 b (runS M s ((st.drop k).take 0)).1 (runS M s ((st.drop k).take 0)).2 M := S5
      clear S5
      go_wp2_with fail
      go_loopw [10, 52] (fun v i wr => ∃ j : Nat, j ≤ m ∧ i = .int .i64 j ∧ wr.ownsRow B 3 1 v j ((List.range j).map fun x => .int .i64 (outV M s (st.drop k) x)) ∧ Stk wr b (runS M s ((st.drop k).take j)).1 (runS M s ((st.drop k).take j)).2 M ∧ Stk wr c s.1 s.2 M ∧ B ≤ wr.heap.size ∧ Kept (· = b) w wr) (fun _ i _ => m - (intOf i).toNat)
      case atStart => exact ⟨0, Nat.zero_le _, rfl, World.ownsRow_nil _ _ _ _, S6, C5, HBQ.out, K6.out⟩
      case round =>
        obtain ⟨j, hj, rfl, hown, S, C, hBw, K⟩ := hrel
        have K0 := Lib.hid K
        clear K S6 C5 K6
        by_cases hlt : j < m
        · have hkj : k + j < st.length := by have := HM.out; omega
          obtain ⟨z0, z1⟩ := HC.out (k + j) hkj
          have hbl := K0.out.block gg (by have := HB.out; omega) (by omega)
          replace z0 := (World.cell?_of_block (w := w) (a := ⟨gg, oo + (k + j) * 2, none⟩) hbl).trans z0
          replace z1 := (World.cell?_of_block (w := w) (a := ⟨gg, oo + (k + j) * 2 + 1, none⟩) hbl).trans z1
          rw [show oo + (k + j) * 2 = oo + k * 2 + j * 2 from by omega] at z0 z1
          have hwf := HW.out (k + j) hkj
          have hs := Lib.hid (runS_succ M s (st.drop k) j (by rw [List.length_drop]; omega))
          have ho : Hid (outV M s (st.drop k) j = (pDo M (runS M s ((st.drop k).take j)) ((st.drop k).getD j (0, 0))).1) := rfl
          rw [getD_drop'] at hs ho
          generalize st.getD (k + j) (0, 0) = x at z0 z1 hwf hs ho
          obtain ⟨p, q⟩ := x
          simp only at z0 z1 hwf
          generalize runS M s ((st.drop k).take j) = s1 at S hs ho
          have t1 : (j : Int) < m := by omega
          have lb := S.lt
          clear hbl
          go_wp2_with fail
          refine (do_c b M s1 p q _ (S.keep ((Kept.refl (fun _ => False) wr).alloc _) (fun h => h)) hwf.2).mono ?_
          rintro e w6 ⟨rfl, S7, K5⟩
          have K6 := Lib.hid ((K0.out.alloc (.cells #[.int .i64 p, .int .i64 q] 37)).trans K5)
          have C7 := (C.keep ((Kept.refl (fun _ => False) wr).alloc (.cells #[.int .i64 p, .int .i64 q] 37)) (fun h => h)).keep K5 (fun h => by have := hbc.out; omega)
          have hown2 := own_keep (hown.alloc (.cells #[.int .i64 p, .int .i64 q] 37)) K5 hbB
          have hBw2 : B ≤ w6.heap.size := by have := K5.size; rw [World.size_alloc] at this; omega
          clear hown K5 S C
          rw [← ho.out]
          have hown3 := hown2.alloc (.cells #[.int .i64 (outV M s (st.drop k) j)] 3)
          have S8 := S7.keep ((Kept.refl (fun _ => False) w6).alloc (.cells #[.int .i64 (outV M s (st.drop k) j)] 3)) (fun h => h)
          have C8 := C7.keep ((Kept.refl (fun _ => False) w6).alloc (.cells #[.int .i64 (outV M s (st.drop k) j)] 3)) (fun h => h)
          have K8 := Lib.hid (K6.out.alloc (.cells #[.int .i64 (outV M s (st.drop k) j)] 3))
          clear hown2 S7 C7 K6
          generalize hr : outV M s (st.drop k) j = r at hown3 S8 C8 K8 ⊢
          have HR := Lib.hid hr
          clear hr
          go_wp2_with (at_builtin; refine wpList_append_own _ rfl (.tmp 56) (.tmp 60) 22 rfl B 3 i0 _ 1 8 Try.underlying22 hi hz0 hz1 hz2 rfl (by decide) _ j _ rfl hown3 ⟨w6.heap.size, 0, none⟩ 1 1 [.int .i64 r] rfl rfl ?c1 ?c2 ?c3 ?c4 ?c5 ?_)
          case c1 =>
            intro z u hz
            match z, hz with
            | 0, hz => simp at hz; subst hz; simp [Addr.add]
          case c2 => intro u hu; simp at hu; subst hu; rfl
          case c3 => unfold maxLen; omega
          case c4 => omega
          case c5 => simp; omega
          intro v' w7 ho7 hg7 _
          have K9 := kept_grown hown3 hg7
          have S9 := Lib.hid (S8.keep K9 (by show ¬B ≤ b; omega))
          have C9 := Lib.hid (C8.keep K9 (by show ¬B ≤ c; omega))
          have K10 : Hid (Kept (· = b) w w7) := by
            have e1 := K8.out.size
            have h2 := HB.out
            exact ⟨K9.os.trans K8.out.os, K9.tape.trans K8.out.tape, K9.output.trans K8.out.output, Nat.le_trans e1 K9.size, fun i hi hn => (K9.block i (by omega) (by omega)).trans (K8.out.block i hi hn)⟩
          have hBw3 : B ≤ w7.heap.size := by have := K9.size; rw [World.size_alloc] at this; omega
          have ho8 : (w7.ownsRow B 3 1 v' (j + 1) ((List.range (j + 1)).map fun x => .int .i64 (outV M s (st.drop k) x))) := by
            rw [List.range_succ, List.map_append, List.map_cons, List.map_nil, HR.out]
            exact ho7
          have ho8 := Lib.hid ho8
          clear ho7 hg7 K9 S8 C8 hown3 K8
          go_wp2_with fail
          go_roundw
          case rel => exact ⟨j + 1, by omega, by go_num, ho8.out, by rw [hs.out]; exact S9.out, C9.out, hBw3, K10.out⟩
          case measure => simp [intOf]; omega
        · obtain rfl : j = m := by omega
          have t1 : ¬(j : Int) < j := by omega
          obtain ⟨se, hse⟩ : ∃ se, se = runS M s ((st.drop k).take j) := ⟨_, rfl⟩
          rw [← hse] at S
          have HSE := Lib.hid hse
          clear hse
          have C1 : Stk wr c (runS M s ((st.drop k).take 0)).1 (runS M s ((st.drop k).take 0)).2 M := C
          clear C
          rcases own_cells hown with ⟨rfl, rfl⟩ | ⟨g1, cap1, rfl, hg1, hg1s, hoc⟩
          · clear hown
            go_wp2_with fail
            go_loopw [67] (fun i wr' => i = .int .i64 0 ∧ Stk wr' c (runS M s ((st.drop k).take 0)).1 (runS M s ((st.drop k).take 0)).2 M ∧ Stk wr' b se.1 se.2 M ∧ Kept (· = b) w wr') (fun i _ => 0)
            case atStart => exact ⟨rfl, C1, S, K0.out⟩
            case round =>
              obtain ⟨rfl, C, S, K⟩ := hrel
              have K0 := Lib.hid K
              have hs3 := Lib.hid HSE.out
              rw [← HSE.out] at C
              clear K C1
              go_wp2_with fail
              refine (depth_c c se.2 M se.1 _ C).mono ?_
              rintro e w8 ⟨rfl, rfl⟩
              go_wp2_with fail
              refine (depth_c b se.2 M se.1 _ S).mono ?_
              rintro e w8 ⟨rfl, rfl⟩
              go_wp2_with fail
              refine (left_p c M se _ C).mono ?_
              rintro e w8 ⟨rfl, C8, K8⟩
              go_wp2_with fail
              refine (left_p b M se _ (S.keep K8 (fun h => by have := hbc.out; omega))).mono ?_
              rintro e w9 ⟨rfl, S9, K9⟩
              go_wp2_with fail
              go_ret
              exact ⟨rfl, Kept.below (Kept.below (Kept.below (Below.refl _ w) K0.out (fun i hi => by have := HB.out; omega)) K8 (fun i hi => by have h1 := HB.out; have h2 := hbc.out; omega)) K9 (fun i hi => by have := HB.out; omega)⟩
          · clear hown
            have K2 := K0
            obtain ⟨wo, hwo⟩ : ∃ wo : World, wo = wr := ⟨wr, rfl⟩
            have SO : Stk wo b se.1 se.2 M := by rw [hwo]; exact S
            have KO : Hid (Kept (· = b) w wo) := by rw [hwo]; exact K0
            have hoc' : Hid (∀ i, i < j → wo.cell? ⟨g1, i, none⟩ = some (.int .i64 (outV M s (st.drop k) i))) := by rw [hwo]; exact hoc
            have hg1' : g1 < wo.heap.size := by rw [hwo]; exact hg1s
            have C2 : Stk wo c (runS M s ((st.drop k).take 0)).1 (runS M s ((st.drop k).take 0)).2 M := by rw [hwo]; exact C1
            clear C1 S K0 K2 hoc hg1s
            subst hwo
            go_wp2_with fail
            go_loopw [67] (fun i wr => ∃ n : Nat, n ≤ j ∧ i = .int .i64 n ∧ Stk wr c (runS M s ((st.drop k).take n)).1 (runS M s ((st.drop k).take n)).2 M ∧ Kept (· = c) wo wr) (fun i _ => j - (intOf i).toNat)
            case atStart => exact ⟨0, Nat.zero_le _, rfl, C2, Kept.refl _ _⟩
            case round =>
              obtain ⟨n, hn, rfl, C, K⟩ := hrel
              have K0 := Lib.hid K
              clear K C2
              by_cases hlt : n < j
              · have hkj : k + n < st.length := by have := HM.out; omega
                obtain ⟨z0, z1⟩ := HC.out (k + n) hkj
                have hbl := (K0.out.block gg (by have h1 := KO.out.size; have := HB.out; omega) (by have := hbc.out; omega)).trans (KO.out.block gg (by have := HB.out; omega) (by omega))
                replace z0 := (World.cell?_of_block (w := w) (a := ⟨gg, oo + (k + n) * 2, none⟩) hbl).trans z0
                replace z1 := (World.cell?_of_block (w := w) (a := ⟨gg, oo + (k + n) * 2 + 1, none⟩) hbl).trans z1
                rw [show oo + (k + n) * 2 = oo + k * 2 + n * 2 from by omega] at z0 z1
                have hwf := HW.out (k + n) hkj
                have hs := Lib.hid (runS_succ M s (st.drop k) n (by rw [List.length_drop]; omega))
                have ho : Hid (outV M s (st.drop k) n = (pDo M (runS M s ((st.drop k).take n)) ((st.drop k).getD n (0, 0))).1) := rfl
                rw [getD_drop'] at hs ho
                have hob := K0.out.block g1 hg1' (by omega)
                have zo := (World.cell?_of_block (w := wo) (a := ⟨g1, n, none⟩) hob).trans (hoc'.out n hlt)
                generalize st.getD (k + n) (0, 0) = x at z0 z1 hwf hs ho
                obtain ⟨p, q⟩ := x
                simp only at z0 z1 hwf
                generalize outV M s (st.drop k) n = r at zo ho
                generalize runS M s ((st.drop k).take n) = s1 at C hs ho
                obtain rfl := ho.out
                have t1 : (n : Int) < j := by omega
                have hg1w : g1 < wr.heap.size := Nat.lt_of_lt_of_le hg1' K0.out.size
                clear hbl hob
                go_wp2_with fail
                have C3 := C.keep ((Kept.refl (fun _ => False) wr).alloc (.cells #[.int .i64 p, .int .i64 q] 37)) (fun h => h)
                have y0 : (wr.alloc (.cells #[.int .i64 p, .int .i64 q] 37)).cell? ⟨wr.heap.size, 0, none⟩ = some (.int .i64 p) := World.cell?_alloc_new _ _ _ _
                have y1 : (wr.alloc (.cells #[.int .i64 p, .int .i64 q] 37)).cell? ⟨wr.heap.size, 1, none⟩ = some (.int .i64 q) := World.cell?_alloc_new _ _ _ _
                have y2 : (wr.alloc (.cells #[.int .i64 p, .int .i64 q] 37)).cell? ⟨g1, n, none⟩ = some (.int .i64 (pDo M s1 (p, q)).1) := (World.cell?_alloc_lt _ _ _ hg1w).trans zo
                have K3 := Lib.hid (K0.out.alloc (.cells #[.int .i64 p, .int .i64 q] 37))
                have hcw : c < wr.heap.size := C.lt
                have hzs : wr.heap.size < (wr.alloc (.cells #[.int .i64 p, .int .i64 q] 37)).heap.size := by simp
                generalize (wr.alloc (.cells #[.int .i64 p, .int .i64 q] 37)) = W1 at C3 y0 y1 y2 K3 hzs ⊢
                generalize wr.heap.size = zz at y0 y1 hg1w hcw hzs ⊢
                clear C zo z0 z1
                go_region_held3 (fun w' => w'.cell? ⟨zz, 0, none⟩ = some (.int .i64 p) ∧ w'.cell? ⟨zz, 1, none⟩ = some (.int .i64 q) ∧ w'.cell? ⟨g1, n, none⟩ = some (.int .i64 (pDo M s1 (p, q)).1)) (first | exact ⟨y0, y1, y2⟩ | exact ⟨x0, x1, x2⟩) (first | (go_at_call 21; refine (do_c c M s1 p q _ C3.drew hwf.2).mono ?_; rintro e w6 ⟨rfl, C7, K5⟩; have x0 := (World.cell?_of_block (w := W1.drew) (a := ⟨zz, 0, none⟩) (K5.block zz hzs (by show ¬zz = c; omega))).trans y0; have x1 := (World.cell?_of_block (w := W1.drew) (a := ⟨zz, 1, none⟩) (K5.block zz hzs (by show ¬zz = c; omega))).trans y1; have x2 := (World.cell?_of_block (w := W1.drew) (a := ⟨g1, n, none⟩) (K5.block g1 (by show g1 < W1.heap.size; omega) (by show ¬g1 = c; omega))).trans y2))
                have K6 := Lib.hid (K3.out.drew.trans K5)
                have C8 := Lib.hid C7
                clear K5 C7 x0 x1 x2 y0 y1 y2 K3 C3
                go_wp2_with fail
                go_roundw
                case rel => exact ⟨n + 1, by omega, by go_num, by rw [hs.out]; exact C8.out, K6.out⟩
                case measure => simp [intOf]; omega
              · obtain rfl : n = j := by omega
                have t1 : ¬(n : Int) < n := by omega
                rw [← HSE.out] at C
                have S := SO.keep K0.out (fun h => by have := hbc.out; omega)
                go_wp2_with fail
                refine (depth_c c se.2 M se.1 _ C).mono ?_
                rintro e w8 ⟨rfl, rfl⟩
                go_wp2_with fail
                refine (depth_c b se.2 M se.1 _ S).mono ?_
                rintro e w8 ⟨rfl, rfl⟩
                go_wp2_with fail
                refine (left_p c M se _ C).mono ?_
                rintro e w8 ⟨rfl, C8, K8⟩
                go_wp2_with fail
                refine (left_p b M se _ (S.keep K8 (fun h => by have := hbc.out; omega))).mono ?_
                rintro e w9 ⟨rfl, S9, K9⟩
                go_wp2_with fail
                go_ret
                exact ⟨rfl, Kept.below (Kept.below (Kept.below (Kept.below (Below.refl _ w) KO.out (fun i hi => by have := HB.out; omega)) K0.out (fun i hi => by have h1 := HB.out; have h2 := hbc.out; omega)) K8 (fun i hi => by have h1 := HB.out; have h2 := hbc.out; omega)) K9 (fun i hi => by have := HB.out; omega)⟩

set_option maxHeartbeats 4000000 in
theorem walk_nil (d : Int) (A : Option Addr) (cap : Nat) (w : World) (hA : A = none ∧ cap = 0 ∨ ∃ a, A = some a) (hm : cap ≤ 9223372036854775807) :
    Calls Try.prog 7 #[.int .i64 d, .slice A 0 cap] w fun e w' => e = .returned (.bool true) ∧ Below w.heap.size w w' := by
  rcases hA with ⟨rfl, rfl⟩ | ⟨⟨g, o, sp⟩, rfl⟩
  all_goals
    go_enter Try.func7, Try.ntmps7
    go_wp2_with fail
    refine (new_c d _).mono ?_
    rintro e w1 ⟨rfl, S1, K1⟩
    generalize hb : w.heap.size = b at S1 ⊢
    have HB := Lib.hid hb
    clear hb
    have B1 := Lib.hid (K1.mono (T := (· = b)) (fun _ h => h.elim))
    clear K1
    go_wp2_with fail
    refine (awake_c _).mono ?_
    rintro e w2 ⟨rfl, hb2⟩
    have S2 := S1.keep (Kept.of_below hb2 (fun _ => False)) (fun h => h)
    have B2 := Lib.hid (B1.out.trans (Kept.of_below hb2 _))
    clear S1 B1 hb2
    go_wp2_with fail
    go_loopw [36] (fun i wr => i = .int .i64 0 ∧ Stk wr b (fun _ => 0) 0 (clamp d) ∧ Kept (· = b) w wr) (fun i _ => 0)
    case atStart => exact ⟨rfl, S2, B2.out⟩
    case round =>
      obtain ⟨rfl, S, K⟩ := hrel
      have K0 := Lib.hid K
      clear K S2 B2
      go_wp2_with fail
      refine (copy_c b 0 (clamp d) _ wr S).mono ?_
      rintro e w5 ⟨rfl, S5, C5, K5⟩
      have K6 := Lib.hid (K0.out.trans (K5.mono (T := (· = b)) (fun _ h => h.elim)))
      have hbc : Hid (b < wr.heap.size) := S.lt
      generalize wr.heap.size = c at C5 hbc ⊢
      clear K5 S
      go_wp2_with fail
      go_loopw [52] (fun i wr' => i = .int .i64 0 ∧ Stk wr' c (fun _ => 0) 0 (clamp d) ∧ Stk wr' b (fun _ => 0) 0 (clamp d) ∧ Kept (· = b) w wr') (fun i _ => 0)
      case atStart => exact ⟨rfl, C5, S5, K6.out⟩
      case round =>
        obtain ⟨rfl, C, S, K⟩ := hrel
        have K7 := Lib.hid K
        clear K C5 S5 K6
        go_wp2_with fail
        go_loopw [67] (fun i wr' => i = .int .i64 0 ∧ Stk wr' c (fun _ => 0) 0 (clamp d) ∧ Stk wr' b (fun _ => 0) 0 (clamp d) ∧ Kept (· = b) w wr') (fun i _ => 0)
        case atStart => exact ⟨rfl, C, S, K7.out⟩
        case round =>
          obtain ⟨rfl, C, S, K⟩ := hrel
          have K8 := Lib.hid K
          clear K
          go_wp2_with fail
          refine (depth_c c _ _ _ _ C).mono ?_
          rintro e w8 ⟨rfl, rfl⟩
          go_wp2_with fail
          refine (depth_c b _ _ _ _ S).mono ?_
          rintro e w8 ⟨rfl, rfl⟩
          go_wp2_with fail
          refine (left_p c (clamp d) (fun _ => 0, 0) _ C).mono ?_
          rintro e w8 ⟨rfl, C8, K9⟩
          go_wp2_with fail
          refine (left_p b (clamp d) (fun _ => 0, 0) _ (S.keep K9 (fun h => by have := hbc.out; omega))).mono ?_
          rintro e w9 ⟨rfl, S9, K10⟩
          go_wp2_with fail
          go_ret
          exact ⟨rfl, Kept.below (Kept.below (Kept.below (Below.refl _ w) K8.out (fun i hi => by have := HB.out; omega)) K9 (fun i hi => by have h1 := HB.out; have h2 := hbc.out; omega)) K10 (fun i hi => by have := HB.out; omega)⟩

theorem walk (d : Int) (A : Option Addr) (cap : Nat) (st : List (Int × Int)) (w : World) (hl : st.length ≤ 9223372036854775807) (G : Given w A st cap) :
    Calls Try.prog 7 #[.int .i64 d, .slice A st.length cap] w fun e w' => e = .returned (.bool true) ∧ Below w.heap.size w w' := by
  by_cases h : 200 < st.length
  · exact walk_out d A cap st w hl h
  · by_cases h0 : 0 < st.length
    · exact walk_within d A cap st w (by omega) h0 G
    · obtain rfl : st = [] := List.eq_nil_of_length_eq_zero (by omega)
      refine walk_nil d A cap w ?_ G.most
      rcases G.at_ with ⟨h1, _, h2⟩ | ⟨a, h1, _⟩
      · exact .inl ⟨h1, h2⟩
      · exact .inr ⟨a, h1⟩
end Go.Proofs.Ytejhgoihjmlmnaa.Copies
