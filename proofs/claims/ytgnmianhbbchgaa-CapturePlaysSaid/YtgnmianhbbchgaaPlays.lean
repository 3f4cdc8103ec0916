/- In every order of calls just the bytes are kept that the document says: the walk of CapturePlays. -/
import Derived.Test.YtgnmianhbbchgaaCref
import Derived.Deep.RegionHeld3
namespace Go.Proofs.Ytgnmianhbbchgaa.Plays
open Go.RowKit
open Go.Proofs.Ytgnmianhbbchgaa.Obj Go.Proofs.Ytgnmianhbbchgaa.Cref
set_option linter.unusedVariables false

/-- Acts that a slice holds: a whole number, a string, a byte each. -/
abbrev Act3 := Int × ByteArray × Int
structure Given (w : World) (A : Option Addr) (st : List Act3) (cap : Nat) : Prop where
  le : st.length ≤ cap
  most : cap ≤ 9223372036854775807
  at_ : st = [] ∨ ∃ g o, A = some ⟨g, o, none⟩ ∧ g < w.heap.size ∧ ∀ i, i < st.length → w.cell? ⟨g, o + i * 3, none⟩ = some (.int .i64 (st.getD i (0, ⟨#[]⟩, 0)).1) ∧ w.cell? ⟨g, o + i * 3 + 1, none⟩ = some (.string (st.getD i (0, ⟨#[]⟩, 0)).2.1) ∧ w.cell? ⟨g, o + i * 3 + 2, none⟩ = some (.int .u8 (st.getD i (0, ⟨#[]⟩, 0)).2.2)
  wf : ∀ i, i < st.length → (st.getD i (0, ⟨#[]⟩, 0)).2.1.size ≤ 9223372036854775807

theorem walk_out (d : Int) (A : Option Addr) (cap : Nat) (st : List Act3) (w : World) (hl : st.length ≤ 9223372036854775807) (h : 200 < st.length) :
    Calls Try.prog 5 #[.int .i64 d, .slice A st.length cap] w fun e w' => e = .returned (.bool true) ∧ Below w.heap.size w w' := by
  have h' : (200 : Int) < (st.length : Int) := by omega
  go_enter Try.func5, Try.ntmps5
  go_wp2_with fail
  refine (awake_c w).mono ?_
  rintro e w2 ⟨rfl, hb2⟩
  go_wp2_with fail
  refine (awake_c _).mono ?_
  rintro e w3 ⟨rfl, hb3⟩
  go_wp2_with fail
  go_ret
  exact ⟨rfl, Obj.step hb2 hb3⟩

set_option maxRecDepth 10000 in
set_option maxHeartbeats 4000000 in
theorem walk_within (d : Int) (A : Option Addr) (cap : Nat) (st : List Act3) (w : World) (hl : st.length ≤ 200) (G : Given w A st cap) :
    Calls Try.prog 5 #[.int .i64 d, .slice A st.length cap] w fun e w' => e = .returned (.bool true) ∧ Below w.heap.size w w' := by
  have a2 : ¬(200 : Int) < (st.length : Int) := by omega
  go_enter Try.func5, Try.ntmps5
  go_wp2_with fail
  refine (awake_c w).mono ?_
  rintro e w1 ⟨rfl, hb1⟩
  have B1 := Lib.hid (Kept.of_below hb1 (fun i => w.heap.size ≤ i))
  have hs1 := hb1.size
  clear hb1
  go_wp2_with fail
  refine (new_c d w1).mono ?_
  rintro e w2 ⟨rfl, S1, K1⟩
  have B2 := Lib.hid (B1.out.trans (K1.mono (fun _ h => h.elim)))
  obtain ⟨b, hbq⟩ : ∃ b, b = w1.heap.size + 1 := ⟨_, rfl⟩
  obtain ⟨g, hgq⟩ : ∃ g, g = w1.heap.size := ⟨_, rfl⟩
  rw [← hbq, ← hgq] at S1
  rw [← hbq]
  have hb6 : Hid (w.heap.size ≤ b) := by show w.heap.size ≤ b; omega
  have hg6 : Hid (w.heap.size ≤ g) := by show w.heap.size ≤ g; omega
  clear hbq hgq
  have hb1 := S1.lb
  have hg1 := S1.lg
  have hs2 := K1.size
  clear K1 B1
  go_wp2_with fail
  refine (rnew_c d w2).mono ?_
  rintro e w3 ⟨rfl, R1, K2⟩
  have B3 := Lib.hid (B2.out.trans (K2.mono (fun _ h => h.elim)))
  have S2 := S1.keep K2 (fun h => h) (fun h => h)
  have hS0 : Hid (w.heap.size ≤ w2.heap.size) := Nat.le_trans hs1 hs2
  have hbr6 : Hid (b ≠ w2.heap.size) := Nat.ne_of_lt hb1
  have hgr6 : Hid (g ≠ w2.heap.size) := Nat.ne_of_lt hg1
  generalize w2.heap.size = r at R1 hS0 hbr6 hgr6 ⊢
  obtain ⟨M, hM⟩ : ∃ M, M = clamp d := ⟨_, rfl⟩
  rw [← hM] at S2 R1
  have hrbg : ¬(r = b ∨ r = g) := fun h => h.elim (fun h => hbr6.out h.symm) (fun h => hgr6.out h.symm)
  clear S1 K2 B2 hM hs1 hs2 hb1 hg1
  go_wp2_with fail
  go_loopw [26] (fun i wr => ∃ (k : Nat) (s : CS), k ≤ st.length ∧ i = .int .i64 k ∧ Cap wr b g s.1 s.2 M ∧ Rcp wr r M s.1 s.2 ∧ Kept (fun i => w.heap.size ≤ i) w wr) (fun i _ => st.length - (intOf i).toNat)
  case atStart => exact ⟨0, ([], false), Nat.zero_le _, rfl, S2, R1, B3.out⟩
  case round =>
    obtain ⟨k, s, hk, rfl, S, R, K⟩ := hrel
    have K0 := Lib.hid K
    clear K S2 R1 B3
    by_cases hlt : k < st.length
    · obtain rfl | ⟨gg, oo, rfl, hgg, hcell⟩ := G.at_
      · simp at hlt
      obtain ⟨z0, z1, z2⟩ := hcell k hlt
      have hbl := K0.out.block gg hgg (by omega)
      replace z0 := (World.cell?_of_block (w := w) (a := ⟨gg, oo + k * 3, none⟩) hbl).trans z0
      replace z1 := (World.cell?_of_block (w := w) (a := ⟨gg, oo + k * 3 + 1, none⟩) hbl).trans z1
      replace z2 := (World.cell?_of_block (w := w) (a := ⟨gg, oo + k * 3 + 2, none⟩) hbl).trans z2
      have hwf := G.wf k hlt
      generalize st.getD k (0, ⟨#[]⟩, 0) = x at z0 z1 z2 hwf
      obtain ⟨p, t, q⟩ := x
      simp only at z0 z1 z2 hwf
      have t1 : (k : Int) < (st.length : Int) := by omega
      have lbS := S.lb
      have lbG := S.lg
      have lbR := R.lb
      clear hcell hbl
      have S1 := S.keep ((Kept.refl (fun _ => False) wr).alloc (.cells #[.int .i64 p, .string t, .int .u8 q] 37)) (fun h => h) (fun h => h)
      have R1 := R.keep ((Kept.refl (fun _ => False) wr).alloc (.cells #[.int .i64 p, .string t, .int .u8 q] 37)) (fun h => h)
      have K1 := Lib.hid (K0.out.alloc (.cells #[.int .i64 p, .string t, .int .u8 q] 37))
      have y0 : (wr.alloc (.cells #[.int .i64 p, .string t, .int .u8 q] 37)).cell? ⟨wr.heap.size, 0, none⟩ = some (.int .i64 p) := World.cell?_alloc_new _ _ _ _
      have y1 : (wr.alloc (.cells #[.int .i64 p, .string t, .int .u8 q] 37)).cell? ⟨wr.heap.size, 1, none⟩ = some (.string t) := World.cell?_alloc_new _ _ _ _
      have y2 : (wr.alloc (.cells #[.int .i64 p, .string t, .int .u8 q] 37)).cell? ⟨wr.heap.size, 2, none⟩ = some (.int .u8 q) := World.cell?_alloc_new _ _ _ _
      have hzs : wr.heap.size < (wr.alloc (.cells #[.int .i64 p, .string t, .int .u8 q] 37)).heap.size := by simp
      clear S R
      by_cases ht : 300 < t.size
      · have ht' : ¬(t.size : Int) ≤ 300 := by omega
        go_wp2_with fail
        go_ret
        exact ⟨rfl, Kept.below (Below.refl _ w) K1.out (fun i hi => hi)⟩
      have ht2 : (t.size : Int) ≤ 300 := by omega
      by_cases p1 : p = 1
      · skip
        subst p1
        go_wp2_with fail
        generalize (wr.alloc (.cells #[.int .i64 1, .string t, .int .u8 q] 37)) = W1 at S1 R1 K1 y0 y1 y2 hzs ⊢
        generalize wr.heap.size = zz at y0 y1 y2 hzs lbS lbG lbR ⊢
        have nzb : ¬(zz = b ∨ zz = g) := by omega
        have nzr : ¬zz = r := by omega
        go_region_held3 (fun w' => w'.cell? ⟨zz, 1, none⟩ = some (.string t)) (first | exact y1 | exact x1 | exact x2) (first | (go_at_call 9; refine (begin_p b g M s t _ S1.drew).mono ?_; rintro e w6 ⟨rfl, S5, K5⟩; have x1 := (World.cell?_of_block (w := W1.drew) (a := ⟨zz, 1, none⟩) (K5.block zz hzs nzb)).trans y1; have R5 := (R1.drew).keep K5 hrbg; have z6 : zz < w6.heap.size := Nat.lt_of_lt_of_le hzs K5.size) | (go_at_call 15; refine (rbegin_p r M s t _ R5 S1.m (by omega)).mono ?_; rintro e w7 ⟨rfl, R6, K6⟩; have x2 := (World.cell?_of_block (w := w6) (a := ⟨zz, 1, none⟩) (K6.block zz z6 nzr)).trans x1))
        have S6 := S5.keep K6 hbr6.out hgr6.out
        have K9 := Lib.hid (K1.out.drew.trans ((K5.mono (T := fun i => w.heap.size ≤ i) (fun i hi => by have h1 := hb6.out; have h2 := hg6.out; rcases hi with rfl | rfl <;> assumption)).trans (K6.mono (T := fun i => w.heap.size ≤ i) (fun i hi => by rw [hi]; exact hS0.out))))
        generalize cBegin M t = rs at S6 R6 ⊢
        obtain ⟨res, s6⟩ := rs
        simp only at S6 R6
        clear S5 K5 K6 x1 x2 R5 y0 y1 y2 S1 R1 K1
        have S9 := Lib.hid S6
        have R9 := Lib.hid R6
        have r0 := R6.c0
        have r1 := R6.c1
        have r2 := R6.c2
        have hlm := S6.len
        have hsz6 := strOfNums_size s6.1
        have m64 := S6.m
        have e1 : (0 : Int) ≤ (M : Int) - s6.1.length := by omega
        have e2 : (M : Int) - s6.1.length ≤ 65536 := by omega
        have hw : IntKind.i64.wrap ((M : Int) - s6.1.length) = (M : Int) - s6.1.length := by rw [IntKind.wrap_i64]; omega
        go_wp2_with fail
        go_quiet (first
          | (go_at_call 11; exact on_q b g M s6.1 s6.2 _ _ S6)
          | (go_at_call 12; exact text_q b g M s6.1 s6.2 _ _ S6)
          | (go_at_call 13; exact room_q b g M s6.1 s6.2 _ _ S6))
        clear hw e1 e2 hlm m64 r0 r1 r2 hsz6 ht ht2 hwf S6 R6 hrbg
        have t5 : (k : Int) + 1 ≤ 200 := by omega
        go_wp2_with fail
        go_roundw
        case rel => exact ⟨k + 1, s6, by omega, by go_num, S9.out.drewN _, R9.out.drewN _, K9.out.drewN _⟩
        case measure => simp [intOf]; omega
      · by_cases p2 : p = 2
        · skip
          subst p2
          go_wp2_with fail
          generalize (wr.alloc (.cells #[.int .i64 2, .string t, .int .u8 q] 37)) = W1 at S1 R1 K1 y0 y1 y2 hzs ⊢
          generalize wr.heap.size = zz at y0 y1 y2 hzs lbS lbG lbR ⊢
          have nzb : ¬(zz = b ∨ zz = g) := by omega
          have nzr : ¬zz = r := by omega
          go_region_held3 (fun w' => w'.cell? ⟨zz, 2, none⟩ = some (.int .u8 q)) (first | exact y2 | exact x1 | exact x2) (first | (go_at_call 10; refine (push_p b g M s q _ S1.drew).mono ?_; rintro e w6 ⟨rfl, S5, K5⟩; have x1 := (World.cell?_of_block (w := W1.drew) (a := ⟨zz, 2, none⟩) (K5.block zz hzs nzb)).trans y2; have R5 := (R1.drew).keep K5 hrbg; have z6 : zz < w6.heap.size := Nat.lt_of_lt_of_le hzs K5.size) | (go_at_call 16; refine (rpush_p r M s q _ R5 S1.len S1.m).mono ?_; rintro e w7 ⟨rfl, R6, K6⟩; have x2 := (World.cell?_of_block (w := w6) (a := ⟨zz, 2, none⟩) (K6.block zz z6 nzr)).trans x1))
          have S6 := S5.keep K6 hbr6.out hgr6.out
          have K9 := Lib.hid (K1.out.drew.trans ((K5.mono (T := fun i => w.heap.size ≤ i) (fun i hi => by have h1 := hb6.out; have h2 := hg6.out; rcases hi with rfl | rfl <;> assumption)).trans (K6.mono (T := fun i => w.heap.size ≤ i) (fun i hi => by rw [hi]; exact hS0.out))))
          generalize cPush M s q = rs at S6 R6 ⊢
          obtain ⟨res, s6⟩ := rs
          simp only at S6 R6
          clear S5 K5 K6 x1 x2 R5 y0 y1 y2 S1 R1 K1
          have S9 := Lib.hid S6
          have R9 := Lib.hid R6
          have r0 := R6.c0
          have r1 := R6.c1
          have r2 := R6.c2
          have hlm := S6.len
          have hsz6 := strOfNums_size s6.1
          have m64 := S6.m
          have e1 : (0 : Int) ≤ (M : Int) - s6.1.length := by omega
          have e2 : (M : Int) - s6.1.length ≤ 65536 := by omega
          have hw : IntKind.i64.wrap ((M : Int) - s6.1.length) = (M : Int) - s6.1.length := by rw [IntKind.wrap_i64]; omega
          go_wp2_with fail
          go_quiet (first
            | (go_at_call 11; exact on_q b g M s6.1 s6.2 _ _ S6)
            | (go_at_call 12; exact text_q b g M s6.1 s6.2 _ _ S6)
            | (go_at_call 13; exact room_q b g M s6.1 s6.2 _ _ S6))
          clear hw e1 e2 hlm m64 r0 r1 r2 hsz6 ht ht2 hwf S6 R6 hrbg
          have t5 : (k : Int) + 1 ≤ 200 := by omega
          go_wp2_with fail
          go_roundw
          case rel => exact ⟨k + 1, s6, by omega, by go_num, S9.out.drewN _, R9.out.drewN _, K9.out.drewN _⟩
          case measure => simp [intOf]; omega
        · by_cases p3 : p = 3
          · skip
            subst p3
            go_wp2_with fail
            generalize (wr.alloc (.cells #[.int .i64 3, .string t, .int .u8 q] 37)) = W1 at S1 R1 K1 y0 y1 y2 hzs ⊢
            generalize wr.heap.size = zz at y0 y1 y2 hzs lbS lbG lbR ⊢
            have nzb : ¬(zz = b ∨ zz = g) := by omega
            have nzr : ¬zz = r := by omega
            refine (end_c b g M s.1 s.2 _ S1).mono ?_
            rintro e w6 ⟨rfl, S5, K5⟩
            have R5 := R1.keep K5 (fun h => hbr6.out h.symm)
            have c2' := R5.c2
            have f2' := R5.fr 2 (by omega)
            have R5' := Lib.hid (R5.setOn false)
            have S5' := Lib.hid (S5.keep ((Kept.refl (· = r) w6).setIn (o := 2) (s := none) (u := .bool false)) hbr6.out hgr6.out)
            have K9 := Lib.hid ((K1.out.trans (K5.mono (T := fun i => w.heap.size ≤ i) (fun i hi => by rw [hi]; exact hb6.out))).trans (((Kept.refl (· = r) w6).setIn (o := 2) (s := none) (u := .bool false)).mono (T := fun i => w.heap.size ≤ i) (fun i hi => by rw [hi]; exact hS0.out)))
            clear K5 R5 S5 y0 y1 y2 S1 R1 K1 hzs
            obtain ⟨s6, hs6⟩ : ∃ s6 : CS, s6 = (s.1, false) := ⟨_, rfl⟩
            have S6 : Cap (w6.setCell ⟨r, 2, none⟩ (.bool false)) b g s6.1 s6.2 M := by rw [hs6]; exact S5'.out
            have R6 : Rcp (w6.setCell ⟨r, 2, none⟩ (.bool false)) r M s6.1 s6.2 := by rw [hs6]; exact R5'.out
            clear hs6 S5' R5'
            go_wp2_with fail
            generalize (w6.setCell ⟨r, 2, none⟩ (.bool false)) = w7 at S6 R6 K9 ⊢
            clear c2' f2'
            have S9 := Lib.hid S6
            have R9 := Lib.hid R6
            have r0 := R6.c0
            have r1 := R6.c1
            have r2 := R6.c2
            have hlm := S6.len
            have hsz6 := strOfNums_size s6.1
            have m64 := S6.m
            have e1 : (0 : Int) ≤ (M : Int) - s6.1.length := by omega
            have e2 : (M : Int) - s6.1.length ≤ 65536 := by omega
            have hw : IntKind.i64.wrap ((M : Int) - s6.1.length) = (M : Int) - s6.1.length := by rw [IntKind.wrap_i64]; omega
            go_wp2_with fail
            go_quiet (first
              | (go_at_call 11; exact on_q b g M s6.1 s6.2 _ _ S6)
              | (go_at_call 12; exact text_q b g M s6.1 s6.2 _ _ S6)
              | (go_at_call 13; exact room_q b g M s6.1 s6.2 _ _ S6))
            clear hw e1 e2 hlm m64 r0 r1 r2 hsz6 ht ht2 hwf S6 R6 hrbg
            have t5 : (k : Int) + 1 ≤ 200 := by omega
            go_wp2_with fail
            go_roundw
            case rel => exact ⟨k + 1, s6, by omega, by go_num, S9.out.drewN _, R9.out.drewN _, K9.out.drewN _⟩
            case measure => simp [intOf]; omega
          · skip
            have q1 : (p == 1) = false := by simpa using p1
            have q2 : (p == 2) = false := by simpa using p2
            have q3 : (p == 3) = false := by simpa using p3
            have S6 := S1
            have R6 := R1
            have K9 := K1
            obtain ⟨s6, hs6⟩ : ∃ s6, s6 = s := ⟨_, rfl⟩
            rw [← hs6] at S6 R6
            clear S1 R1 hs6
            go_wp2_with fail
            generalize (wr.alloc (.cells #[.int .i64 p, .string t, .int .u8 q] 37)) = w7 at S6 R6 K9 K1 y0 y1 y2 hzs ⊢
            clear y0 y1 y2 hzs K1
            have S9 := Lib.hid S6
            have R9 := Lib.hid R6
            have r0 := R6.c0
            have r1 := R6.c1
            have r2 := R6.c2
            have hlm := S6.len
            have hsz6 := strOfNums_size s6.1
            have m64 := S6.m
            have e1 : (0 : Int) ≤ (M : Int) - s6.1.length := by omega
            have e2 : (M : Int) - s6.1.length ≤ 65536 := by omega
            have hw : IntKind.i64.wrap ((M : Int) - s6.1.length) = (M : Int) - s6.1.length := by rw [IntKind.wrap_i64]; omega
            go_wp2_with fail
            go_quiet (first
              | (go_at_call 11; exact on_q b g M s6.1 s6.2 _ _ S6)
              | (go_at_call 12; exact text_q b g M s6.1 s6.2 _ _ S6)
              | (go_at_call 13; exact room_q b g M s6.1 s6.2 _ _ S6))
            clear hw e1 e2 hlm m64 r0 r1 r2 hsz6 ht ht2 hwf S6 R6 hrbg
            have t5 : (k : Int) + 1 ≤ 200 := by omega
            go_wp2_with fail
            go_roundw
            case rel => exact ⟨k + 1, s6, by omega, by go_num, S9.out.drewN _, R9.out.drewN _, K9.out.drewN _⟩
            case measure => simp [intOf]; omega
    · obtain rfl : k = st.length := by omega
      have t1 : ¬(st.length : Int) < (st.length : Int) := by omega
      go_wp2_with fail
      go_ret
      exact ⟨rfl, Kept.below (Below.refl _ w) K0.out (fun i hi => hi)⟩

theorem walk (d : Int) (A : Option Addr) (cap : Nat) (st : List Act3) (w : World) (hl : st.length ≤ 9223372036854775807) (G : Given w A st cap) :
    Calls Try.prog 5 #[.int .i64 d, .slice A st.length cap] w fun e w' => e = .returned (.bool true) ∧ Below w.heap.size w w' := by
  by_cases h : 200 < st.length
  · exact walk_out d A cap st w hl h
  · exact walk_within d A cap st w (by omega) G
theorem add_plain (g o j : Nat) : (⟨g, o, none⟩ : Addr).add j = ⟨g, o + j, none⟩ := by unfold Addr.add; split <;> simp_all
theorem Given.of_cells {w : World} {a : Addr} {st : List Act3} {cap : Nat} (hl : st.length ≤ cap) (hm : cap ≤ 9223372036854775807)
    (h : ∀ i, i < st.length → w.cell? (a.add (i * 3)) = some (.int .i64 (st.getD i (0, ⟨#[]⟩, 0)).1) ∧ w.cell? (a.add (i * 3 + 1)) = some (.string (st.getD i (0, ⟨#[]⟩, 0)).2.1) ∧ w.cell? (a.add (i * 3 + 2)) = some (.int .u8 (st.getD i (0, ⟨#[]⟩, 0)).2.2) ∧ (st.getD i (0, ⟨#[]⟩, 0)).2.1.size ≤ 9223372036854775807) : Given w (some a) st cap := by
  refine ⟨hl, hm, ?_, fun i hi => (h i hi).2.2.2⟩
  cases st with
  | nil => exact .inl rfl
  | cons x st =>
    obtain ⟨g, o, sp⟩ := a
    have h0 := (h 0 (by simp)).1
    have hsp : sp = none := by simpa [Addr.add] using World.cell?_spot h0
    subst hsp
    refine .inr ⟨g, o, rfl, ?_, fun i hi => ?_⟩
    · have := World.block_lt_of_cell? w _ h0
      simpa [Addr.add] using this
    · have := h i hi
      rw [add_plain, add_plain, add_plain] at this
      exact ⟨this.1, this.2.1, this.2.2.1⟩
theorem Given.none_ (w : World) : Given w none [] 0 := ⟨by simp, by omega, .inl rfl, fun i hi => by simp at hi⟩
end Go.Proofs.Ytgnmianhbbchgaa.Plays
