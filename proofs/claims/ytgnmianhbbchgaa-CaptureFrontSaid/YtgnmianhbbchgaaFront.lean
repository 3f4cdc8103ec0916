/- What is kept of bytes is the front of what is kept with more room: the walk of CaptureFront. -/
import Derived.Test.YtgnmianhbbchgaaCref
import Derived.Deep.RegionHeld3
namespace Go.Proofs.Ytgnmianhbbchgaa.Front
open Go.RowKit
open Go.Proofs.Ytgnmianhbbchgaa.Obj Go.Proofs.Ytgnmianhbbchgaa.Cref
set_option linter.unusedVariables false

/-- what is kept behind k bytes, with room for m -/
def stt (s : ByteArray) (m k : Nat) : CS := ((bl s).take (min m k), decide (k ≤ m))
theorem stt_push (s : ByteArray) (m k : Nat) (h : k < s.size) : (cPush m (stt s m k) ((s[k]'h).toNat : Int)).2 = stt s m (k + 1) := by
  unfold cPush stt
  have hl : ((bl s).take (min m k)).length = min m k := by rw [List.length_take, bl_length]; omega
  by_cases h1 : k ≤ m
  · rw [if_neg (by simp [h1])]
    by_cases h2 : m ≤ k
    · rw [if_pos (by simp only [hl]; omega)]
      obtain rfl : m = k := by omega
      simp
    · rw [if_neg (by simp only [hl]; omega)]
      rw [show min m k = k from by omega, show min m (k + 1) = k + 1 from by omega, bl_snoc s k h]
      simp
      omega
  · rw [if_pos (by simp [h1])]
    rw [show min m k = m from by omega, show min m (k + 1) = m from by omega]
    simp
    omega
theorem stt_text (s : ByteArray) (m k : Nat) : strOfNums (stt s m k).1 = s.extract 0 (min m k) := strOfNums_take s (min m k)

theorem stt_zero (s : ByteArray) (m : Nat) : stt s m 0 = (bl ⟨#[]⟩, true) := by
  unfold stt
  rw [show min m 0 = 0 from by omega]
  rfl
theorem keep_cell {S : Nat → Prop} {w w' : World} {p o : Nat} {v : Value} (k : Kept S w w') (hs : ¬S p) (h : w.cell? ⟨p, o, none⟩ = some v) : w'.cell? ⟨p, o, none⟩ = some v :=
  (World.cell?_of_block (w := w) (k.block p (lt_cell h) hs)).trans h
theorem text_f (b g most : Nat) (s : ByteArray) (m k : Nat) (on : Bool) (w : World) (h : Cap w b g (stt s m k).1 on most) :
    Calls Try.prog 12 #[.pointer (some ⟨b, 0, none⟩)] w fun e w' => e = .returned (.string (s.extract 0 (min m k))) ∧ w = w' := by
  have C := text_c b g most _ on w h
  rw [stt_text] at C
  exact C
theorem front_of (s : ByteArray) (a c : Nat) (h : a ≤ c) (hc : c ≤ s.size) : (s.extract 0 c).extract 0 (s.extract 0 a).size = s.extract 0 a ∧ s.extract 0 (s.extract 0 c).size = s.extract 0 c ∧ (s.extract 0 a).size ≤ (s.extract 0 c).size ∧ (s.extract 0 c).size ≤ s.size := by
  have e1 : (s.extract 0 a).size = a := by rw [ByteArray.size_extract]; omega
  have e2 : (s.extract 0 c).size = c := by rw [ByteArray.size_extract]; omega
  rw [e1, e2]
  refine ⟨?_, rfl, h, hc⟩
  rw [ByteArray.extract_extract]
  congr 1 <;> omega

theorem walk_out (x y : Int) (s : ByteArray) (w : World) (h : 300 < s.size) (h2 : s.size ≤ 140737488351232) :
    Calls Try.prog 4 #[.agg #[.int .i64 x, .int .i64 y], .string s] w fun e w' => e = .returned (.bool true) ∧ Below w.heap.size w w' := by
  have h' : (300 : Int) < (s.size : Int) := by omega
  have B0 : Below w.heap.size w (w.alloc (.cells #[.int .i64 x, .int .i64 y] 31)) := Kept.below (Below.refl _ w) ((Kept.refl (fun _ => False) w).alloc _) (fun i h => h.elim)
  have HB := Lib.hid B0
  clear B0
  go_enter Try.func4, Try.ntmps4
  go_wp2_with fail
  refine (awake_c _).mono ?_
  rintro e w2 ⟨rfl, hb2⟩
  go_wp2_with fail
  refine (awake_c _).mono ?_
  rintro e w3 ⟨rfl, hb3⟩
  go_wp2_with fail
  go_ret
  exact ⟨rfl, Obj.step HB.out (Obj.step hb2 hb3)⟩

set_option maxRecDepth 10000 in
set_option maxHeartbeats 4000000 in
theorem walk_within (x y : Int) (s : ByteArray) (w : World) (hs : s.size ≤ 300) :
    Calls Try.prog 4 #[.agg #[.int .i64 x, .int .i64 y], .string s] w fun e w' => e = .returned (.bool true) ∧ Below w.heap.size w w' := by
  have a2 : ¬(300 : Int) < (s.size : Int) := by omega
  have y0 : (w.alloc (.cells #[.int .i64 x, .int .i64 y] 31)).cell? ⟨w.heap.size, 0, none⟩ = some (.int .i64 x) := World.cell?_alloc_new _ _ _ _
  have y1 : (w.alloc (.cells #[.int .i64 x, .int .i64 y] 31)).cell? ⟨w.heap.size, 1, none⟩ = some (.int .i64 y) := World.cell?_alloc_new _ _ _ _
  have K0 := Lib.hid ((Kept.refl (fun i => w.heap.size ≤ i) w).alloc (.cells #[.int .i64 x, .int .i64 y] 31))
  have hpp : w.heap.size < (w.alloc (.cells #[.int .i64 x, .int .i64 y] 31)).heap.size := by simp
  go_enter Try.func4, Try.ntmps4
  go_wp2_with fail
  generalize (w.alloc (.cells #[.int .i64 x, .int .i64 y] 31)) = w0 at y0 y1 K0 hpp ⊢
  obtain ⟨pp, hq⟩ : ∃ pp, pp = w.heap.size := ⟨_, rfl⟩
  rw [← hq] at y0 y1 hpp
  rw [← hq]
  have HQ := Lib.hid hq
  clear hq
  refine (awake_c w0).mono ?_
  rintro e w1 ⟨rfl, hb1⟩
  have y0 := (World.cell?_of_block (w := w0) (a := ⟨pp, 0, none⟩) (hb1.block pp hpp)).trans y0
  have y1 := (World.cell?_of_block (w := w0) (a := ⟨pp, 1, none⟩) (hb1.block pp hpp)).trans y1
  have K1 := Lib.hid (K0.out.trans (Kept.of_below hb1 (fun i => w.heap.size ≤ i)))
  have hpp := Nat.lt_of_lt_of_le hpp hb1.size
  clear hb1 K0
  go_wp2_with fail
  obtain ⟨lo, hi, hlo, hhi, hlh⟩ : ∃ lo hi : Int, (if y < x then y else x) = lo ∧ (if x < y then y else x) = hi ∧ lo ≤ hi := ⟨_, _, rfl, rfl, by split <;> split <;> omega⟩
  have y0d := y0
  have y1d := y1
  go_region_held3 (fun w' => w'.cell? ⟨pp, 0, none⟩ = some (.int .i64 x) ∧ w'.cell? ⟨pp, 1, none⟩ = some (.int .i64 y)) (first | exact ⟨y0, y1⟩ | exact ⟨x0, x1⟩ | exact ⟨v0, v1⟩) (first | (go_at_call 7; have C2 := C1; refine (new_c _ _).mono ?_; rintro e w7 ⟨rfl, D1, K6⟩; have v0 := (World.cell?_of_block (w := w6) (a := ⟨pp, 0, none⟩) (K6.block pp hp6 (fun h => h))).trans x0; have v1 := (World.cell?_of_block (w := w6) (a := ⟨pp, 1, none⟩) (K6.block pp hp6 (fun h => h))).trans x1) | (go_at_call 7; refine (new_c _ _).mono ?_; rintro e w6 ⟨rfl, C1, K5⟩; have x0 := (World.cell?_of_block (w := w1.drew) (a := ⟨pp, 0, none⟩) (K5.block pp hpp (fun h => h))).trans y0; have x1 := (World.cell?_of_block (w := w1.drew) (a := ⟨pp, 1, none⟩) (K5.block pp hpp (fun h => h))).trans y1; have hp6 : pp < w6.heap.size := Nat.lt_of_lt_of_le hpp K5.size))
  all_goals
    rename_i hHeld
    clear hHeld
    have X2 : Cap w7 (w1.heap.size + 1) w1.heap.size [] false (clamp lo) := C1.keep K6 (fun h => h) (fun h => h)
    have hq : w1.heap.size + 1 < w6.heap.size := C1.lb
    have hw : w.heap.size ≤ w1.heap.size := K1.out.size
    have K7 := Lib.hid ((K1.out.drew.trans (K5.mono (T := fun i => w.heap.size ≤ i) (fun _ h => h.elim))).trans (K6.mono (T := fun i => w.heap.size ≤ i) (fun _ h => h.elim)))
    have HLO := Lib.hid hlo
    have HHI := Lib.hid hhi
    have P7 := Lib.hid (And.intro v0 v1)
    clear hlo hhi v0 v1 x0 x1 y0 y1 y0d y1d C2 C1 K5 K6 K1 hp6
    generalize w1.heap.size = g at X2 hq hw hpp ⊢
    generalize w6.heap.size = r at D1 hq ⊢
    have hm : clamp lo ≤ clamp hi := by unfold clamp; split <;> split <;> (try split) <;> (try split) <;> omega
    have HM := Lib.hid hm
    go_wp2_with fail
    refine (begin_fits (g + 1) g _ _ _ ⟨#[]⟩ _ X2 (Nat.zero_le _)).mono ?_
    rintro e w8 ⟨rfl, X8, K8⟩
    have D8 := D1.keep K8 (by omega) (by omega)
    have K9 := Lib.hid (K7.out.trans (K8.mono (fun i hi => by omega)))
    have P8 := Lib.hid (And.intro (keep_cell K8 (by omega) P7.out.1) (keep_cell K8 (by omega) P7.out.2))
    clear X2 D1 K8 K7 P7
    go_wp2_with fail
    refine (begin_fits (r + 1) r _ _ _ ⟨#[]⟩ _ D8 (Nat.zero_le _)).mono ?_
    rintro e w9 ⟨rfl, D9, K8⟩
    have X9 := X8.keep K8 (by omega) (by omega)
    have K10 := Lib.hid (K9.out.trans (K8.mono (fun i hi => by omega)))
    have P9 := Lib.hid (And.intro (keep_cell K8 (by omega) P8.out.1) (keep_cell K8 (by omega) P8.out.2))
    clear X8 D8 K8 K9 P8
    go_wp2_with fail
    go_loopw [42] (fun i wr => ∃ k : Nat, k ≤ s.size ∧ i = .int .i64 k ∧ Cap wr (g + 1) g (stt s (clamp lo) k).1 (stt s (clamp lo) k).2 (clamp lo) ∧ Cap wr (r + 1) r (stt s (clamp hi) k).1 (stt s (clamp hi) k).2 (clamp hi) ∧ (wr.cell? ⟨pp, 0, none⟩ = some (.int .i64 x) ∧ wr.cell? ⟨pp, 1, none⟩ = some (.int .i64 y)) ∧ Kept (fun i => w.heap.size ≤ i) w wr) (fun i _ => s.size - (intOf i).toNat)
    case atStart => exact ⟨0, Nat.zero_le _, rfl, by rw [stt_zero]; exact X9, by rw [stt_zero]; exact D9, P9.out, K10.out⟩
    case round =>
      obtain ⟨k, hk, rfl, X, D, P, K⟩ := hrel
      have K0 := Lib.hid K
      have P0 := Lib.hid P
      clear K P X9 D9 K10 P9
      by_cases hlt : k < s.size
      · have t1 : (k : Int) < (s.size : Int) := by omega
        have HS1 := Lib.hid (stt_push s (clamp lo) k hlt)
        have HS2 := Lib.hid (stt_push s (clamp hi) k hlt)
        go_wp2_with fail
        refine (push_p (g + 1) g _ _ _ _ X).mono ?_
        rintro e w10 ⟨rfl, X10, K8⟩
        rw [HS1.out] at X10
        have D10 := D.keep K8 (by omega) (by omega)
        have K11 := Lib.hid (K0.out.trans (K8.mono (fun i hi => by omega)))
        have P10 := Lib.hid (And.intro (keep_cell K8 (by omega) P0.out.1) (keep_cell K8 (by omega) P0.out.2))
        clear X D K8 K0 P0
        go_wp2_with fail
        refine (push_p (r + 1) r _ _ _ _ D10).mono ?_
        rintro e w11 ⟨rfl, D11, K8⟩
        rw [HS2.out] at D11
        have X11 := X10.keep K8 (by omega) (by omega)
        have K12 := Lib.hid (K11.out.trans (K8.mono (fun i hi => by omega)))
        have P11 := Lib.hid (And.intro (keep_cell K8 (by omega) P10.out.1) (keep_cell K8 (by omega) P10.out.2))
        clear X10 D10 K8 K11 P10
        go_wp2_with fail
        go_roundw
        case rel => exact ⟨k + 1, by omega, by go_num, X11, D11, P11.out, K12.out⟩
        case measure => simp [intOf]; omega
      · obtain rfl : k = s.size := by omega
        have t1 : ¬(s.size : Int) < (s.size : Int) := by omega
        go_wp2_with fail
        refine (text_f (g + 1) g _ s _ _ _ _ X).mono ?_
        rintro e w10 ⟨rfl, rfl⟩
        go_wp2_with fail
        refine (text_f (r + 1) r _ s _ _ _ _ D).mono ?_
        rintro e w10 ⟨rfl, rfl⟩
        obtain ⟨hE1, hE2, hE3, hE4⟩ := front_of s (min (clamp lo) s.size) (min (clamp hi) s.size) (by have := HM.out; omega) (by omega)
        have HY : ¬hi < (s.size : Int) → s.extract 0 (min (clamp hi) s.size) = s := by
          intro h
          rw [show min (clamp hi) s.size = s.size from by unfold clamp; split <;> (try split) <;> omega, ByteArray.extract_zero_size]
        generalize s.extract 0 (min (clamp lo) s.size) = X' at hE1 hE3 ⊢
        generalize s.extract 0 (min (clamp hi) s.size) = Y' at hE1 hE2 hE3 hE4 HY ⊢
        have y0 := P0.out.1
        have y1 := P0.out.2
        have hhi := HHI.out
        by_cases hh : hi < (s.size : Int)
        · clear HY
          go_wp2_with fail
          go_ret
          exact ⟨by first | rfl | (simp; done), Kept.below (Below.refl _ w) K0.out (fun i h => h)⟩
        · obtain rfl := HY hh
          clear HY
          go_wp2_with fail
          go_ret
          exact ⟨by first | rfl | (simp; done), Kept.below (Below.refl _ w) K0.out (fun i h => h)⟩

theorem walk (x y : Int) (s : ByteArray) (w : World) (h2 : s.size ≤ 140737488351232) :
    Calls Try.prog 4 #[.agg #[.int .i64 x, .int .i64 y], .string s] w fun e w' => e = .returned (.bool true) ∧ Below w.heap.size w w' := by
  by_cases h : 300 < s.size
  · exact walk_out x y s w h h2
  · exact walk_within x y s w (by omega)
end Go.Proofs.Ytgnmianhbbchgaa.Front
