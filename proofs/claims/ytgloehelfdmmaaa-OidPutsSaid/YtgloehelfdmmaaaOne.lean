/- A number's bytes: the two printers of a number, for every number. -/
import Derived.Test.YtgloehelfdmmaaaObj
namespace Go.Proofs.Ytgloehelfdmmaaa.Oid
set_option linter.unusedVariables false
open Go.RowKit

theorem info5 : (Try.prog.info? 5).map (fun i => (i.zero, i.size, i.bytes)) = some (some (.int .u8 0), 1, 1) := by kernel_rfl
theorem info40 : (Try.prog.info? 40).map (fun i => (i.zero, i.size, i.bytes)) = some (some (.int .u64 0), 1, 8) := by kernel_rfl
/-- bytes in a row of the call's own -/
structure Bs (w : World) (base : Nat) (v : Value) (l : List Int) : Prop where
  own : w.ownsRow base 5 1 v l.length (l.map (Value.int .u8))
  nn : v ≠ .slice none 0 0
theorem Bs.at_ {w : World} {base : Nat} {v : Value} {l : List Int} (h : Bs w base v l) : ∃ g cap, v = .slice (some ⟨g, 0, none⟩) l.length cap ∧ base ≤ g ∧ g < w.heap.size ∧ l.length ≤ cap ∧ cap ≤ 9223372036854775807 ∧ ∀ j u, (l.map (Value.int .u8))[j]? = some u → w.cell? ⟨g, j, none⟩ = some u := by
  rcases h.own.2 with ⟨h0, _⟩ | ⟨g, cap, cur, rfl, hb, hg, hn, hm, hs, ht⟩
  · exact absurd h0 h.nn
  · refine ⟨g, cap, rfl, hb, (Array.getElem?_eq_some_iff.1 hg).1, hn, by unfold maxLen at hm; omega, fun j u hj => ?_⟩
    have hjl : j < l.length := by
      have := (List.getElem?_eq_some_iff.1 hj).1
      simpa using this
    rw [← ht, List.getElem?_take_of_lt (by omega)] at hj
    unfold World.cell?
    rw [hg]
    simpa using hj
theorem Bs.keep {S : Nat → Prop} {w w' : World} {base : Nat} {v : Value} {l : List Int} (h : Bs w base v l) (k : Kept S w w') (hS : ∀ i, S i → i < base) : Bs w' base v l := by
  obtain ⟨⟨h1, h2⟩, hn⟩ := h
  refine ⟨⟨h1, h2.imp id ?_⟩, hn⟩
  rintro ⟨g, cap, cur, hv, hb, hg, hr⟩
  have hlt : g < w.heap.size := (Array.getElem?_eq_some_iff.1 hg).1
  exact ⟨g, cap, cur, hv, hb, (k.block g hlt (fun hs => by have := hS g hs; omega)).trans hg, hr⟩
theorem Bs.lower {w : World} {base b2 : Nat} {v : Value} {l : List Int} (h : Bs w base v l) (hb : b2 ≤ base) : Bs w b2 v l := by
  obtain ⟨⟨h1, h2⟩, hn⟩ := h
  refine ⟨⟨h1, h2.imp id ?_⟩, hn⟩
  rintro ⟨g, cap, cur, hv, hb2, hr⟩
  exact ⟨g, cap, cur, hv, Nat.le_trans hb hb2, hr⟩
theorem Bs.text {w : World} {base : Nat} {v : Value} {l : List Int} (h : Bs w base v l) :
    ∃ g cap, v = .slice (some ⟨g, 0, none⟩) l.length cap ∧ (convert 43 9 (.slice (some ⟨g, 0, none⟩) l.length cap)).run Try.prog w = .ok (.string (strOfNums l)) w := by
  obtain ⟨g, cap, rfl, hb, hg, hl, hc, hcell⟩ := h.at_
  refine ⟨g, cap, rfl, run_convert_bytes_arg (P := Try.prog) (w := w) 43 5 Try.underlying43 Try.underlying5 g 0 l.length cap l rfl (fun i hi => ?_) 9 Try.underlying9⟩
  rw [Nat.zero_add]
  refine hcell i _ ?_
  rw [List.getElem?_map, List.getElem?_eq_getElem hi]
  simp [List.getD, List.getElem?_eq_getElem hi]
theorem own_kept {w w1 w' : World} {base e : Nat} {v : Value} {n size : Nat} {xs : List Value} (h : w1.ownsRow base e size v n xs) (k : Kept (fun i => base ≤ i) w w1) (hg : w1.grownBy w' v.ownBlock) : Kept (fun i => base ≤ i) w w' := by
  refine k.trans ⟨hg.os, hg.tape, hg.output, hg.size, fun i hi hs => hg.block i hi (fun e => ?_)⟩
  rcases h.2 with ⟨rfl, _⟩ | ⟨g, cap, cur, rfl, hb, _⟩
  · simp [Value.ownBlock] at e
  · simp [Value.ownBlock] at e
    exact hs (by omega)
theorem add_plain (g o j : Nat) : (⟨g, o, none⟩ : Addr).add j = ⟨g, o + j, none⟩ := by unfold Addr.add; (repeat' (first | rfl | split)) <;> simp_all
def OnePost (l : List Int) (w : World) (e : Ending) (w' : World) : Prop := ∃ v, e = .returned v ∧ Bs w' w.heap.size v l ∧ Kept (fun i => w.heap.size ≤ i) w w'

theorem and_all : ∀ c : Nat, c < 256 → bits .and .u8 (c : Int) 127 = ((c % 128 : Nat) : Int) := by decide +kernel
theorem or_all : ∀ c : Nat, c < 256 → bits .or .u8 (c : Int) 128 = ((c % 128 : Nat) : Int) + 128 := by decide +kernel
theorem and127 (n : Nat) : bits .and .u8 ((n : Int) % 256) 127 = ((n % 128 : Nat) : Int) := by
  have := and_all (n % 256) (Nat.mod_lt _ (by omega))
  rw [Int.natCast_emod, show n % 256 % 128 = n % 128 from by omega] at this
  exact this
theorem or128 (n : Nat) : bits .or .u8 ((n : Int) % 256) 128 = ((n % 128 : Nat) : Int) + 128 := by
  have := or_all (n % 256) (Nat.mod_lt _ (by omega))
  rw [Int.natCast_emod, show n % 256 % 128 = n % 128 from by omega] at this
  exact this
theorem Bs.lit (w : World) (l : List Int) (hl : l.length ≤ 1000) : Bs (w.alloc (.cells (l.map (Value.int .u8)).toArray 5)) w.heap.size (.slice (some ⟨w.heap.size, 0, none⟩) l.length l.length) l :=
  ⟨by
    have := World.ownsRow_lit (base := w.heap.size) (e := 5) (size := 1) w (l.map (Value.int .u8)).toArray l.length (Nat.le_refl _) (by unfold maxLen; omega) (by simp)
    simpa using this, by simp⟩

set_option maxHeartbeats 1000000 in
theorem one_c (n : Nat) (hn : n < 18446744073709551616) (w : World) : Calls Try.prog 18 #[.int .u64 n] w (OnePost (enc n) w) := by
  have hen := (enc_len n hn).2
  have e1 := and127 n
  have HN := Lib.hid hn
  have HB := Lib.hid (Bs.lit w [((n % 128 : Nat) : Int)] (by simp))
  obtain ⟨x, hx⟩ : ∃ x : Int, x = ((n % 128 : Nat) : Int) := ⟨_, rfl⟩
  rw [← hx] at e1 HB
  have HX := Lib.hid hx
  have K0 := Lib.hid ((Kept.refl (fun i => w.heap.size ≤ i) w).alloc (.cells #[.int .u8 x] 5))
  obtain ⟨i0, hi0, hz0, hz1, hz2⟩ := info_parts info5
  clear hx
  go_enter Try.func18, Try.ntmps18
  go_wp2_with fail
  go_loopw [0, 3] (fun i v wr => ∃ (m : Nat) (l : List Int), i = .int .u64 m ∧ m ≤ n ∧ hi m ++ l = enc n ∧ Bs wr w.heap.size v l ∧ w.heap.size ≤ wr.heap.size ∧ Kept (fun i => w.heap.size ≤ i) w wr) (fun i _ _ => (intOf i).toNat)
  case atStart => exact ⟨n / 128, [x], by go_num, by omega, by rw [HX.out]; rfl, HB.out, by simp, K0.out⟩
  case round =>
    obtain ⟨m, l, rfl, hm, hl, B, hz, K⟩ := hrel
    have HL := Lib.hid hl
    have HBB := Lib.hid B
    have K1 := Lib.hid K
    have hll : l.length ≤ 10 := by
      have := congrArg List.length hl
      rw [List.length_append] at this
      omega
    clear hl B K HB K0 hn e1
    by_cases h0 : m = 0
    · subst h0
      go_wp2_with fail
      go_ret
      refine ⟨_, rfl, ?_, K1.out⟩
      have := HL.out
      rw [hi_zero, List.nil_append] at this
      rw [← this]
      exact HBB.out
    · have hpos : 0 < m := by omega
      have e2 := or128 m
      obtain ⟨y, hy⟩ : ∃ y : Int, y = ((m % 128 : Nat) : Int) + 128 := ⟨_, rfl⟩
      rw [← hy] at e2
      obtain ⟨g, cap, rfl, hb, hg, hlc, hc, hcell⟩ := HBB.out.at_
      have BL := Bs.lit wr [y] (by simp)
      have HY := Lib.hid hy
      have HC := Lib.hid hcell
      clear hy hcell h0
      go_wp2_with (at_builtin; refine wpList_append_own _ rfl (.tmp 17) (.tmp 18) 43 rfl w.heap.size 5 i0 (.int .u8 0) 1 1 Try.underlying43 hi0 hz0 hz1 hz2 rfl (by decide) _ 1 [.int .u8 y] rfl (BL.lower hz).own ⟨g, 0, none⟩ l.length cap (l.map (Value.int .u8)) rfl (by simp) ?c1 ?c2 ?c3 ?c4 ?c5 ?_)
      case c1 =>
        intro j u hj
        have h1 := HC.out j u hj
        rw [add_plain, Nat.zero_add]
        rw [World.cell?_alloc_lt _ _ _ hg]
        exact h1
      case c2 => intro u hu; simp at hu; obtain ⟨b, _, rfl⟩ := hu; rfl
      case c3 => unfold maxLen; omega
      case c4 => omega
      case c5 => simp; omega
      intro v' w1 ho1 hg1 hn1
      have K2 : Kept (fun i => w.heap.size ≤ i) wr w1 := own_kept (BL.lower hz).own ((Kept.refl _ wr).alloc _) hg1
      have K3 := Lib.hid (K1.out.trans K2)
      have B1 : Hid (Bs w1 w.heap.size v' (y :: l)) := ⟨by
        rw [Nat.add_comm] at ho1
        exact ho1, fun h => hn1 h⟩
      have hz1' := Nat.le_trans hz K2.size
      have HP : Hid (hi (m / 128) ++ y :: l = enc n) := by
        show hi (m / 128) ++ y :: l = enc n
        rw [← HL.out, hi_pos (show m ≠ 0 from by omega), HY.out]
        simp
      clear ho1 hg1 hn1 K2 BL
      go_wp2_with fail
      go_roundw
      case rel => exact ⟨m / 128, y :: l, by go_num, by omega, HP.out, B1.out, hz1', K3.out⟩
      case measure => simp [intOf]; omega

theorem strOfNums_size (l : List Int) : (strOfNums l).size = l.length := by
  show (strOfNums l).data.size = l.length
  unfold strOfNums
  simp
theorem strOfNums_append (a b : List Int) : strOfNums (a ++ b) = strOfNums a ++ strOfNums b := by
  apply ByteArray.ext
  simp [strOfNums, ByteArray.data_append]
theorem conv_lit (w : World) (x : Int) : (convert 43 9 (.slice (some ⟨w.heap.size, 0, none⟩) 1 1)).run Try.prog (w.alloc (.cells #[.int .u8 x] 5)) = .ok (.string (strOfNums [x])) (w.alloc (.cells #[.int .u8 x] 5)) :=
  run_convert_bytes_arg (P := Try.prog) (w := w.alloc (.cells #[.int .u8 x] 5)) 43 5 Try.underlying43 Try.underlying5 w.heap.size 0 1 1 [x] rfl (fun i hi => by
    obtain rfl : i = 0 := by omega
    rw [World.cell?_alloc_new]
    rfl) 9 Try.underlying9

set_option maxHeartbeats 1000000 in
theorem number_c (n : Nat) (hn : n < 18446744073709551616) (w : World) : Calls Try.prog 19 #[.int .u64 n] w fun e w' => e = .returned (.string (strOfNums (enc n))) ∧ Kept (fun i => w.heap.size ≤ i) w w' := by
  have hen := (enc_len n hn).2
  have HN := Lib.hid hn
  have hcv := conv_lit
  go_enter Try.func19, Try.ntmps19
  go_wp2_with fail
  have K0 := Lib.hid ((Kept.refl (fun i => w.heap.size ≤ i) w).alloc (.cells #[.int .u8 ((n : Int) % 128)] 5))
  clear hn
  go_loopw [0, 3] (fun i v wr => ∃ (m : Nat) (l : List Int), i = .int .u64 m ∧ v = .string (strOfNums l) ∧ m ≤ n ∧ hi (m / 128) ++ l = enc n ∧ w.heap.size ≤ wr.heap.size ∧ Kept (fun i => w.heap.size ≤ i) w wr) (fun i _ _ => (intOf i).toNat)
  case atStart => exact ⟨n, [(n : Int) % 128], rfl, rfl, Nat.le_refl _, by unfold enc; rw [Int.natCast_emod]; rfl, by simp, K0.out⟩
  case round =>
    obtain ⟨m, l, rfl, rfl, hm, hl, hz, K⟩ := hrel
    have HL := Lib.hid hl
    have K1 := Lib.hid K
    have hll : l.length ≤ 10 := by
      have := congrArg List.length hl
      rw [List.length_append] at this
      omega
    clear hl K K0
    by_cases h0 : 127 < m
    · have h1 : (127 : Int) < (m : Int) := by omega
      have hmm : (m : Int) ≤ 18446744073709551615 := by have := HN.out; omega
      have s1 := strOfNums_size l
      have s2 : ∀ x, (strOfNums [x]).size = 1 := fun x => strOfNums_size [x]
      go_wp2_with fail
      go_roundw
      case rel =>
        refine ⟨m / 128, (128 + ((m : Int) / 128) % 128) :: l, by go_num, by rw [← strOfNums_append]; rfl, by omega, ?_, by simp; omega, K1.out.alloc _⟩
        rw [← HL.out, hi_pos (show m / 128 ≠ 0 from by omega)]
        simp
        omega
      case measure => simp [intOf]; omega
    · have h1 : ¬(127 : Int) < (m : Int) := by omega
      go_wp2_with fail
      go_ret
      have := HL.out
      rw [show m / 128 = 0 from by omega, hi_zero, List.nil_append] at this
      rw [← this]
      exact ⟨rfl, K1.out⟩
end Go.Proofs.Ytgloehelfdmmaaa.Oid
