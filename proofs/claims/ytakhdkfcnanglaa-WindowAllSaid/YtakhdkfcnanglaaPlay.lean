/- Read over the given bytes; great; awake (layer 3). -/
import Derived.Test.YtakhdkfcnanglaaNew
namespace Go.Proofs.Ytakhdkfcnanglaa.Play
open Go.RowKit
open Go.Proofs.Ytakhdkfcnanglaa.Obj Go.Proofs.Ytakhdkfcnanglaa.New
set_option linter.unusedVariables false

/-- the step that is played -/
def top (st : List (Int × Int)) (l : Nat) : Int × Int := match st with
  | x :: _ => x
  | [] => if l = 0 then (0, 1) else (l, 0)
def cn (n : Int) (st : List (Int × Int)) (l : Nat) : Nat := came n (top st l).1 l
def ov (n : Int) (st : List (Int × Int)) (l : Nat) : Int := fin (top st l).2 (l - cn n st l)
theorem cn_le (n : Int) (st : List (Int × Int)) (l : Nat) : cn n st l ≤ l := came_le _ _ _
theorem size_zero {s : ByteArray} (h : s.size = 0) : s = ⟨#[]⟩ := by
  cases s with
  | mk d => have : d.size = 0 := h
            rw [Array.eq_empty_of_size_eq_zero this]

theorem read_go (b g : Nat) (left : ByteArray) (st : List (Int × Int)) (given calls n : Int) (w : World) (h0 : 0 ≤ calls) (h1 : calls ≤ 1000000000) (h : Src w b g left st 0 given calls)
    (hg0 : 0 ≤ given) (hg1 : given ≤ 1000000000) (hs : left.size ≤ 1000000000) :
    Calls Try.prog 17 #[.pointer (some ⟨b, 0, none⟩), .int .i64 n] w fun e w' => e = .returned (.tuple #[.string (left.extract 0 (cn n st left.size)), .int .i64 (ov n st left.size)]) ∧ Src w' b g (left.extract (cn n st left.size) left.size) st.tail (ov n st left.size) (given + cn n st left.size) (calls + 1) ∧ Kept (· = b) w w' := by
  cases st with
  | cons x st => exact read_run b g left (x :: st) given calls n x.1 x.2 w w h0 (by omega) h hg0 (by omega) (by omega) st (next_step b g left x st 0 given (calls + 1) _ (h.setCalls (calls + 1)))
  | nil =>
    by_cases hz : left.size = 0
    · obtain rfl := size_zero hz
      exact read_run b g _ [] given calls n 0 1 w w h0 (by omega) h hg0 (by omega) (by omega) [] (next_over b g 0 given (calls + 1) _ (h.setCalls (calls + 1)))
    · have e : top [] left.size = ((left.size : Int), 0) := if_neg hz
      unfold ov cn
      rw [e]
      exact read_run b g _ [] given calls n left.size 0 w w h0 (by omega) h hg0 (by omega) (by omega) [] (next_all b g left 0 given (calls + 1) _ (h.setCalls (calls + 1)) (by omega))

theorem read_d (b g : Nat) (d : ByteArray) (a : Nat) (st : List (Int × Int)) (calls n : Int) (w : World) (h0 : 0 ≤ calls) (h1 : calls ≤ 1000000000) (h : Src w b g (d.extract a d.size) st 0 a calls)
    (ha : a ≤ d.size) (hd : d.size ≤ 1000000) :
    Calls Try.prog 17 #[.pointer (some ⟨b, 0, none⟩), .int .i64 n] w fun e w' => e = .returned (.tuple #[.string (d.extract a (a + cn n st (d.size - a))), .int .i64 (ov n st (d.size - a))]) ∧ Src w' b g (d.extract (a + cn n st (d.size - a)) d.size) st.tail (ov n st (d.size - a)) ((a + cn n st (d.size - a) : Nat) : Int) (calls + 1) ∧ Kept (· = b) w w' := by
  have R := read_go b g (d.extract a d.size) st a calls n w h0 h1 h (by omega) (by omega) (by rw [ByteArray.size_extract]; omega)
  rw [ByteArray.size_extract, show min d.size d.size - a = d.size - a from by omega] at R
  have hc := cn_le n st (d.size - a)
  generalize cn n st (d.size - a) = c at R hc ⊢
  rw [ByteArray.extract_extract, ByteArray.extract_extract, show a + 0 = a from rfl, show min (a + c) d.size = a + c from by omega, show min (a + (d.size - a)) d.size = d.size from by omega] at R
  rw [show ((a + c : Nat) : Int) = (a : Int) + c from by omega]
  exact R

theorem great_c (d : ByteArray) (A A' : Option Addr) (n c n' c' : Nat) (w : World) (hd : d.size ≤ 140737488351232) (hn : n ≤ 9223372036854775807) (hn' : n' ≤ 9223372036854775807) :
    Calls Try.prog 15 #[.string d, .slice A n c, .slice A' n' c'] w fun e w' => e = .returned (.bool (decide (2000 < d.size ∨ 500 < n ∨ 500 < n'))) ∧ w = w' := by
  by_cases h1 : 2000 < d.size
  · go_enter Try.func15, Try.ntmps15
    go_wp2
    go_ret
    exact ⟨ret_bool (by simp), rfl⟩
  · by_cases h2 : 500 < n
    · go_enter Try.func15, Try.ntmps15
      go_wp2
      go_ret
      exact ⟨ret_bool (by simp), rfl⟩
    · by_cases h3 : 500 < n'
      · go_enter Try.func15, Try.ntmps15
        go_wp2
        go_ret
        exact ⟨ret_bool (by simp [h3]; omega), rfl⟩
      · go_enter Try.func15, Try.ntmps15
        go_wp2
        go_ret
        exact ⟨ret_bool (by simp [h1, h2, h3]; omega), rfl⟩

theorem given_made (w : World) (cs : Array Value) (st : List (Int × Int)) (h : cs.toList = flat st) (hl : st.length ≤ 1000) : Given (w.alloc (.cells cs 36)) (some ⟨w.heap.size, 0, none⟩) st st.length :=
  ⟨Nat.le_refl _, by omega, .inr ⟨_, rfl, fun j u hj => by
    rw [add_plain, Nat.zero_add, World.cell?_alloc_new, ← hj, ← h, Array.getElem?_toList]⟩⟩

set_option maxHeartbeats 4000000 in
theorem awake_c (w : World) : Calls Try.prog 14 #[] w fun e w' => e = .returned (.bool true) ∧ Below w.heap.size w w' := by
  go_enter Try.func14, Try.ntmps14
  go_wp2_with fail
  refine (new_c ⟨#[97, 98, 99]⟩ (some ⟨w.heap.size, 0, none⟩) 3 [(1, 0), (0, 0), (5, 1)] _ (given_made w _ [(1, 0), (0, 0), (5, 1)] rfl (by decide)) (by decide)).mono ?_
  rintro e w1 ⟨b, g, rfl, S1, K1, hb, hg⟩
  have HB : Hid (w.heap.size ≤ b) := by rw [World.size_alloc] at hb; exact Nat.le_trans (Nat.le_succ _) hb
  have K0 := Lib.hid (Kept.trans (Kept.alloc (Kept.refl (fun _ => False) w) _) K1)
  clear hb hg K1
  go_wp2_with fail
  refine (read_d b g ⟨#[97, 98, 99]⟩ 0 _ 0 9 w1 (by omega) (by omega) S1 (by decide) (by decide)).mono ?_
  rw [show cn 9 [(1, 0), (0, 0), (5, 1)] ((⟨#[97, 98, 99]⟩ : ByteArray).size - 0) = 1 from by decide, show ov 9 [(1, 0), (0, 0), (5, 1)] ((⟨#[97, 98, 99]⟩ : ByteArray).size - 0) = 0 from by decide]
  rintro e w2 ⟨rfl, S2, K2⟩
  rw [show (⟨#[97, 98, 99]⟩ : ByteArray).extract 0 (0 + 1) = ⟨#[97]⟩ from by decide]
  go_wp2_with fail
  refine (read_d b g ⟨#[97, 98, 99]⟩ 1 _ 1 9 w2 (by omega) (by omega) S2 (by decide) (by decide)).mono ?_
  rw [List.tail_cons, show cn 9 [(0, 0), (5, 1)] ((⟨#[97, 98, 99]⟩ : ByteArray).size - 1) = 0 from by decide, show ov 9 [(0, 0), (5, 1)] ((⟨#[97, 98, 99]⟩ : ByteArray).size - 1) = 0 from by decide]
  rintro e w3 ⟨rfl, S3, K3⟩
  rw [show (⟨#[97, 98, 99]⟩ : ByteArray).extract 1 (1 + 0) = ⟨#[]⟩ from by decide]
  go_wp2_with fail
  refine (read_d b g ⟨#[97, 98, 99]⟩ 1 _ 2 9 w3 (by omega) (by omega) S3 (by decide) (by decide)).mono ?_
  rw [List.tail_cons, show cn 9 [(5, 1)] ((⟨#[97, 98, 99]⟩ : ByteArray).size - 1) = 2 from by decide, show ov 9 [(5, 1)] ((⟨#[97, 98, 99]⟩ : ByteArray).size - 1) = 1 from by decide]
  rintro e w4 ⟨rfl, S4, K4⟩
  rw [show (⟨#[97, 98, 99]⟩ : ByteArray).extract 1 (1 + 2) = ⟨#[98, 99]⟩ from by decide]
  go_wp2_with fail
  refine (read_over b g _ _ 1 _ 3 9 w4 S4 (by omega) (by omega) (by decide)).mono ?_
  rintro e w5 ⟨rfl, S5, K5⟩
  have KK := Lib.hid (K2.trans (K3.trans (K4.trans K5)))
  clear K2 K3 K4 K5 S2 S3 S4
  go_wp2_with fail
  refine (calls_c b g _ _ _ _ _ _ S5 (by omega) (by omega)).mono ?_
  rintro e w6 ⟨rfl, rfl⟩
  go_wp2_with fail
  refine (given_c b g _ _ _ _ _ _ S5).mono ?_
  rintro e w6 ⟨rfl, rfl⟩
  go_wp2_with fail
  go_ret
  exact ⟨rfl, Kept.below (Kept.below (Below.refl _ w) K0.out (fun i hi => hi.elim)) KK.out (fun i hi => by have := HB.out; omega)⟩

/-- What is known of a slice of whole numbers that came in. -/
def Ints (w : World) (a : Option Addr) (len : Nat) (zs : List Int) : Prop :=
  len = 0 ∨ ∃ b off, a = some ⟨b, off, none⟩ ∧ b < w.heap.size ∧ ∀ i, i < len → w.cell? ⟨b, off + i, none⟩ = some (.int .i64 (zs.getD i 0)) ∧ -9223372036854775808 ≤ zs.getD i 0 ∧ zs.getD i 0 ≤ 9223372036854775807
theorem lt_cell {w : World} {b o : Nat} {v : Value} (h : w.cell? ⟨b, o, none⟩ = some v) : b < w.heap.size := Obj.lt_cell h
end Go.Proofs.Ytakhdkfcnanglaa.Play
