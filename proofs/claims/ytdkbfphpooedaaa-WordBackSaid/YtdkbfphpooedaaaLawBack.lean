/- For every word and every text: printed between two copies of a short text the word is found there. The walk. No condition beyond the kinds and the reach. -/
import Derived.Test.YtdkbfphpooedaaaLawc
namespace Go.Proofs.Ytdkbfphpooedaaa.Word.LawBack
set_option linter.unusedVariables false
open Go.RowKit

theorem walk_out (x : Int) (s : ByteArray) (w : World) (h : 100 < s.size) (h2 : s.size ≤ 140737488351232) : Calls Try.prog 5 #[.int .u32 x, .string s] w fun e w' => e = .returned (.bool true) ∧ Below w.heap.size w w' := by
  have h' : (100 : Int) < (s.size : Int) := by omega
  go_enter Try.func5, Try.ntmps5
  go_wp2_with fail
  refine (awake_c w).mono ?_
  rintro e w1 ⟨rfl, B1⟩
  go_wp2_with fail
  refine (awake_c w1).mono ?_
  rintro e w2 ⟨rfl, B2⟩
  go_wp2_with fail
  go_ret
  exact ⟨rfl, step B1 B2⟩
theorem back_c (x : Nat) (s : ByteArray) (hX : x < 4294967296) (h : s.size ≤ 100) (w : World) : Calls Try.prog 12 #[.string (s ++ strOfNums (be 4 x) ++ s), .int .i64 s.size] w fun e w' => e = .returned (.tuple #[.int .u32 x, .bool true]) ∧ Kept (fun _ => False) w w' := by
  have h1 : (s ++ strOfNums (be 4 x) ++ s).size = s.size + 4 + s.size := by simp [ByteArray.size_append, strOfNums_size, be_len]
  refine (get32_ok (s ++ strOfNums (be 4 x) ++ s) s.size w (by omega) (by omega)).mono ?_
  rintro e w' ⟨rfl, K⟩
  rw [wd_of _ s.size (by omega) x hX ?_]
  · exact ⟨rfl, K⟩
  · rw [bl_append, bl_append, bl_strOfNums _ (be_byte 4 x), List.append_assoc, List.drop_left' (bl_length s), List.take_left' (be_len 4 x)]
set_option maxHeartbeats 1000000 in
theorem walk_within (x : Nat) (s : ByteArray) (w : World) (hX : x < 4294967296) (h : s.size ≤ 100) : Calls Try.prog 5 #[.int .u32 x, .string s] w fun e w' => e = .returned (.bool true) ∧ Below w.heap.size w w' := by
  have h' : ¬(100 : Int) < (s.size : Int) := by omega
  have G := Lib.hid (back_c x s hX h)
  have P := Lib.hid (put32_c x hX)
  have hp : (strOfNums (be 4 x)).size = 4 := by rw [strOfNums_size, be_len]
  generalize strOfNums (be 4 x) = p at G P hp
  go_enter Try.func5, Try.ntmps5
  go_wp2_with fail
  refine (awake_c w).mono ?_
  rintro e w1 ⟨rfl, B1⟩
  go_wp2_with fail
  refine (P.out w1).mono ?_
  rintro e w2 ⟨rfl, K⟩
  have K2 := Lib.hid ((Kept.of_below B1 (fun i => w.heap.size ≤ i)).trans (K.mono (fun i hi => Nat.le_trans B1.size hi)))
  clear K B1
  go_wp2_with fail
  refine (G.out w2).mono ?_
  rintro e w3 ⟨rfl, K⟩
  have K3 := Lib.hid (kup K2.out K (fun i h => h.elim))
  clear K
  go_wp2_with fail
  go_ret
  exact ⟨by first | rfl | (simp; done), Kept.below (Below.refl _ w) K3.out (fun i h => h)⟩
theorem walk (x : Int) (s : ByteArray) (w : World) (hx : (Lit.int .u32 x).wf = true) (h2 : s.size ≤ 140737488351232) : Calls Try.prog 5 #[.int .u32 x, .string s] w fun e w' => e = .returned (.bool true) ∧ Below w.heap.size w w' := by
  obtain ⟨hx0, hx1⟩ := wf_u32 hx
  obtain ⟨x, rfl⟩ : ∃ m : Nat, x = m := ⟨x.toNat, by omega⟩
  by_cases h : 100 < s.size
  · exact walk_out x s w h h2
  · exact walk_within x s w (by omega) (by omega)
end Go.Proofs.Ytdkbfphpooedaaa.Word.LawBack
