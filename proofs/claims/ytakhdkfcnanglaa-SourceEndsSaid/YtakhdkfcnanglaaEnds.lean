/- The walk of Ends. -/
import Derived.Test.YtakhdkfcnanglaaPlay
namespace Go.Proofs.Ytakhdkfcnanglaa.Ends
open Go.RowKit
open Go.Proofs.Ytakhdkfcnanglaa.Obj Go.Proofs.Ytakhdkfcnanglaa.New Go.Proofs.Ytakhdkfcnanglaa.Play
set_option linter.unusedVariables false

theorem came_all (n : Int) (l D : Nat) (h : l ≤ D) : came D n l = (min (max n 0) l).toNat := by unfold came; omega
theorem ne_str {s : ByteArray} (h : 0 < s.size) : s.toList.isEmpty = false := by
  rw [ByteArray.toList_eq]
  cases e : s.data.toList with
  | nil => have h1 : s.data.toList.length = s.size := by rw [Array.length_toList]; rfl
           rw [e] at h1; simp at h1; omega
  | cons _ _ => rfl
theorem cn_all (d : ByteArray) : cn d.size [] (d.size - 0) = d.size := by
  unfold cn top came
  by_cases h : d.size = 0
  · simp [h]
  · simp [h]

theorem walk_out (d : ByteArray) (n : Int) (w : World) (hd : d.size ≤ 140737488351232) (h : 2000 < d.size) :
    Calls Try.prog 5 #[.string d, .int .i64 n] w fun e w' => e = .returned (.bool true) ∧ Below w.heap.size w w' := by
  go_enter Try.func5, Try.ntmps5
  go_wp2_with fail
  refine (awake_c w).mono ?_
  rintro e w1 ⟨rfl, B1⟩
  go_wp2_with fail
  refine (awake_c w1).mono ?_
  rintro e w2 ⟨rfl, B2⟩
  go_wp2_with fail
  go_ret
  exact ⟨rfl, Obj.step B1 B2⟩

set_option maxHeartbeats 4000000 in
theorem walk_within (d : ByteArray) (n : Int) (w : World) (hd : d.size ≤ 2000) :
    Calls Try.prog 5 #[.string d, .int .i64 n] w fun e w' => e = .returned (.bool true) ∧ Below w.heap.size w w' := by
  go_enter Try.func5, Try.ntmps5
  go_wp2_with fail
  refine (awake_c w).mono ?_
  rintro e w1 ⟨rfl, B1⟩
  have K1 := Lib.hid (Kept.of_below B1 (fun _ => False))
  clear B1
  go_wp2_with fail
  refine (new_c d none 0 [] w1 (Given.none_ w1) (by decide)).mono ?_
  rintro e w2 ⟨b, g, rfl, S1, K2, hb, hg⟩
  have HB : Hid (w.heap.size ≤ b) := Nat.le_trans K1.out.size hb
  have K3 := Lib.hid (K1.out.trans K2)
  have lb : b < w2.heap.size := S1.lb
  have lg : ([] : List (Int × Int)) = [] ∨ g < w2.heap.size := .inl rfl
  clear K1 K2 hb hg
  go_wp2_with fail
  refine (new_c d (some ⟨w2.heap.size, 0, none⟩) 1 [(n, 2)] _ (given_made w2 _ [(n, 2)] rfl (by simp)) (by simp)).mono ?_
  rintro e w3 ⟨bf, gf, rfl, F1, K4, hbf, hgf⟩
  rw [World.size_alloc] at hbf
  have HF : Hid (w.heap.size ≤ bf) := by have := K3.out.size; show w.heap.size ≤ bf; omega
  have HD : Hid (b ≠ bf) := by show b ≠ bf; omega
  have S2 : Src w3 b g d [] 0 0 0 := (S1.alloc _).keep K4 (fun h => h) (fun h => h)
  have K5 := Lib.hid (((K3.out.alloc (.cells #[.int .i64 n, .int .i64 2] 36)).trans K4).mono (T := fun i => i = b ∨ i = bf) (fun _ h => h.elim))
  have HG : Hid (gf ≠ b) := by
    rcases hgf with h | h
    · simp at h
    · rw [World.size_alloc] at h; show gf ≠ b; omega
  clear K4 K3 S1 hbf lb lg hgf
  go_wp2_with fail
  refine (read_d b g d 0 [] 0 d.size _ (by omega) (by omega) (by rw [ByteArray.extract_zero_size]; exact S2) (Nat.zero_le _) (by omega)).mono ?_
  rintro e w4 ⟨rfl, S3, K4⟩
  rw [cn_all] at S3 ⊢
  rw [Nat.zero_add] at S3 ⊢
  rw [ByteArray.extract_zero_size]
  have F2 : Src w4 bf gf d [(n, 2)] 0 0 0 := F1.keep K4 (fun h => HD.out h.symm) HG.out
  have K6 := Lib.hid (K5.out.trans (K4.mono (T := fun i => i = b ∨ i = bf) (fun i hi => .inl hi)))
  clear K4 K5 F1 S2
  by_cases hz : d.size = 0
  · obtain rfl := size_zero hz
    have e1 : ov (⟨#[]⟩ : ByteArray).size [] ((⟨#[]⟩ : ByteArray).size - 0) = 1 := by decide
    rw [e1] at S3 ⊢
    go_wp2_with fail
    refine (read_over b g _ _ 1 _ 1 1 _ S3 (by omega) (by omega) (by decide)).mono ?_
    rintro e w5 ⟨rfl, S4, K7⟩
    have K8 := Lib.hid (K6.out.trans (K7.mono (T := fun i => i = b ∨ i = bf) (fun i hi => .inl hi)))
    clear K7 S3 S4 F2 HD
    go_wp2_with fail
    go_ret
    exact ⟨rfl, Kept.below (Below.refl _ w) K8.out (fun i hi => by have h1 := HB.out; have h2 := HF.out; rcases hi with rfl | rfl <;> omega)⟩
  · have e1 : ov d.size [] (d.size - 0) = 0 := by
      unfold ov
      rw [show (top [] (d.size - 0)).2 = 0 from by unfold top; simp [hz]]
      rfl
    rw [e1] at S3 ⊢
    go_wp2_with fail
    refine (read_d b g d d.size [] 1 1 _ (by omega) (by omega) S3 (Nat.le_refl _) (by omega)).mono ?_
    rintro e w5 ⟨rfl, S4, K7⟩
    rw [show cn 1 [] (d.size - d.size) = 0 from by rw [Nat.sub_self]; decide, show ov 1 [] (d.size - d.size) = 1 from by rw [Nat.sub_self]; decide, show d.extract d.size (d.size + 0) = ⟨#[]⟩ from by simp; rfl]
    have F3 : Src w5 bf gf d [(n, 2)] 0 0 0 := F2.keep K7 (fun h => HD.out h.symm) HG.out
    have K8 := Lib.hid (K6.out.trans (K7.mono (T := fun i => i = b ∨ i = bf) (fun i hi => .inl hi)))
    clear K7 S3 S4 F2 HD K6
    have hz' : ¬(d.size : Int) = 0 := by omega
    go_wp2_with fail
    by_cases p0 : n < 0
    · skip
      refine (read_d bf gf d 0 [(n, 2)] 0 d.size w5 (by omega) (by omega) (by rw [ByteArray.extract_zero_size]; exact F3) (Nat.zero_le _) (by omega)).mono ?_
      rintro e w7 ⟨rfl, F4, K7⟩
      rw [show cn d.size [(n, 2)] (d.size - 0) = 0 from by unfold cn; rw [show (top [(n, 2)] (d.size - 0)).1 = n from rfl, came_all _ _ _ (by omega)]; omega] at F4 ⊢
      rw [show ov d.size [(n, 2)] (d.size - 0) = 2 from rfl] at F4 ⊢
      rw [Nat.zero_add] at F4 ⊢
      have K9 := Lib.hid (K8.out.trans (K7.mono (T := fun i => i = b ∨ i = bf) (fun i hi => .inr hi)))
      rw [show d.extract 0 0 = ⟨#[]⟩ from by simp; rfl]
      go_wp2_with fail
      refine (read_over bf gf _ _ 2 _ 1 d.size w7 F4 (by omega) (by omega) (by decide)).mono ?_
      rintro e w8 ⟨rfl, F5, K10⟩
      have K11 := Lib.hid (K9.out.trans (K10.mono (T := fun i => i = b ∨ i = bf) (fun i hi => .inr hi)))
      clear K10 K7 F4 F5 F3
      go_wp2_with fail
      go_ret
      exact ⟨rfl, Kept.below (Below.refl _ w) K11.out (fun i hi => by have h1 := HB.out; have h2 := HF.out; rcases hi with rfl | rfl <;> omega)⟩
    · by_cases p1 : (d.size : Int) < n
      · skip
        refine (read_d bf gf d 0 [(n, 2)] 0 d.size w5 (by omega) (by omega) (by rw [ByteArray.extract_zero_size]; exact F3) (Nat.zero_le _) (by omega)).mono ?_
        rintro e w7 ⟨rfl, F4, K7⟩
        rw [show cn d.size [(n, 2)] (d.size - 0) = d.size from by unfold cn; rw [show (top [(n, 2)] (d.size - 0)).1 = n from rfl, came_all _ _ _ (by omega)]; omega] at F4 ⊢
        rw [show ov d.size [(n, 2)] (d.size - 0) = 2 from rfl] at F4 ⊢
        rw [Nat.zero_add] at F4 ⊢
        have K9 := Lib.hid (K8.out.trans (K7.mono (T := fun i => i = b ∨ i = bf) (fun i hi => .inr hi)))
        rw [ByteArray.extract_zero_size]
        go_wp2_with fail
        refine (read_over bf gf _ _ 2 _ 1 d.size w7 F4 (by omega) (by omega) (by decide)).mono ?_
        rintro e w8 ⟨rfl, F5, K10⟩
        have K11 := Lib.hid (K9.out.trans (K10.mono (T := fun i => i = b ∨ i = bf) (fun i hi => .inr hi)))
        clear K10 K7 F4 F5 F3
        go_wp2_with fail
        go_ret
        exact ⟨rfl, Kept.below (Below.refl _ w) K11.out (fun i hi => by have h1 := HB.out; have h2 := HF.out; rcases hi with rfl | rfl <;> omega)⟩
      · obtain ⟨n, rfl⟩ : ∃ m : Nat, n = m := ⟨n.toNat, by omega⟩
        have p2 : n ≤ d.size := by omega
        refine (read_d bf gf d 0 [(n, 2)] 0 d.size w5 (by omega) (by omega) (by rw [ByteArray.extract_zero_size]; exact F3) (Nat.zero_le _) (by omega)).mono ?_
        rintro e w7 ⟨rfl, F4, K7⟩
        rw [show cn d.size [(n, 2)] (d.size - 0) = n from by unfold cn; rw [show (top [(n, 2)] (d.size - 0)).1 = n from rfl, came_all _ _ _ (by omega)]; omega] at F4 ⊢
        rw [show ov d.size [(n, 2)] (d.size - 0) = 2 from rfl] at F4 ⊢
        rw [Nat.zero_add] at F4 ⊢
        have K9 := Lib.hid (K8.out.trans (K7.mono (T := fun i => i = b ∨ i = bf) (fun i hi => .inr hi)))
        skip
        go_wp2_with fail
        refine (read_over bf gf _ _ 2 _ 1 d.size w7 F4 (by omega) (by omega) (by decide)).mono ?_
        rintro e w8 ⟨rfl, F5, K10⟩
        have K11 := Lib.hid (K9.out.trans (K10.mono (T := fun i => i = b ∨ i = bf) (fun i hi => .inr hi)))
        clear K10 K7 F4 F5 F3
        go_wp2_with fail
        go_ret
        exact ⟨rfl, Kept.below (Below.refl _ w) K11.out (fun i hi => by have h1 := HB.out; have h2 := HF.out; rcases hi with rfl | rfl <;> omega)⟩

theorem walk (d : ByteArray) (n : Int) (w : World) (hd : d.size ≤ 140737488351232) :
    Calls Try.prog 5 #[.string d, .int .i64 n] w fun e w' => e = .returned (.bool true) ∧ Below w.heap.size w w' := by
  by_cases h : 2000 < d.size
  · exact walk_out d n w hd h
  · exact walk_within d n w (by omega)
end Go.Proofs.Ytakhdkfcnanglaa.Ends
