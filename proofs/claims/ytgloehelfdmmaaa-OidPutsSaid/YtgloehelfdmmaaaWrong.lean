/- Wrong, for every content and length. -/
import Derived.Test.YtgloehelfdmmaaaLawu
namespace Go.Proofs.Ytgloehelfdmmaaa.Oid
set_option linter.unusedVariables false
open Go.RowKit

def wnk (l : List Int) : Nat → Bool
  | 0 => false
  | k + 1 => decide (127 < l.getD k 0)
theorem ret_int {a b : Int} (h : a = b) : Ending.returned (.int .i64 a) = .returned (.int .i64 b) := by rw [h]
theorem bl_getD (s : ByteArray) (k : Nat) (h : k < s.size) : (bl s).getD k 0 = ((s[k]'h).toNat : Int) := by
  simp [List.getD, bl, h]
  rfl
theorem wnk_succ (s : ByteArray) (k : Nat) (h : k < s.size) : wnk (bl s) (k + 1) = decide (127 < ((s[k]'h).toNat : Int)) := by
  rw [wnk, bl_getD s k h]
def wrongS (n : Int) (c : ByteArray) : Int := if n < 1 then 0 else wr n false 0 (bl c)
set_option maxRecDepth 10000 in
set_option maxHeartbeats 1000000 in
theorem wrong_c (n : Int) (c : ByteArray) (w : World) (hc : c.size ≤ 2000) (hn : n ≤ 9223372036854775807) : Calls Try.prog 10 #[.int .i64 n, .string c] w fun e w' => e = .returned (.int .i64 (wrongS n c)) ∧ w = w' := by
  by_cases h1 : n < 1
  · rw [show wrongS n c = 0 from if_pos h1]
    go_enter Try.func10, Try.ntmps10
    go_wp2
    go_ret
    exact ⟨rfl, rfl⟩
  · obtain ⟨R, hR⟩ : ∃ R, R = wrongS n c := ⟨_, rfl⟩
    rw [← hR]
    have HR0 : Hid (wr n (wnk (bl c) 0) 0 ((bl c).drop 0) = R) := by
      show wr n (wnk (bl c) 0) 0 ((bl c).drop 0) = R
      rw [hR, wrongS, if_neg h1]
      rfl
    clear hR
    go_enter Try.func10, Try.ntmps10
    go_wp2_with fail
    go_loop [5] (fun i => ∃ k : Nat, k ≤ c.size ∧ i = .int .i64 k ∧ wr n (wnk (bl c) k) k ((bl c).drop k) = R) (fun i => c.size - (intOf i).toNat)
    case atStart => exact ⟨0, Nat.zero_le _, rfl, HR0.out⟩
    case round =>
      obtain ⟨k, hk, rfl, hr⟩ := hrel
      have HR := Lib.hid hr
      clear hr HR0
      by_cases hlt : k < c.size
      · have t1 : (k : Int) < (c.size : Int) := by omega
        have hsn := wnk_succ c k hlt
        have hdr := bl_drop c k hlt
        have hbb := byte_at c k hlt
        have hRR := HR.out
        rw [hdr] at hRR
        obtain ⟨b, hb⟩ : ∃ b : Int, ((c[k]'hlt).toNat : Int) = b := ⟨_, rfl⟩
        rw [hb] at hRR hbb hsn
        obtain ⟨b0, b1⟩ := hbb
        rw [wr] at hRR
        have HRR := Lib.hid hRR
        have HSN := Lib.hid hsn
        clear hRR hdr HR hsn
        have hkn : ((k : Int) == n - 1) = decide ((k : Int) = n - 1) := rfl
        by_cases hone : b = 128 ∧ wnk (bl c) k = false
        · -- wrong by itself
          obtain ⟨hb128, hw⟩ := hone
          have HO : Hid (R = (k : Int) + 1) := by
            have h := HRR.out
            rw [if_pos (.inl ⟨hb128, hw⟩)] at h
            exact h.symm
          cases k with
          | zero =>
            subst hb128
            clear hw
            go_wp2_with fail
            go_ret
            exact ⟨ret_int (by rw [HO.out]; simp), rfl⟩
          | succ j =>
            have hj : j < c.size := by omega
            rw [wnk_succ c j hj] at hw
            have hp : ¬127 < ((c[j]'hj).toNat : Int) := of_decide_eq_false hw
            have hp0 := byte_at c j hj
            obtain ⟨p, hpp⟩ : ∃ p : Int, ((c[j]'hj).toNat : Int) = p := ⟨_, rfl⟩
            rw [hpp] at hp hp0
            obtain ⟨p0, p1⟩ := hp0
            have hp2 : p < 128 := by omega
            subst hb128
            clear hw hp
            go_wp2_with fail
            go_ret
            exact ⟨ret_int (by rw [HO.out]; simp), rfl⟩
        · have HONE := Lib.hid hone
          have hg : (b == 128) = false ∨ ((b == 128) = true ∧ wnk (bl c) k = true) := by
            by_cases h : b = 128
            · refine .inr ⟨by simp [h], ?_⟩
              cases hw : wnk (bl c) k with
              | true => rfl
              | false => exact absurd ⟨h, hw⟩ hone
            · exact .inl (by simpa using h)
          clear hone
          by_cases hlast : (k : Int) = n - 1 ∧ 127 < b
          · obtain ⟨hl1, hl2⟩ := hlast
            have HO : Hid (R = (k : Int) + 1) := by
              have h := HRR.out
              rw [if_pos (.inr ⟨hl1, hl2⟩)] at h
              exact h.symm
            obtain rfl : n = (k : Int) + 1 := by omega
            clear hl1 hkn
            rcases hg with hg | ⟨hg, hw⟩
            · go_wp2_with fail
              go_ret
              exact ⟨ret_int (by rw [HO.out]), rfl⟩
            · have hb128 : b = 128 := by simpa using hg
              cases k with
              | zero => simp [wnk] at hw
              | succ j =>
                have hj : j < c.size := by omega
                rw [wnk_succ c j hj] at hw
                have hp : 127 < ((c[j]'hj).toNat : Int) := of_decide_eq_true hw
                have hp0 := byte_at c j hj
                obtain ⟨p, hpp⟩ : ∃ p : Int, ((c[j]'hj).toNat : Int) = p := ⟨_, rfl⟩
                rw [hpp] at hp hp0
                obtain ⟨p0, p1⟩ := hp0
                have hp2 : ¬p < 128 := by omega
                have hj0 : (((j : Int) + 1) == 0) = false := by simp; omega
                subst hb128
                have hjn : (((j : Int) + 1) == ((j : Int) + 1 + 1 - 1)) = true := by simp
                clear hw hp hg hn h1
                go_wp2_with fail
                go_ret
                exact ⟨ret_int (by rw [HO.out]; simp), rfl⟩
          · have HLAST := Lib.hid hlast
            have hl : (¬127 < b) ∨ ((k : Int) == n - 1) = false := by
              by_cases h : 127 < b
              · exact .inr (by rw [hkn]; exact decide_eq_false (fun h2 => hlast ⟨h2, h⟩))
              · exact .inl h
            have HO : Hid (wr n (wnk (bl c) (k + 1)) (k + 1) ((bl c).drop (k + 1)) = R) := by
              have h := HRR.out
              rw [if_neg (by rintro (h2 | h2); exact HONE.out h2; exact hlast h2)] at h
              rw [HSN.out]
              exact h
            clear hlast
            have hkn2 : ((k : Int) == n - 1) = true ∨ ((k : Int) == n - 1) = false := by cases ((k : Int) == n - 1) <;> simp
            clear hkn
            rcases hg with hg | ⟨hg, hw⟩
            · rcases hkn2 with hkn2 | hkn2
              · have hlow : ¬127 < b := hl.resolve_right (by rw [hkn2]; simp)
                clear hl
                go_wp2_with fail
                go_round
                case rel => exact ⟨k + 1, by omega, by go_num, HO.out⟩
                case measure => simp [intOf]; omega
              · clear hl
                go_wp2_with fail
                go_round
                case rel => exact ⟨k + 1, by omega, by go_num, HO.out⟩
                case measure => simp [intOf]; omega
            · have hb128 : b = 128 := by simpa using hg
              have hkf : ((k : Int) == n - 1) = false := hl.resolve_left (by omega)
              cases k with
              | zero => simp [wnk] at hw
              | succ j =>
                have hj : j < c.size := by omega
                rw [wnk_succ c j hj] at hw
                have hp : 127 < ((c[j]'hj).toNat : Int) := of_decide_eq_true hw
                have hp0 := byte_at c j hj
                obtain ⟨p, hpp⟩ : ∃ p : Int, ((c[j]'hj).toNat : Int) = p := ⟨_, rfl⟩
                rw [hpp] at hp hp0
                obtain ⟨p0, p1⟩ := hp0
                have hp2 : ¬p < 128 := by omega
                have hj0 : (((j : Int) + 1) == 0) = false := by simp; omega
                have hkf2 : (((j : Int) + 1) == n - 1) = false := hkf
                subst hb128
                clear hw hp hg hl hkf hkn2
                go_wp2_with fail
                go_round
                case rel => exact ⟨j + 1 + 1, by omega, by go_num, HO.out⟩
                case measure => simp [intOf]; omega
      · obtain rfl : k = c.size := by omega
        have t1 : ¬(c.size : Int) < (c.size : Int) := by omega
        have hR : R = -1 := by
          rw [← HR.out, List.drop_eq_nil_of_le (by rw [bl_length]; exact Nat.le_refl _)]
          rfl
        subst hR
        go_wp2_with fail
        go_ret
        exact ⟨rfl, rfl⟩
end Go.Proofs.Ytgloehelfdmmaaa.Oid
