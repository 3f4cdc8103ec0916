/- The document's first answers of layer 17, and what the laws of the layer share. -/
import Derived.Test.YtgnmianhbbchgaaObj
namespace Go.Proofs.Ytgnmianhbbchgaa.Obj
open Go.RowKit
set_option linter.unusedVariables false

theorem on_q (b g most : Nat) (l : List Int) (on : Bool) (w : World) (n : Nat) (h : Cap w b g l on most) :
    Calls Try.prog 11 #[.pointer (some ⟨b, 0, none⟩)] (w.drewN n) fun e w' => e = .returned (.bool on) ∧ ∃ m, w' = w.drewN m :=
  (on_c b g most l on _ (h.drewN n)).mono fun _ _ ⟨he, hw⟩ => ⟨he, n, hw.symm⟩
theorem text_q (b g most : Nat) (l : List Int) (on : Bool) (w : World) (n : Nat) (h : Cap w b g l on most) :
    Calls Try.prog 12 #[.pointer (some ⟨b, 0, none⟩)] (w.drewN n) fun e w' => e = .returned (.string (strOfNums l)) ∧ ∃ m, w' = w.drewN m :=
  (text_c b g most l on _ (h.drewN n)).mono fun _ _ ⟨he, hw⟩ => ⟨he, n, hw.symm⟩
set_option maxHeartbeats 400000 in
theorem room_q (b g most : Nat) (l : List Int) (on : Bool) (w : World) (n : Nat) (h : Cap w b g l on most) :
    Calls Try.prog 13 #[.pointer (some ⟨b, 0, none⟩)] (w.drewN n) fun e w' => e = .returned (.int .i64 ((most : Int) - l.length)) ∧ ∃ m, w' = w.drewN m := by
  obtain ⟨c0, c1, f0, f1, row, len, m, ne, lb, lg⟩ := h
  clear row
  go_enter Try.func13, Try.ntmps13
  go_wp2
  go_quiet (fail)
  go_wp2
  go_ret
  exact ⟨rfl, _, by first | rfl | (simp only [World.drewN_drewN]; rfl)⟩

set_option maxHeartbeats 1000000 in
theorem awake_c (w : World) : Calls Try.prog 8 #[] w fun e w' => e = .returned (.bool true) ∧ Below w.heap.size w w' := by
  go_enter Try.func8, Try.ntmps8
  go_wp2_with fail
  refine (new_c 2 _).mono ?_
  rintro e w1 ⟨rfl, S1, K1⟩
  rw [show clamp 2 = 2 from by decide] at S1
  generalize hb : w.heap.size = g at S1 ⊢
  have HB := Lib.hid hb
  clear hb
  have B1 := Lib.hid (K1.mono (T := fun k => k = g + 1 ∨ k = g) (fun _ h => h.elim))
  clear K1
  go_wp2_with fail
  refine (begin_fits (g + 1) g 2 _ _ ⟨#[97]⟩ _ S1 (by decide)).mono ?_
  rintro e w2 ⟨rfl, S2, K2⟩
  have B2 := Lib.hid (B1.out.trans K2)
  rw [show bl ⟨#[97]⟩ = [97] from by decide] at S2
  clear K2
  go_wp2_with fail
  refine (push_ok (g + 1) g 2 _ 98 _ S2 (by decide)).mono ?_
  rintro e w3 ⟨rfl, S3, K3⟩
  have B3 := Lib.hid (B2.out.trans K3)
  clear K3
  go_wp2_with fail
  refine (push_full (g + 1) g ([97] ++ [98]) 99 _ S3).mono ?_
  rintro e w4 ⟨rfl, S4, K4⟩
  have B4 := Lib.hid (B3.out.trans (K4.mono (fun _ h => Or.inl h)))
  clear K4
  go_wp2_with fail
  refine (on_c (g + 1) g _ _ _ _ S4).mono ?_
  rintro e w5 ⟨rfl, rfl⟩
  go_wp2_with fail
  refine (push_off (g + 1) g _ _ 100 _ S4).mono ?_
  rintro e w5 ⟨rfl, rfl⟩
  go_wp2_with fail
  have C := text_c (g + 1) g _ _ _ _ S4
  rw [show strOfNums ([97] ++ [98]) = (⟨#[97, 98]⟩ : ByteArray) from by decide] at C
  refine C.mono ?_
  rintro e w5 ⟨rfl, rfl⟩
  clear C
  go_wp2_with fail
  refine (begin_over (g + 1) g 2 _ _ ⟨#[120, 121, 122]⟩ _ S4 (by decide)).mono ?_
  rintro e w5 ⟨rfl, S5, K5⟩
  have B5 := Lib.hid (B4.out.trans K5)
  rw [show (bl ⟨#[120, 121, 122]⟩).take 2 = [120, 121] from by decide] at S5
  clear K5
  go_wp2_with fail
  have C := text_c (g + 1) g _ _ _ _ S5
  rw [show strOfNums [120, 121] = (⟨#[120, 121]⟩ : ByteArray) from by decide] at C
  refine C.mono ?_
  rintro e w6 ⟨rfl, rfl⟩
  clear C
  go_wp2_with fail
  have C := room_c (g + 1) g _ _ _ _ S5
  rw [show ((2 : Nat) : Int) - (([120, 121] : List Int).length : Int) = 0 from by decide] at C
  refine C.mono ?_
  rintro e w6 ⟨rfl, S6, K6⟩
  clear C
  go_wp2_with fail
  go_ret
  exact ⟨by first | rfl | (simp; done), Kept.below (Below.refl _ w) (B5.out.trans (K6.mono (fun _ h => h.elim))) (fun i hi => by have := HB.out; omega)⟩

/-! ### the plain law -/
theorem strOfNums_bl (s : ByteArray) : strOfNums (bl s) = s := by
  unfold strOfNums bl
  rw [List.map_map]
  have e : (fun n : Int => UInt8.ofNat n.toNat) ∘ (fun b : UInt8 => (b.toNat : Int)) = id := by
    funext b
    simp
  rw [e]
  simp
theorem bl_append (a b : ByteArray) : bl (a ++ b) = bl a ++ bl b := by
  unfold bl
  simp [ByteArray.data_append]
theorem strOfNums_take (s : ByteArray) (m : Nat) : strOfNums ((bl s).take m) = s.extract 0 m := by
  have e : (bl s).take m = bl (s.extract 0 m) := by
    unfold bl
    rw [← List.map_take]
    congr 1
    simp [ByteArray.data_extract]
  rw [e, strOfNums_bl]
theorem take_both (a s : ByteArray) (k : Nat) (h : k < s.size) : (bl (a ++ s)).take (a.size + k + 1) = (bl (a ++ s)).take (a.size + k) ++ [((s[k]'h).toNat : Int)] := by
  have h2 : a.size + k < (a ++ s).size := by rw [ByteArray.size_append]; omega
  rw [bl_snoc (a ++ s) (a.size + k) h2]
  congr 2
  rw [ByteArray.getElem_append_right (by omega)]
  simp
theorem take_first (a s : ByteArray) (m : Nat) (h : m ≤ a.size) : (bl (a ++ s)).take m = (bl a).take m := by
  rw [bl_append, List.take_append_of_le_length (by rw [bl_length]; exact h)]
end Go.Proofs.Ytgnmianhbbchgaa.Obj
