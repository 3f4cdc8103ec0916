/- The document's capture: what it holds, and its methods (layer 17). -/
import Derived.Test.YtgnmianhbbchgaaParts
namespace Go.Proofs.Ytgnmianhbbchgaa.Cref
open Go.RowKit
open Go.Proofs.Ytgnmianhbbchgaa.Obj
set_option linter.unusedVariables false

/-- The document's capture at block r. -/
structure Rcp (w : World) (r most : Nat) (l : List Int) (on : Bool) : Prop where
  c0 : w.cell? ⟨r, 0, none⟩ = some (.int .i64 most)
  c1 : w.cell? ⟨r, 1, none⟩ = some (.string (strOfNums l))
  c2 : w.cell? ⟨r, 2, none⟩ = some (.bool on)
  fr : ∀ j, j < 3 → w.frozen? ⟨r, j, none⟩ = false
  lb : r < w.heap.size
theorem Rcp.keep {S : Nat → Prop} {w w' : World} {r most : Nat} {l : List Int} {on : Bool} (h : Rcp w r most l on) (k : Kept S w w') (hr : ¬S r) : Rcp w' r most l on := by
  have e := k.block r h.lb hr
  exact ⟨(World.cell?_of_block (w := w) e).trans h.c0, (World.cell?_of_block (w := w) e).trans h.c1, (World.cell?_of_block (w := w) e).trans h.c2, fun j hj => (World.frozen?_of_block (w := w) e).trans (h.fr j hj), Nat.lt_of_lt_of_le h.lb k.size⟩
section
variable {w : World} {r most : Nat} {l : List Int} {on : Bool}
theorem Rcp.drew (h : Rcp w r most l on) : Rcp w.drew r most l on := ⟨h.c0, h.c1, h.c2, h.fr, h.lb⟩
theorem Rcp.drewN (h : Rcp w r most l on) (n : Nat) : Rcp (w.drewN n) r most l on := ⟨h.c0, h.c1, h.c2, h.fr, h.lb⟩
theorem Rcp.setOn (h : Rcp w r most l on) (v : Bool) : Rcp (w.setCell ⟨r, 2, none⟩ (.bool v)) r most l v :=
  ⟨(cs_other (by simp)).trans h.c0, (cs_other (by simp)).trans h.c1, cs_same h.c2, fun j hj => by rw [World.frozen?_setCell]; exact h.fr j hj, by rw [World.size_setCell]; exact h.lb⟩
theorem Rcp.setKept (h : Rcp w r most l on) (l' : List Int) (s : ByteArray) (hs : s = strOfNums l') : Rcp (w.setCell ⟨r, 1, none⟩ (.string s)) r most l' on := by
  subst hs
  exact ⟨(cs_other (by simp)).trans h.c0, cs_same h.c1, (cs_other (by simp)).trans h.c2, fun j hj => by rw [World.frozen?_setCell]; exact h.fr j hj, by rw [World.size_setCell]; exact h.lb⟩
theorem Rcp.alloc (h : Rcp w r most l on) (o : Obj) : Rcp (w.alloc o) r most l on := h.keep ((Kept.refl (fun _ => False) w).alloc o) (fun h => h)
end
theorem strOfNums_append (a b : List Int) : strOfNums (a ++ b) = strOfNums a ++ strOfNums b := by
  simp [strOfNums, ByteArray.ext_iff]

theorem rpush_off (r most : Nat) (l : List Int) (v : Int) (w : World) (h : Rcp w r most l false) :
    Calls Try.prog 16 #[.pointer (some ⟨r, 0, none⟩), .int .u8 v] w fun e w' => e = .returned (.int .i64 0) ∧ Rcp w' r most l false ∧ Kept (· = r) w w' := by
  have c2 := h.c2
  have H := h
  clear h
  go_enter Try.func16, Try.ntmps16
  go_wp2
  go_ret
  exact ⟨rfl, H, Kept.refl _ _⟩
set_option maxHeartbeats 400000 in
theorem rpush_full (r most : Nat) (l : List Int) (v : Int) (w : World) (h : Rcp w r most l true) (hl : most ≤ l.length) (hl2 : l.length ≤ 1000000) :
    Calls Try.prog 16 #[.pointer (some ⟨r, 0, none⟩), .int .u8 v] w fun e w' => e = .returned (.int .i64 11) ∧ Rcp w' r most l false ∧ Kept (· = r) w w' := by
  have c0 := h.c0
  have c1 := h.c1
  have c2 := h.c2
  have f2 := h.fr 2 (by omega)
  have hsz := strOfNums_size l
  have H := Lib.hid h
  have K := Lib.hid (Kept.refl (· = r) w)
  have t1 : (most : Int) ≤ (l.length : Int) := by omega
  clear h
  generalize strOfNums l = s at c1 hsz
  go_enter Try.func16, Try.ntmps16
  go_wp2_with fail
  go_quiet (fail)
  go_wp2
  go_ret
  exact ⟨rfl, (H.out.drewN _).setOn false, (K.out.drewN _).setIn⟩
set_option maxHeartbeats 400000 in
theorem rpush_ok (r most : Nat) (l : List Int) (v : Int) (w : World) (h : Rcp w r most l true) (hl : l.length < most) (hl2 : most ≤ 1000000) :
    Calls Try.prog 16 #[.pointer (some ⟨r, 0, none⟩), .int .u8 v] w fun e w' => e = .returned (.int .i64 0) ∧ Rcp w' r most (l ++ [v]) true ∧ Kept (· = r) w w' := by
  have c0 := h.c0
  have c1 := h.c1
  have c2 := h.c2
  have f1 := h.fr 1 (by omega)
  have hsz := strOfNums_size l
  have H := Lib.hid h
  have K := Lib.hid (Kept.refl (· = r) w)
  have lb := h.lb
  have t1 : ¬(most : Int) ≤ (l.length : Int) := by omega
  clear h
  generalize hs : strOfNums l = s at c1 hsz
  have HS := Lib.hid hs
  clear hs
  have hone : (strOfNums [v]).size = 1 := strOfNums_size [v]
  have hcv := fun k => run_convert_bytes_arg (P := Try.prog) (w := (w.drewN k).alloc (.cells #[.int .u8 v] 5)) 44 5 Try.underlying44 Try.underlying5 w.heap.size 0 1 1 [v] rfl (fun i hi => by
    have hi0 : i = 0 := by simpa using hi
    subst hi0
    exact World.cell?_alloc_new (w.drewN k) _ _ 0) 9 Try.underlying9
  have t2 : ¬9223372036854775807 < l.length + 1 := by omega
  have ca : ∀ k o, ((w.drewN k).alloc o).cell? ⟨r, 1, none⟩ = some (.string s) := fun k o => (World.cell?_alloc_lt (w.drewN k) o ⟨r, 1, none⟩ lb).trans c1
  have fa : ∀ k o, ((w.drewN k).alloc o).frozen? ⟨r, 1, none⟩ = false := fun k o => (World.frozen?_of_block (w := w) (a := ⟨r, 1, none⟩) (Below.heap_alloc (w.drewN k) _ _ lb)).trans f1
  generalize hsv : strOfNums [v] = sv at hone hcv
  have HV := Lib.hid hsv
  clear hsv
  go_enter Try.func16, Try.ntmps16
  go_wp2_with fail
  go_quiet (fail)
  go_wp2_with fail
  go_region
  all_goals
    go_wp2
    go_ret
    refine ⟨rfl, ?_, ?_⟩
    · have e : s ++ sv = strOfNums (l ++ [v]) := by rw [strOfNums_append, HS.out, HV.out]
      first
        | exact ((H.out.drewN _).alloc _).setKept _ _ e
        | exact (((H.out.drewN _).setKept _ _ e).alloc _)
        | exact (((H.out.setKept _ _ e).alloc _).drewN _)
    · first
        | exact ((K.out.drewN _).alloc _).setIn
        | exact ((K.out.drewN _).setIn).alloc _
        | exact ((K.out.setIn).alloc _).drewN _

set_option maxHeartbeats 400000 in
theorem rbegin_fits (r most : Nat) (l : List Int) (on : Bool) (s : ByteArray) (w : World) (h : Rcp w r most l on) (hs : s.size ≤ most) (hm : most ≤ 65536) :
    Calls Try.prog 15 #[.pointer (some ⟨r, 0, none⟩), .string s] w fun e w' => e = .returned (.int .i64 0) ∧ Rcp w' r most (bl s) true ∧ Kept (· = r) w w' := by
  have c0 := h.c0
  have c1 := h.c1
  have c2 := h.c2
  have f1 := h.fr 1 (by omega)
  have f2 := h.fr 2 (by omega)
  have H := Lib.hid h
  have K := Lib.hid (Kept.refl (· = r) w)
  have t1 : ¬(most : Int) < (s.size : Int) := by omega
  clear h
  go_enter Try.func15, Try.ntmps15
  go_wp2
  go_ret
  exact ⟨rfl, (H.out.setOn true).setKept (bl s) s (strOfNums_bl s).symm, (K.out.setIn).setIn⟩
set_option maxHeartbeats 400000 in
theorem rbegin_over (r most : Nat) (l : List Int) (on : Bool) (s : ByteArray) (w : World) (h : Rcp w r most l on) (hs : most < s.size) (hs2 : s.size ≤ 1000000) :
    Calls Try.prog 15 #[.pointer (some ⟨r, 0, none⟩), .string s] w fun e w' => e = .returned (.int .i64 11) ∧ Rcp w' r most ((bl s).take most) false ∧ Kept (· = r) w w' := by
  have c0 := h.c0
  have c1 := h.c1
  have c2 := h.c2
  have f1 := h.fr 1 (by omega)
  have f2 := h.fr 2 (by omega)
  have H := Lib.hid h
  have K := Lib.hid (Kept.refl (· = r) w)
  have t1 : (most : Int) < (s.size : Int) := by omega
  have hms : most ≤ s.size := by omega
  clear h
  go_enter Try.func15, Try.ntmps15
  go_wp2
  go_ret
  exact ⟨rfl, ((H.out.setOn true).setKept ((bl s).take most) _ (strOfNums_take s most).symm).setOn false, ((K.out.setIn).setIn).setIn⟩

theorem rnew_c (d : Int) (w : World) :
    Calls Try.prog 14 #[.int .i64 d] w fun e w' => e = .returned (.pointer (some ⟨w.heap.size, 0, none⟩)) ∧ Rcp w' w.heap.size (clamp d) [] false ∧ Kept (fun _ => False) w w' := by
  have mk : ∀ m : Nat, Rcp (w.alloc (.cells #[.int .i64 m, .string ⟨#[]⟩, .bool false] 41)) w.heap.size m [] false := fun m =>
    ⟨World.cell?_alloc_new _ _ _ _, World.cell?_alloc_new _ _ _ _, World.cell?_alloc_new _ _ _ _, fun j hj => by simp, by simp⟩
  rcases Int.lt_or_le d 0 with h | h
  · go_enter Try.func14, Try.ntmps14
    go_wp2
    go_ret
    refine ⟨rfl, ?_, (Kept.refl _ w).alloc _⟩
    have e : clamp d = 0 := by unfold clamp; rw [if_pos h]
    rw [e]
    exact mk 0
  · rcases Int.lt_or_le 65536 d with h2 | h2
    · have h3 : ¬d < 65536 := by omega
      go_enter Try.func14, Try.ntmps14
      go_wp2
      go_ret
      refine ⟨rfl, ?_, (Kept.refl _ w).alloc _⟩
      have e : clamp d = 65536 := by unfold clamp; rw [if_neg (by omega), if_pos h2]
      rw [e]
      exact mk 65536
    · obtain ⟨m, rfl⟩ : ∃ m : Nat, d = m := ⟨d.toNat, by omega⟩
      go_enter Try.func14, Try.ntmps14
      go_wp2
      go_ret
      refine ⟨rfl, ?_, (Kept.refl _ w).alloc _⟩
      have e : clamp m = m := by unfold clamp; rw [if_neg (by omega), if_neg (by omega)]; omega
      rw [e]
      exact mk m

/-! ### the pure steps: what is kept, whether it is on -/
abbrev CS := List Int × Bool
def cPush (most : Nat) (s : CS) (v : Int) : Int × CS := if s.2 = false then (0, s) else if most ≤ s.1.length then (11, (s.1, false)) else (0, (s.1 ++ [v], true))
def cBegin (most : Nat) (s : ByteArray) : Int × CS := if most < s.size then (11, ((bl s).take most, false)) else (0, (bl s, true))
theorem push_p (b g most : Nat) (s : CS) (v : Int) (w : World) (h : Cap w b g s.1 s.2 most) :
    Calls Try.prog 10 #[.pointer (some ⟨b, 0, none⟩), .int .u8 v] w fun e w' => e = .returned (.int .i64 (cPush most s v).1) ∧ Cap w' b g (cPush most s v).2.1 (cPush most s v).2.2 most ∧ Kept (fun k => k = b ∨ k = g) w w' := by
  obtain ⟨l, on⟩ := s
  simp only at h
  unfold cPush
  cases on with
  | false =>
    rw [if_pos rfl]
    refine (push_off b g most l v w h).mono ?_
    rintro e w' ⟨rfl, rfl⟩
    exact ⟨rfl, h, Kept.refl _ _⟩
  | true =>
    rw [if_neg (by simp)]
    have hlen := h.len
    by_cases hl : most ≤ l.length
    · rw [if_pos hl]
      obtain rfl : most = l.length := by omega
      exact (push_full b g l v w h).mono fun e w' ⟨he, hs, hk⟩ => ⟨he, hs, hk.mono (fun _ h => .inl h)⟩
    · rw [if_neg hl]
      exact (push_ok b g most l v w h (by omega)).mono fun e w' ⟨he, hs, hk⟩ => ⟨he, hs, hk⟩
theorem rpush_p (r most : Nat) (s : CS) (v : Int) (w : World) (h : Rcp w r most s.1 s.2) (hl : s.1.length ≤ most) (hm : most ≤ 65536) :
    Calls Try.prog 16 #[.pointer (some ⟨r, 0, none⟩), .int .u8 v] w fun e w' => e = .returned (.int .i64 (cPush most s v).1) ∧ Rcp w' r most (cPush most s v).2.1 (cPush most s v).2.2 ∧ Kept (· = r) w w' := by
  obtain ⟨l, on⟩ := s
  simp only at h hl
  unfold cPush
  cases on with
  | false =>
    rw [if_pos rfl]
    exact rpush_off r most l v w h
  | true =>
    rw [if_neg (by simp)]
    by_cases hl2 : most ≤ l.length
    · rw [if_pos hl2]
      exact rpush_full r most l v w h hl2 (by omega)
    · rw [if_neg hl2]
      exact rpush_ok r most l v w h (by omega) (by omega)
theorem begin_p (b g most : Nat) (s : CS) (t : ByteArray) (w : World) (h : Cap w b g s.1 s.2 most) :
    Calls Try.prog 9 #[.pointer (some ⟨b, 0, none⟩), .string t] w fun e w' => e = .returned (.int .i64 (cBegin most t).1) ∧ Cap w' b g (cBegin most t).2.1 (cBegin most t).2.2 most ∧ Kept (fun k => k = b ∨ k = g) w w' := by
  unfold cBegin
  by_cases hl : most < t.size
  · rw [if_pos hl]
    exact begin_over b g most s.1 s.2 t w h hl
  · rw [if_neg hl]
    exact begin_fits b g most s.1 s.2 t w h (by omega)
theorem rbegin_p (r most : Nat) (s : CS) (t : ByteArray) (w : World) (h : Rcp w r most s.1 s.2) (hm : most ≤ 65536) (ht : t.size ≤ 1000000) :
    Calls Try.prog 15 #[.pointer (some ⟨r, 0, none⟩), .string t] w fun e w' => e = .returned (.int .i64 (cBegin most t).1) ∧ Rcp w' r most (cBegin most t).2.1 (cBegin most t).2.2 ∧ Kept (· = r) w w' := by
  unfold cBegin
  by_cases hl : most < t.size
  · rw [if_pos hl]
    exact rbegin_over r most s.1 s.2 t w h hl ht
  · rw [if_neg hl]
    exact rbegin_fits r most s.1 s.2 t w h (by omega) hm
end Go.Proofs.Ytgnmianhbbchgaa.Cref
