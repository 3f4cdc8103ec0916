/- Two rows of numbers are compared. -/
import Derived.Test.YtgloehelfdmmaaaGet
namespace Go.Proofs.Ytgloehelfdmmaaa.Oid
set_option linter.unusedVariables false
open Go.RowKit

theorem lists_eq (l1 l2 : List Nat) (hl : l1.length = l2.length) (h : ∀ j, j < l1.length → l1.getD j 0 = l2.getD j 0) : l1 = l2 := by
  apply List.ext_getElem hl
  intro i h1 h2
  have := h i h1
  simpa [List.getD, h1, h2] using this
set_option maxHeartbeats 1000000 in
theorem same_c (A A2 : Option Addr) (l1 l2 : List Nat) (c1 c2 : Nat) (w : World) (h1 : Arcs w A l1 c1) (h2 : Arcs w A2 l2 c2) (hb1 : l1.length ≤ 9000) (hb2 : l2.length ≤ 9000) :
    Calls Try.prog 17 #[.slice A l1.length c1, .slice A2 l2.length c2] w fun e w' => e = .returned (.bool (decide (l1 = l2))) ∧ ∃ n, w' = w.drewN n := by
  by_cases hl : l1.length = l2.length
  · obtain ⟨n, hn⟩ : ∃ n, n = l1.length := ⟨_, rfl⟩
    rw [← hl, ← hn]
    have HN := Lib.hid hn
    have HL := Lib.hid hl
    have hb : n ≤ 9000 := by omega
    have HA1 := Lib.hid h1
    have HA2 := Lib.hid h2
    obtain ⟨r, hr⟩ : ∃ r, r = decide (l1 = l2) := ⟨_, rfl⟩
    rw [← hr]
    have HR := Lib.hid hr
    clear hr hn hl h1 h2 hb1 hb2
    have HP : Hid (0 < n → (∃ g o, A = some ⟨g, o, none⟩ ∧ ∀ i, i < n → w.cell? ⟨g, o + i, none⟩ = some (.int .u64 ((l1.getD i 0 : Nat) : Int))) ∧ (∃ g o, A2 = some ⟨g, o, none⟩ ∧ ∀ i, i < n → w.cell? ⟨g, o + i, none⟩ = some (.int .u64 ((l2.getD i 0 : Nat) : Int)))) := by
      intro h
      obtain ⟨g, o, e1, _, e2⟩ := HA1.out.plain (by have := HN.out; omega)
      obtain ⟨g', o', e3, _, e4⟩ := HA2.out.plain (by have := HN.out; have := HL.out; omega)
      exact ⟨⟨g, o, e1, fun i hi => e2 i (by have := HN.out; omega)⟩, ⟨g', o', e3, fun i hi => e4 i (by have := HN.out; have := HL.out; omega)⟩⟩
    have t0 : ((n : Int) != (n : Int)) = false := by simp
    go_enter Try.func17, Try.ntmps17
    go_wp2_with fail
    go_loopw [5] (fun i wr => ∃ k m : Nat, k ≤ n ∧ i = .int .i64 k ∧ (∀ j, j < k → l1.getD j 0 = l2.getD j 0) ∧ wr = w.drewN m) (fun i _ => n - (intOf i).toNat)
    case atStart => exact ⟨0, 0, by omega, rfl, fun j hj => by omega, rfl⟩
    case round =>
      obtain ⟨k, m, hk, rfl, hs, rfl⟩ := hrel
      have HS := Lib.hid hs
      clear hs
      by_cases hlt : k < n
      · have t1 : (k : Int) < (n : Int) := by omega
        obtain ⟨⟨g, o, rfl, e1⟩, ⟨g', o', rfl, e2⟩⟩ := HP.out (by omega)
        have d1 : w.cell? ⟨g, o + k, none⟩ = some (.int .u64 ((l1.getD k 0 : Nat) : Int)) := e1 k hlt
        have d2 : w.cell? ⟨g', o' + k, none⟩ = some (.int .u64 ((l2.getD k 0 : Nat) : Int)) := e2 k hlt
        clear e1 e2
        by_cases he : l1.getD k 0 = l2.getD k 0
        · have HE := Lib.hid he
          rw [← he] at d2
          clear he
          generalize l1.getD k 0 = x at d1 d2
          go_wp2_with fail
          go_quiet (fail)
          go_wp2_with fail
          go_roundw
          case rel => exact ⟨k + 1, _, by omega, by go_num, fun j hj => by
            rcases Nat.lt_or_ge j k with h | h
            · exact HS.out j h
            · obtain rfl : j = k := by omega
              exact HE.out, by first | rfl | (simp only [World.drewN_drewN]; rfl)⟩
          case measure => simp [intOf]; omega
        · have hR : r = false := by
            rw [HR.out]
            exact decide_eq_false (fun h => he (by rw [h]))
          subst hR
          generalize l1.getD k 0 = x at d1 he
          generalize l2.getD k 0 = y at d2 he
          have hne : ((x : Int) != (y : Int)) = true := by simp; omega
          have HE := Lib.hid he
          clear he
          go_wp2_with fail
          go_quiet (fail)
          go_wp2_with fail
          go_ret
          exact ⟨rfl, _, by first | rfl | (simp only [World.drewN_drewN]; rfl)⟩
      · obtain rfl : k = n := by omega
        have t1 : ¬(k : Int) < (k : Int) := by omega
        have hR : r = true := by
          rw [HR.out]
          exact decide_eq_true (lists_eq l1 l2 HL.out (by rw [← HN.out]; exact HS.out))
        subst hR
        go_wp2_with fail
        go_ret
        exact ⟨rfl, _, rfl⟩
  · have hne : ((l1.length : Int) != (l2.length : Int)) = true := by simp; omega
    rw [show decide (l1 = l2) = false from decide_eq_false (fun h => hl (by rw [h]))]
    clear h1 h2 hl
    generalize l1.length = a at *
    generalize l2.length = b at *
    go_enter Try.func17, Try.ntmps17
    go_wp2_with fail
    go_ret
    exact ⟨rfl, 0, rfl⟩
/-- Put, whatever the arcs are -/
def PutPost (r : Option (List Int)) (w : World) (e : Ending) (w' : World) : Prop :=
  (match r with
    | some b => e = .returned (.tuple #[.string (strOfNums b), .bool true])
    | none => e = .returned (.tuple #[.string ⟨#[]⟩, .bool false])) ∧ Kept (fun i => w.heap.size ≤ i) w w'
theorem put_c (A : Option Addr) (l : List Nat) (cap : Nat) (w : World) (h : Arcs w A l cap) (hl : l.length ≤ 1000) : Calls Try.prog 13 #[.slice A l.length cap] w (PutPost (putS l) w) := by
  by_cases h2 : l.length < 2
  · rw [put_short l h2]
    exact put_short_c A l.length cap w h2
  · obtain ⟨g, o, rfl, hg, hc⟩ := h.plain (by omega)
    obtain ⟨x, y, t, rfl⟩ : ∃ x y t, l = x :: y :: t := by
      match l, h2 with
      | x :: y :: t, _ => exact ⟨x, y, t, rfl⟩
      | [x], h => exact absurd (by simp) h
      | [], h => exact absurd (by simp) h
    · have c0 : w.cell? ⟨g, o, none⟩ = some (.int .u64 (x : Int)) := hc 0 (by simp)
      have c1 : w.cell? ⟨g, o + 1, none⟩ = some (.int .u64 (y : Int)) := hc 1 (by simp)
      have hx := h.small x (by simp)
      have hy := h.small y (by simp)
      rw [putS]
      split
      · next hn =>
        refine put_no_c g o _ cap x y w (by simp) (by omega) c0 c1 ?_
        omega
      · next hn =>
        refine put_ok_c g o cap _ x y t w hg h.most rfl h.le (by simp at hl; omega) c0 c1 (fun i hi => ?_) (fun n hn => h.small n (by simp [hn])) (by omega)
        have := hc (i + 2) (by simp; omega)
        rw [show o + 2 + i = o + (i + 2) from by omega]
        simpa using this
end Go.Proofs.Ytgloehelfdmmaaa.Oid
