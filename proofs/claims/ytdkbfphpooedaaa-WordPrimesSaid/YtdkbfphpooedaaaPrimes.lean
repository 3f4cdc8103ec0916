/- The document's Prime below ten thousand, and Primes for every number. -/
import Derived.Test.YtdkbfphpooedaaaRoot
namespace Go.Proofs.Ytdkbfphpooedaaa.Word
set_option linter.unusedVariables false
open Go.RowKit

/-- Numbers that a slice holds. -/
structure Arcs (w : World) (A : Option Addr) (l : List Nat) (cap : Nat) : Prop where
  le : l.length ≤ cap
  most : cap ≤ 9223372036854775807
  at_ : (A = none ∧ l = [] ∧ cap = 0) ∨ ∃ a, A = some a ∧ ∀ i, i < l.length → w.cell? (a.add i) = some (.int .u64 ((l.getD i 0 : Nat) : Int))
  small : ∀ n ∈ l, n < 18446744073709551616
theorem Arcs.keep {S : Nat → Prop} {w w' : World} {A : Option Addr} {l : List Nat} {cap : Nat} (h : Arcs w A l cap) (k : Kept S w w') (hS : ∀ i, S i → w.heap.size ≤ i) : Arcs w' A l cap := by
  refine ⟨h.le, h.most, h.at_.imp id (fun ⟨a, ha, hc⟩ => ⟨a, ha, fun j hj => ?_⟩), h.small⟩
  have h1 := hc j hj
  have hlt : (a.add j).block < w.heap.size := World.block_lt_of_cell? w _ h1
  rw [World.cell?_of_block (w := w) (k.block _ hlt (fun e => by have := hS _ e; omega))]
  exact h1
theorem Arcs.plain {w : World} {A : Option Addr} {l : List Nat} {cap : Nat} (h : Arcs w A l cap) (hp : 0 < l.length) :
    ∃ g o, A = some ⟨g, o, none⟩ ∧ g < w.heap.size ∧ ∀ i, i < l.length → w.cell? ⟨g, o + i, none⟩ = some (.int .u64 ((l.getD i 0 : Nat) : Int)) := by
  rcases h.at_ with ⟨_, rfl, _⟩ | ⟨⟨g, o, sp⟩, rfl, hc⟩
  · simp at hp
  · have h0 := hc 0 hp
    have hsp : sp = none := by simpa [Addr.add] using World.cell?_spot h0
    subst hsp
    refine ⟨g, o, rfl, ?_, fun i hi => ?_⟩
    · have := World.block_lt_of_cell? w _ h0
      simpa [Addr.add] using this
    · have := hc i hi
      rw [add_plain] at this
      exact this
/-- numbers in a row of the call's own, or none -/
structure Ns (w : World) (base : Nat) (v : Value) (l : List Nat) : Prop where
  own : w.ownsRow base 22 1 v l.length (l.map fun n : Nat => Value.int .u64 (n : Int))
  nn : v = .slice none 0 0 → l = []
theorem Ns.old {S : Nat → Prop} {w w' : World} {base : Nat} {v : Value} {l : List Nat} (h : Ns w base v l) (k : Kept S w w') (hS : ∀ i, S i → w.heap.size ≤ i) : Ns w' base v l := by
  obtain ⟨⟨h1, h2⟩, hn⟩ := h
  refine ⟨⟨h1, h2.imp id ?_⟩, hn⟩
  rintro ⟨g, cap, cur, hv, hb, hg, hr⟩
  have hlt : g < w.heap.size := (Array.getElem?_eq_some_iff.1 hg).1
  exact ⟨g, cap, cur, hv, hb, (k.block g hlt (fun hs => by have := hS g hs; omega)).trans hg, hr⟩
theorem Ns.none_ (w : World) (base : Nat) : Ns w base (.slice none 0 0) [] := ⟨⟨by simp, .inl ⟨rfl, rfl⟩⟩, fun _ => rfl⟩
theorem Ns.arcs {w : World} {base : Nat} {v : Value} {l : List Nat} (h : Ns w base v l) (hs : ∀ n ∈ l, n < 18446744073709551616) : ∃ A cap, v = .slice A l.length cap ∧ Arcs w A l cap := by
  rcases h.own.2 with ⟨rfl, h0⟩ | ⟨g, cap, cur, rfl, hb, hg, hn, hm, hsz, ht⟩
  · obtain rfl := h.nn rfl
    exact ⟨none, 0, rfl, by simp, by omega, .inl ⟨rfl, rfl, rfl⟩, by simp⟩
  · refine ⟨_, cap, rfl, hn, by unfold maxLen at hm; omega, .inr ⟨_, rfl, fun i hi => ?_⟩, hs⟩
    have e : cur[i]? = some (.int .u64 ((l.getD i 0 : Nat) : Int)) := by
      have e1 : (cur.toList.take (l.length * 1))[i]? = (l.map fun n : Nat => Value.int .u64 (n : Int))[i]? := by rw [ht]
      rw [List.getElem?_take_of_lt (by omega), List.getElem?_map, Array.getElem?_toList] at e1
      rw [e1]
      simp [List.getD, List.getElem?_eq_getElem hi]
    rw [add_plain, Nat.zero_add]
    unfold World.cell?
    rw [hg]
    simpa using e
theorem Ns.lower {w : World} {base b2 : Nat} {v : Value} {l : List Nat} (h : Ns w base v l) (hb : b2 ≤ base) : Ns w b2 v l := by
  obtain ⟨⟨h1, h2⟩, hn⟩ := h
  refine ⟨⟨h1, h2.imp id ?_⟩, hn⟩
  rintro ⟨g, cap, cur, hv, hb2, hr⟩
  exact ⟨g, cap, cur, hv, Nat.le_trans hb hb2, hr⟩
theorem Ns.below {S : Nat → Prop} {w w' : World} {base : Nat} {v : Value} {l : List Nat} (h : Ns w base v l) (k : Kept S w w') (hS : ∀ i, S i → i < base ∨ w.heap.size ≤ i) : Ns w' base v l := by
  obtain ⟨⟨h1, h2⟩, hn⟩ := h
  refine ⟨⟨h1, h2.imp id ?_⟩, hn⟩
  rintro ⟨g, cap, cur, hv, hb, hg, hr⟩
  have hlt : g < w.heap.size := (Array.getElem?_eq_some_iff.1 hg).1
  exact ⟨g, cap, cur, hv, hb, (k.block g hlt (fun hs => by have := hS g hs; omega)).trans hg, hr⟩
theorem Ns.form {w : World} {base : Nat} {v : Value} {l : List Nat} (h : Ns w base v l) : ∃ A cap, v = .slice A l.length cap := by
  rcases h.own.2 with ⟨rfl, h0⟩ | ⟨g, cap, cur, rfl, _⟩
  · obtain rfl := h.nn rfl
    exact ⟨none, 0, rfl⟩
  · exact ⟨_, cap, rfl⟩
theorem ns_next {w1 : World} {base : Nat} {v' : Value} {l : List Nat} {n : Nat} (h : w1.ownsRow base 22 1 v' (l.length + 1) ((l.map fun n : Nat => Value.int .u64 (n : Int)) ++ [Value.int .u64 (n : Int)])) (hn : v' ≠ .slice none 0 0) : Ns w1 base v' (l ++ [n]) :=
  ⟨by simpa using h, fun e => absurd e hn⟩
set_option maxHeartbeats 1000000 in
theorem prime_c (n : Nat) (hn : n < 10000) (w : World) : Calls Try.prog 22 #[.int .u64 n] w fun e w' => e = .returned (.bool (isP n)) ∧ w' = w := by
  have HI := Lib.hid (isP_iff n hn)
  obtain ⟨B, hB⟩ : ∃ B, B = isP n := ⟨_, rfl⟩
  rw [← hB] at HI ⊢
  clear hB
  by_cases h2 : n < 2
  · have h2' : (n : Int) < 2 := by omega
    have hb : B = false := by
      rw [← Bool.not_eq_true]
      intro h
      have := (HI.out.1 h).1
      omega
    subst hb
    go_enter Try.func22, Try.ntmps22
    go_wp2_with fail
    go_ret
    exact ⟨rfl, rfl⟩
  · have h2' : ¬(n : Int) < 2 := by omega
    go_enter Try.func22, Try.ntmps22
    go_wp2_with fail
    go_loopw [3] (fun d wr => ∃ D : Nat, d = .int .u64 D ∧ 2 ≤ D ∧ D ≤ 100 ∧ (∀ e, 2 ≤ e → e < D → n % e ≠ 0) ∧ wr = w) (fun d _ => 100 - (intOf d).toNat)
    case atStart => exact ⟨2, rfl, by omega, by omega, fun e h1 h2 => by omega, rfl⟩
    case round =>
      obtain ⟨D, rfl, hD2, hD3, hf, rfl⟩ := hrel
      have HF := Lib.hid hf
      clear hf
      obtain ⟨Z, hZ⟩ : ∃ Z, Z = D * D := ⟨_, rfl⟩
      have hZ2 : Z ≤ 10000 := by rw [hZ]; exact Nat.mul_le_mul hD3 hD3
      have hZ3 : Z ≤ n → D < 100 := fun h => by
        apply Decidable.byContradiction
        intro h4
        have := Nat.mul_le_mul (show 100 ≤ D by omega) (show 100 ≤ D by omega)
        omega
      have hw : IntKind.u64.wrap ((D : Int) * (D : Int)) = (Z : Int) := by
        rw [← Int.natCast_mul, ← hZ]
        exact Mul64.wrapN _ (by omega)
      have HZ := Lib.hid hZ
      have HZ3 := Lib.hid hZ3
      clear hZ hZ3
      by_cases hc : Z ≤ n
      · have hc' : (Z : Int) ≤ (n : Int) := by omega
        have hD0 : (0 : Int) < (D : Int) := by omega
        have hD4 := HZ3.out hc
        obtain ⟨R, hR⟩ : ∃ R : Int, (n : Int) % (D : Int) = R := ⟨_, rfl⟩
        have hRn : ((n % D : Nat) : Int) = R := by rw [← hR]; simp
        have hRl : n % D < D := Nat.mod_lt _ (by omega)
        have hR2 : IntKind.u64.wrap R = R := by rw [← hRn]; exact Mul64.wrapN _ (by omega)
        have hR3 : R = 0 ∨ ((R == 0) = false ∧ n % D ≠ 0) := by
          by_cases h0 : R = 0
          · exact .inl h0
          · refine .inr ⟨by simpa using h0, fun h => h0 (by rw [← hRn, h]; rfl)⟩
        have HRn := Lib.hid hRn
        clear hRn hRl
        rcases hR3 with rfl | ⟨hR3, hR4⟩
        · have hb : B = false := by
            rw [← Bool.not_eq_true]
            intro h
            have h5 := (HI.out.1 h).2 D hD2 (by rw [← HZ.out]; exact hc)
            exact h5 (Int.ofNat.inj HRn.out)
          subst hb
          go_wp2_with fail
          go_ret
          exact ⟨rfl, rfl⟩
        · have HR4 := Lib.hid hR4
          clear hR4
          go_wp2_with fail
          go_roundw
          case rel => exact ⟨D + 1, by go_num, by omega, by omega, fun e h1 h2 => by
            by_cases h3 : e = D
            · rw [h3]; exact HR4.out
            · exact HF.out e h1 (by omega), by first | rfl | trivial⟩
          case measure => simp [intOf] <;> omega
      · have hc' : ¬(Z : Int) ≤ (n : Int) := by omega
        have hb : B = true := by
          refine HI.out.2 ⟨by omega, fun e h1 h3 => ?_⟩
          by_cases h4 : e < D
          · exact HF.out e h1 h4
          · have := Nat.mul_le_mul (show D ≤ e by omega) (show D ≤ e by omega)
            have := HZ.out
            omega
        subst hb
        go_wp2_with fail
        go_ret
        exact ⟨rfl, rfl⟩
/-- What Primes leaves. -/
def PrimesPost (n : Int) (w : World) (e : Ending) (w' : World) : Prop :=
  ∃ v X, e = .returned v ∧ X ≤ 7920 ∧ ((ps X).length : Int) = min (max n 0) 1000 ∧ Ns w' w.heap.size v (ps X) ∧ Kept (fun i => w.heap.size ≤ i) w w'
set_option maxRecDepth 10000 in
set_option maxHeartbeats 2000000 in
theorem primes_a (n m : Int) (hcase : n ≤ 1000 ∧ m = n) (w : World) : Calls Try.prog 21 #[.int .i64 n] w (PrimesPost n w) := by
  obtain ⟨i0, hi0, hz0, hz1, hz2⟩ := info_parts info22
  have hpost : ∀ X v w', X ≤ 7920 → ¬((ps X).length : Int) < m → ((ps X).length : Int) ≤ max m 0 → Ns w' w.heap.size v (ps X) → Kept (fun i => w.heap.size ≤ i) w w' → PrimesPost n w (.returned v) w' := fun X v w' h1 h2 h3 h4 h5 => ⟨v, X, rfl, h1, by omega, h4, h5⟩
  have HPOST := Lib.hid hpost
  clear hpost
  obtain ⟨Q, hQ⟩ : ∃ Q, Q = PrimesPost n w := ⟨_, rfl⟩
  rw [← hQ] at HPOST ⊢
  clear hQ
  obtain ⟨h64, rfl⟩ := hcase
  have HM := Lib.hid h64
  go_enter Try.func21, Try.ntmps21
  go_wp2_with fail
  go_loopw [3, 4] (fun v x wr => ∃ X : Nat, x = .int .u64 X ∧ 2 ≤ X ∧ X ≤ 7920 ∧ Ns wr w.heap.size v (ps X) ∧ ((ps X).length : Int) ≤ max m 0 ∧ w.heap.size ≤ wr.heap.size ∧ Kept (fun i => w.heap.size ≤ i) w wr) (fun _ x _ => 7920 - (intOf x).toNat)
  case atStart => exact ⟨2, rfl, by omega, by omega, by rw [ps_two]; exact Ns.none_ _ _, by rw [ps_two]; simp; omega, Nat.le_refl _, Kept.refl _ _⟩
  case round =>
    obtain ⟨X, rfl, hX2, hX3, B, hlen, hz, K⟩ := hrel
    have HB := Lib.hid B
    have HK := Lib.hid K
    obtain ⟨A, cap, rfl⟩ := B.form
    have HA : Hid (∀ j, j < (ps X).length → ∃ g, A = some ⟨g, 0, none⟩ ∧ wr.cell? ⟨g, j, none⟩ = some (.int .u64 (((ps X).getD j 0 : Nat) : Int))) := fun j hj => by
      obtain ⟨A', cap', e, HA⟩ := B.arcs (fun p hp => by have := (ps_mem.1 hp).1; omega)
      injection e with e1 e2 e3
      subst e1
      obtain ⟨g, o, rfl, _, hc⟩ := HA.plain (by omega)
      have ho : o = 0 := by
        rcases B.own.2 with ⟨h0, _⟩ | ⟨g', cap2, cur, h0, _⟩
        · injection h0 with h1
          exact absurd h1 (by simp)
        · injection h0 with h1
          injection h1 with h1
          injection h1 with h1 h2
      subst ho
      exact ⟨g, rfl, by have := hc j hj; rw [Nat.zero_add] at this; exact this⟩
    have hL1 : (ps X).length ≤ 1000 := by
      have := ps_len_mono hX3
      rw [ps_all] at this
      exact this
    have hL2 : X = 7920 → (ps X).length = 1000 := fun h => by rw [h]; exact ps_all
    have HL2 := Lib.hid hL2
    have HTR := Lib.hid (fun j => tried (X := X) (j := j) (by omega) hX2)
    have HFL := Lib.hid (fun j => fell (X := X) (j := j) (by omega))
    have HIX := Lib.hid (fun j => ps_idx (X := X) (j := j))
    have HPO := Lib.hid (HPOST.out X (.slice A (ps X).length cap) wr hX3)
    clear B K hL2
    obtain ⟨l, hl⟩ : ∃ l, l = ps X := ⟨_, rfl⟩
    rw [← hl] at HB HA hlen hL1 HL2 HTR HFL HIX HPO ⊢
    have HLQ := Lib.hid hl
    clear hl
    by_cases h0 : (l.length : Int) < m
    · have h1 : (l.length : Int) < 1000 := by have := HM.out; omega
      have hX4 : X < 7920 := by have := HL2.out; omega
      go_wp2_with fail
      go_loopw [5, 17] (fun b i w2 => ∃ j : Nat, b = .bool true ∧ i = .int .i64 j ∧ j ≤ l.length ∧ (∀ t, t < j → X % l.getD t 0 ≠ 0) ∧ w2 = wr) (fun _ i _ => l.length - (intOf i).toNat)
      case atStart => exact ⟨0, rfl, rfl, by omega, fun t h => by omega, rfl⟩
      case round =>
        obtain ⟨j, rfl, rfl, hj, hf, rfl⟩ := hrel
        have HF := Lib.hid hf
        clear hf
        by_cases hlt : j < l.length
        · have t1 : (j : Int) < (l.length : Int) := by omega
          obtain ⟨g, rfl, c0⟩ := HA.out j hlt
          obtain ⟨_, hq1, hq2⟩ := HIX.out j hlt
          have hq1 := isP_two hq1
          have ht2 : X < l.getD j 0 * l.getD j 0 → isP X = true := fun h => HTR.out j HF.out (.inr ⟨hlt, h⟩)
          have hf2 := HFL.out j hlt
          have hn2 : X % l.getD j 0 ≠ 0 → ∀ t, t < j + 1 → X % l.getD t 0 ≠ 0 := fun h t ht => by
            by_cases h3 : t = j
            · rw [h3]; exact h
            · exact HF.out t (by omega)
          generalize l.getD j 0 = q at c0 hq1 hq2 ht2 hf2 hn2
          obtain ⟨Z, hZ⟩ : ∃ Z, Z = q * q := ⟨_, rfl⟩
          rw [← hZ] at ht2 hf2
          have hZ2 : Z ≤ 62726400 := by rw [hZ]; exact Nat.mul_le_mul (show q ≤ 7920 by omega) (show q ≤ 7920 by omega)
          have hw : IntKind.u64.wrap ((q : Int) * (q : Int)) = (Z : Int) := by
            rw [← Int.natCast_mul, ← hZ]
            exact Mul64.wrapN _ (by omega)
          have HT2 := Lib.hid ht2
          have HF2 := Lib.hid hf2
          have HN2 := Lib.hid hn2
          clear hZ ht2 hf2 hn2
          by_cases hc : X < Z
          · have hc' : (X : Int) < (Z : Int) := by omega
            have HT := Lib.hid (HT2.out hc)
            go_wp2_with (at_builtin; refine wpList_append_own _ rfl (.tmp 32) (.tmp 34) 39 rfl w.heap.size 22 i0 (.int .u64 0) 1 8 Try.underlying39 hi0 hz0 hz1 hz2 rfl (by decide) _ _ _ rfl (HB.out.own.alloc _) ⟨wr.heap.size, 0, none⟩ 1 1 [.int .u64 (X : Int)] rfl rfl ?holea0 ?holeb0 ?holec0 ?holed0 ?holee0 ?_)
            case holea0 =>
              intro j u hj
              match j, hj with
              | 0, hj =>
                simp at hj
                subst hj
                rw [add_plain, Nat.zero_add]
                exact World.cell?_alloc_new _ _ _ _
            case holeb0 => first | rfl | (intro u hu; simp at hu; subst hu; rfl)
            case holec0 => unfold maxLen; omega
            case holed0 => omega
            case holee0 => first | omega | (simp; omega)
            intro v5 w5 ho hg hn5
            have K8 := own_kept (HB.out.own.alloc (.cells #[.int .u64 (X : Int)] 22)) (w := wr) ((Kept.refl _ _).alloc _) hg
            have K9 := Lib.hid (HK.out.trans K8)
            have N5 : Hid (Ns w5 w.heap.size v5 (l ++ [X])) := ns_next ho (fun e => by first | exact hn5 e | exact absurd (hn5.1 e).2 (by simp))
            have hw5 : w.heap.size ≤ w5.heap.size := K9.out.size
            clear ho hg hn5 K8
            go_wp2_with fail
            go_roundw
            case rel => exact ⟨X + 1, by go_num, by omega, by omega, by rw [ps_succ, if_pos HT.out, ← HLQ.out]; exact N5.out, by rw [ps_succ, if_pos HT.out, ← HLQ.out]; simp; omega, hw5, K9.out⟩
            case measure => simp [intOf] <;> omega
          · have hc' : ¬(X : Int) < (Z : Int) := by omega
            have hq0 : (0 : Int) < (q : Int) := by omega
            obtain ⟨R, hR⟩ : ∃ R : Int, (X : Int) % (q : Int) = R := ⟨_, rfl⟩
            have hRn : ((X % q : Nat) : Int) = R := by rw [← hR]; simp
            have hRl : X % q < q := Nat.mod_lt _ (by omega)
            have hR2 : IntKind.u64.wrap R = R := by rw [← hRn]; exact Mul64.wrapN _ (by omega)
            have hR3 : (R = 0 ∧ X % q = 0) ∨ ((R == 0) = false ∧ X % q ≠ 0) := by
              by_cases h0 : R = 0
              · exact .inl ⟨h0, Int.ofNat.inj (hRn.trans h0)⟩
              · refine .inr ⟨by simpa using h0, fun h => h0 (by rw [← hRn, h]; rfl)⟩
            clear hRn hRl
            rcases hR3 with ⟨rfl, hR4⟩ | ⟨hR3, hR4⟩
            · have HT := Lib.hid (HF2.out (by omega) hR4)
              clear hR4
              go_wp2_with fail
              go_roundw
              case rel => exact ⟨X + 1, by go_num, by omega, by omega, by rw [ps_succ, if_neg (by rw [HT.out]; decide), ← HLQ.out]; exact HB.out, by rw [ps_succ, if_neg (by rw [HT.out]; decide), ← HLQ.out]; exact hlen, hz, HK.out⟩
              case measure => simp [intOf] <;> omega
            · have HR4 := Lib.hid hR4
              clear hR4
              go_wp2_with fail
              go_roundw
              case rel => exact ⟨j + 1, rfl, by go_num, by omega, HN2.out HR4.out, by first | rfl | trivial⟩
              case measure => simp [intOf] <;> omega
        · have t1 : ¬(j : Int) < (l.length : Int) := by omega
          have HT := Lib.hid (HTR.out j HF.out (.inl (by omega)))
          go_wp2_with (at_builtin; refine wpList_append_own _ rfl (.tmp 32) (.tmp 34) 39 rfl w.heap.size 22 i0 (.int .u64 0) 1 8 Try.underlying39 hi0 hz0 hz1 hz2 rfl (by decide) _ _ _ rfl (HB.out.own.alloc _) ⟨wr.heap.size, 0, none⟩ 1 1 [.int .u64 (X : Int)] rfl rfl ?holea1 ?holeb1 ?holec1 ?holed1 ?holee1 ?_)
          case holeb1 => first | rfl | (intro u hu; simp at hu; subst hu; rfl)
          case holec1 => unfold maxLen; omega
          case holed1 => omega
          case holee1 => first | omega | (simp; omega)
          intro v5 w5 ho hg hn5
          have K8 := own_kept (HB.out.own.alloc (.cells #[.int .u64 (X : Int)] 22)) (w := wr) ((Kept.refl _ _).alloc _) hg
          have K9 := Lib.hid (HK.out.trans K8)
          have N5 : Hid (Ns w5 w.heap.size v5 (l ++ [X])) := ns_next ho (fun e => by first | exact hn5 e | exact absurd (hn5.1 e).2 (by simp))
          have hw5 : w.heap.size ≤ w5.heap.size := K9.out.size
          clear ho hg hn5 K8
          go_wp2_with fail
          go_roundw
          case rel => exact ⟨X + 1, by go_num, by omega, by omega, by rw [ps_succ, if_pos HT.out, ← HLQ.out]; exact N5.out, by rw [ps_succ, if_pos HT.out, ← HLQ.out]; simp; omega, hw5, K9.out⟩
          case measure => simp [intOf] <;> omega
    · skip
      go_wp2_with fail
      exact HPO.out (by omega) hlen HB.out HK.out
set_option maxRecDepth 10000 in
set_option maxHeartbeats 2000000 in
theorem primes_b (n m : Int) (hcase : 1000 < n ∧ m = 1000) (w : World) : Calls Try.prog 21 #[.int .i64 n] w (PrimesPost n w) := by
  obtain ⟨i0, hi0, hz0, hz1, hz2⟩ := info_parts info22
  have hpost : ∀ X v w', X ≤ 7920 → ¬((ps X).length : Int) < m → ((ps X).length : Int) ≤ max m 0 → Ns w' w.heap.size v (ps X) → Kept (fun i => w.heap.size ≤ i) w w' → PrimesPost n w (.returned v) w' := fun X v w' h1 h2 h3 h4 h5 => ⟨v, X, rfl, h1, by omega, h4, h5⟩
  have HPOST := Lib.hid hpost
  clear hpost
  obtain ⟨Q, hQ⟩ : ∃ Q, Q = PrimesPost n w := ⟨_, rfl⟩
  rw [← hQ] at HPOST ⊢
  clear hQ
  obtain ⟨h64, h65⟩ := hcase
  have HM := Lib.hid h65
  clear h65
  go_enter Try.func21, Try.ntmps21
  go_wp2_with fail
  go_loopw [3, 4] (fun v x wr => ∃ X : Nat, x = .int .u64 X ∧ 2 ≤ X ∧ X ≤ 7920 ∧ Ns wr w.heap.size v (ps X) ∧ ((ps X).length : Int) ≤ max m 0 ∧ w.heap.size ≤ wr.heap.size ∧ Kept (fun i => w.heap.size ≤ i) w wr) (fun _ x _ => 7920 - (intOf x).toNat)
  case atStart => exact ⟨2, rfl, by omega, by omega, by rw [ps_two]; exact Ns.none_ _ _, by rw [ps_two]; simp; omega, Nat.le_refl _, Kept.refl _ _⟩
  case round =>
    obtain ⟨X, rfl, hX2, hX3, B, hlen, hz, K⟩ := hrel
    have HB := Lib.hid B
    have HK := Lib.hid K
    obtain ⟨A, cap, rfl⟩ := B.form
    have HA : Hid (∀ j, j < (ps X).length → ∃ g, A = some ⟨g, 0, none⟩ ∧ wr.cell? ⟨g, j, none⟩ = some (.int .u64 (((ps X).getD j 0 : Nat) : Int))) := fun j hj => by
      obtain ⟨A', cap', e, HA⟩ := B.arcs (fun p hp => by have := (ps_mem.1 hp).1; omega)
      injection e with e1 e2 e3
      subst e1
      obtain ⟨g, o, rfl, _, hc⟩ := HA.plain (by omega)
      have ho : o = 0 := by
        rcases B.own.2 with ⟨h0, _⟩ | ⟨g', cap2, cur, h0, _⟩
        · injection h0 with h1
          exact absurd h1 (by simp)
        · injection h0 with h1
          injection h1 with h1
          injection h1 with h1 h2
      subst ho
      exact ⟨g, rfl, by have := hc j hj; rw [Nat.zero_add] at this; exact this⟩
    have hL1 : (ps X).length ≤ 1000 := by
      have := ps_len_mono hX3
      rw [ps_all] at this
      exact this
    have hL2 : X = 7920 → (ps X).length = 1000 := fun h => by rw [h]; exact ps_all
    have HL2 := Lib.hid hL2
    have HTR := Lib.hid (fun j => tried (X := X) (j := j) (by omega) hX2)
    have HFL := Lib.hid (fun j => fell (X := X) (j := j) (by omega))
    have HIX := Lib.hid (fun j => ps_idx (X := X) (j := j))
    have HPO := Lib.hid (HPOST.out X (.slice A (ps X).length cap) wr hX3)
    clear B K hL2
    obtain ⟨l, hl⟩ : ∃ l, l = ps X := ⟨_, rfl⟩
    rw [← hl] at HB HA hlen hL1 HL2 HTR HFL HIX HPO ⊢
    have HLQ := Lib.hid hl
    clear hl
    by_cases h0 : (l.length : Int) < m
    · have h1 : (l.length : Int) < 1000 := by have := HM.out; omega
      have hX4 : X < 7920 := by have := HL2.out; omega
      go_wp2_with fail
      go_loopw [5, 17] (fun b i w2 => ∃ j : Nat, b = .bool true ∧ i = .int .i64 j ∧ j ≤ l.length ∧ (∀ t, t < j → X % l.getD t 0 ≠ 0) ∧ w2 = wr) (fun _ i _ => l.length - (intOf i).toNat)
      case atStart => exact ⟨0, rfl, rfl, by omega, fun t h => by omega, rfl⟩
      case round =>
        obtain ⟨j, rfl, rfl, hj, hf, rfl⟩ := hrel
        have HF := Lib.hid hf
        clear hf
        by_cases hlt : j < l.length
        · have t1 : (j : Int) < (l.length : Int) := by omega
          obtain ⟨g, rfl, c0⟩ := HA.out j hlt
          obtain ⟨_, hq1, hq2⟩ := HIX.out j hlt
          have hq1 := isP_two hq1
          have ht2 : X < l.getD j 0 * l.getD j 0 → isP X = true := fun h => HTR.out j HF.out (.inr ⟨hlt, h⟩)
          have hf2 := HFL.out j hlt
          have hn2 : X % l.getD j 0 ≠ 0 → ∀ t, t < j + 1 → X % l.getD t 0 ≠ 0 := fun h t ht => by
            by_cases h3 : t = j
            · rw [h3]; exact h
            · exact HF.out t (by omega)
          generalize l.getD j 0 = q at c0 hq1 hq2 ht2 hf2 hn2
          obtain ⟨Z, hZ⟩ : ∃ Z, Z = q * q := ⟨_, rfl⟩
          rw [← hZ] at ht2 hf2
          have hZ2 : Z ≤ 62726400 := by rw [hZ]; exact Nat.mul_le_mul (show q ≤ 7920 by omega) (show q ≤ 7920 by omega)
          have hw : IntKind.u64.wrap ((q : Int) * (q : Int)) = (Z : Int) := by
            rw [← Int.natCast_mul, ← hZ]
            exact Mul64.wrapN _ (by omega)
          have HT2 := Lib.hid ht2
          have HF2 := Lib.hid hf2
          have HN2 := Lib.hid hn2
          clear hZ ht2 hf2 hn2
          by_cases hc : X < Z
          · have hc' : (X : Int) < (Z : Int) := by omega
            have HT := Lib.hid (HT2.out hc)
            go_wp2_with (at_builtin; refine wpList_append_own _ rfl (.tmp 32) (.tmp 34) 39 rfl w.heap.size 22 i0 (.int .u64 0) 1 8 Try.underlying39 hi0 hz0 hz1 hz2 rfl (by decide) _ _ _ rfl (HB.out.own.alloc _) ⟨wr.heap.size, 0, none⟩ 1 1 [.int .u64 (X : Int)] rfl rfl ?holea0 ?holeb0 ?holec0 ?holed0 ?holee0 ?_)
            case holea0 =>
              intro j u hj
              match j, hj with
              | 0, hj =>
                simp at hj
                subst hj
                rw [add_plain, Nat.zero_add]
                exact World.cell?_alloc_new _ _ _ _
            case holeb0 => first | rfl | (intro u hu; simp at hu; subst hu; rfl)
            case holec0 => unfold maxLen; omega
            case holed0 => omega
            case holee0 => first | omega | (simp; omega)
            intro v5 w5 ho hg hn5
            have K8 := own_kept (HB.out.own.alloc (.cells #[.int .u64 (X : Int)] 22)) (w := wr) ((Kept.refl _ _).alloc _) hg
            have K9 := Lib.hid (HK.out.trans K8)
            have N5 : Hid (Ns w5 w.heap.size v5 (l ++ [X])) := ns_next ho (fun e => by first | exact hn5 e | exact absurd (hn5.1 e).2 (by simp))
            have hw5 : w.heap.size ≤ w5.heap.size := K9.out.size
            clear ho hg hn5 K8
            go_wp2_with fail
            go_roundw
            case rel => exact ⟨X + 1, by go_num, by omega, by omega, by rw [ps_succ, if_pos HT.out, ← HLQ.out]; exact N5.out, by rw [ps_succ, if_pos HT.out, ← HLQ.out]; simp; omega, hw5, K9.out⟩
            case measure => simp [intOf] <;> omega
          · have hc' : ¬(X : Int) < (Z : Int) := by omega
            have hq0 : (0 : Int) < (q : Int) := by omega
            obtain ⟨R, hR⟩ : ∃ R : Int, (X : Int) % (q : Int) = R := ⟨_, rfl⟩
            have hRn : ((X % q : Nat) : Int) = R := by rw [← hR]; simp
            have hRl : X % q < q := Nat.mod_lt _ (by omega)
            have hR2 : IntKind.u64.wrap R = R := by rw [← hRn]; exact Mul64.wrapN _ (by omega)
            have hR3 : (R = 0 ∧ X % q = 0) ∨ ((R == 0) = false ∧ X % q ≠ 0) := by
              by_cases h0 : R = 0
              · exact .inl ⟨h0, Int.ofNat.inj (hRn.trans h0)⟩
              · refine .inr ⟨by simpa using h0, fun h => h0 (by rw [← hRn, h]; rfl)⟩
            clear hRn hRl
            rcases hR3 with ⟨rfl, hR4⟩ | ⟨hR3, hR4⟩
            · have HT := Lib.hid (HF2.out (by omega) hR4)
              clear hR4
              go_wp2_with fail
              go_roundw
              case rel => exact ⟨X + 1, by go_num, by omega, by omega, by rw [ps_succ, if_neg (by rw [HT.out]; decide), ← HLQ.out]; exact HB.out, by rw [ps_succ, if_neg (by rw [HT.out]; decide), ← HLQ.out]; exact hlen, hz, HK.out⟩
              case measure => simp [intOf] <;> omega
            · have HR4 := Lib.hid hR4
              clear hR4
              go_wp2_with fail
              go_roundw
              case rel => exact ⟨j + 1, rfl, by go_num, by omega, HN2.out HR4.out, by first | rfl | trivial⟩
              case measure => simp [intOf] <;> omega
        · have t1 : ¬(j : Int) < (l.length : Int) := by omega
          have HT := Lib.hid (HTR.out j HF.out (.inl (by omega)))
          go_wp2_with (at_builtin; refine wpList_append_own _ rfl (.tmp 32) (.tmp 34) 39 rfl w.heap.size 22 i0 (.int .u64 0) 1 8 Try.underlying39 hi0 hz0 hz1 hz2 rfl (by decide) _ _ _ rfl (HB.out.own.alloc _) ⟨wr.heap.size, 0, none⟩ 1 1 [.int .u64 (X : Int)] rfl rfl ?holea1 ?holeb1 ?holec1 ?holed1 ?holee1 ?_)
          case holeb1 => first | rfl | (intro u hu; simp at hu; subst hu; rfl)
          case holec1 => unfold maxLen; omega
          case holed1 => omega
          case holee1 => first | omega | (simp; omega)
          intro v5 w5 ho hg hn5
          have K8 := own_kept (HB.out.own.alloc (.cells #[.int .u64 (X : Int)] 22)) (w := wr) ((Kept.refl _ _).alloc _) hg
          have K9 := Lib.hid (HK.out.trans K8)
          have N5 : Hid (Ns w5 w.heap.size v5 (l ++ [X])) := ns_next ho (fun e => by first | exact hn5 e | exact absurd (hn5.1 e).2 (by simp))
          have hw5 : w.heap.size ≤ w5.heap.size := K9.out.size
          clear ho hg hn5 K8
          go_wp2_with fail
          go_roundw
          case rel => exact ⟨X + 1, by go_num, by omega, by omega, by rw [ps_succ, if_pos HT.out, ← HLQ.out]; exact N5.out, by rw [ps_succ, if_pos HT.out, ← HLQ.out]; simp; omega, hw5, K9.out⟩
          case measure => simp [intOf] <;> omega
    · have h2 : ¬(l.length : Int) < 1000 := by (have := HM.out; omega)
      go_wp2_with fail
      exact HPO.out (by omega) hlen HB.out HK.out
theorem primes_c (n : Int) (w : World) : Calls Try.prog 21 #[.int .i64 n] w (PrimesPost n w) := by
  by_cases h : n ≤ 1000
  · exact primes_a n n ⟨h, rfl⟩ w
  · exact primes_b n 1000 ⟨by omega, rfl⟩ w
end Go.Proofs.Ytdkbfphpooedaaa.Word
