/- Get, for every content. -/
import Derived.Test.YtgloehelfdmmaaaPut
namespace Go.Proofs.Ytgloehelfdmmaaa.Oid
set_option linter.unusedVariables false
open Go.RowKit

/-- the bytes as numbers -/
def bl (s : ByteArray) : List Int := s.data.toList.map fun b => (b.toNat : Int)
theorem bl_length (s : ByteArray) : (bl s).length = s.size := by simp [bl]
theorem bl_drop (s : ByteArray) (k : Nat) (h : k < s.size) : (bl s).drop k = ((s[k]'h).toNat : Int) :: (bl s).drop (k + 1) := by
  rw [List.drop_eq_getElem_cons (by rw [bl_length]; exact h)]
  congr 1
  simp [bl]
  rfl
theorem bl_byte (s : ByteArray) : ∀ b ∈ bl s, Byte b := by
  intro b hb
  simp only [bl, List.mem_map] at hb
  obtain ⟨x, _, rfl⟩ := hb
  have := x.toNat_lt
  constructor <;> omega
theorem byte_at (s : ByteArray) (k : Nat) (h : k < s.size) : Byte ((s[k]'h).toNat : Int) := by
  have := (s[k]'h).toNat_lt
  constructor <;> omega
theorem strOfNums_bl (s : ByteArray) : strOfNums (bl s) = s := by
  unfold strOfNums bl
  rw [List.map_map]
  have e : (fun n : Int => UInt8.ofNat n.toNat) ∘ (fun b : UInt8 => (b.toNat : Int)) = id := by
    funext b
    simp
  rw [e]
  simp
theorem bl_strOfNums (l : List Int) (h : ∀ b ∈ l, Byte b) : bl (strOfNums l) = l := by
  unfold strOfNums bl
  simp only [List.map_map]
  conv => rhs; rw [← List.map_id l]
  apply List.map_congr_left
  intro b hb
  obtain ⟨h1, h2⟩ := h b hb
  simp only [Function.comp, id]
  rw [UInt8.toNat_ofNat']
  omega
theorem and127b (b : Int) (h : Byte b) : bits .and .u8 b 127 = b % 128 := by
  obtain ⟨h0, h1⟩ := h
  obtain ⟨c, rfl⟩ : ∃ c : Nat, b = c := ⟨b.toNat, by omega⟩
  rw [and_all c (by omega)]
  omega
theorem or_low (n : Nat) (b : Int) (hn : n ≤ 144115188075855871) (h : Byte b) : bits .or .u64 ((n : Int) * 128) (b % 128) = ((128 * n + (b % 128).toNat : Nat) : Int) := by
  obtain ⟨h0, h1⟩ := h
  obtain ⟨c, hc⟩ : ∃ c : Nat, b % 128 = c := ⟨(b % 128).toNat, by omega⟩
  rw [hc, show (n : Int) * 128 = ((n * 128 : Nat) : Int) from by omega, u64_or_nat _ _ (by omega) (by omega)]
  have h2 := Nat.shiftLeft_add_eq_or_of_lt (b := c) (i := 7) (by omega) n
  rw [Nat.shiftLeft_eq] at h2
  rw [← h2]
  simp
  omega
/-- numbers in a row of the call's own, or none -/
structure Ns (w : World) (base : Nat) (v : Value) (l : List Nat) : Prop where
  own : w.ownsRow base 40 1 v l.length (l.map fun n : Nat => Value.int .u64 (n : Int))
  nn : v = .slice none 0 0 → l = []
theorem Ns.old {S : Nat → Prop} {w w' : World} {base : Nat} {v : Value} {l : List Nat} (h : Ns w base v l) (k : Kept S w w') (hS : ∀ i, S i → w.heap.size ≤ i) : Ns w' base v l := by
  obtain ⟨⟨h1, h2⟩, hn⟩ := h
  refine ⟨⟨h1, h2.imp id ?_⟩, hn⟩
  rintro ⟨g, cap, cur, hv, hb, hg, hr⟩
  have hlt : g < w.heap.size := (Array.getElem?_eq_some_iff.1 hg).1
  exact ⟨g, cap, cur, hv, hb, (k.block g hlt (fun hs => by have := hS g hs; omega)).trans hg, hr⟩
theorem Ns.none_ (w : World) (base : Nat) : Ns w base (.slice none 0 0) [] := ⟨⟨by simp, .inl ⟨rfl, rfl⟩⟩, fun _ => rfl⟩
theorem Ns.arcs {w : World} {base : Nat} {v : Value} {l : List Nat} (h : Ns w base v l) (hs : ∀ n ∈ l, n < 18446744073709551616) : ∃ A cap, v = .slice A l.length cap ∧ Arcs w A l cap := by
  rcases h.own.2 with ⟨rfl, h0⟩ | ⟨g, cap, cur, rfl, hb, hg, hn, hm, hsz, ht⟩
  · obtain rfl := h.nn rfl
    exact ⟨none, 0, rfl, by simp, by omega, .inl ⟨rfl, rfl, rfl⟩, by simp⟩
  · refine ⟨_, cap, rfl, hn, by unfold maxLen at hm; omega, .inr ⟨_, rfl, fun i hi => ?_⟩, hs⟩
    have e : cur[i]? = some (.int .u64 ((l.getD i 0 : Nat) : Int)) := by
      have e1 : (cur.toList.take (l.length * 1))[i]? = (l.map fun n : Nat => Value.int .u64 (n : Int))[i]? := by rw [ht]
      rw [List.getElem?_take_of_lt (by omega), List.getElem?_map, Array.getElem?_toList] at e1
      rw [e1]
      simp [List.getD, List.getElem?_eq_getElem hi]
    rw [add_plain, Nat.zero_add]
    unfold World.cell?
    rw [hg]
    simpa using e
/-- what Get leaves -/
def GetPost (r : Option (List Nat)) (w : World) (e : Ending) (w' : World) : Prop :=
  (match r with
    | some l => ∃ v, e = .returned (.tuple #[v, .bool true]) ∧ Ns w' w.heap.size v l
    | none => e = .returned (.tuple #[.slice none 0 0, .bool false])) ∧ Kept (fun i => w.heap.size ≤ i) w w'
/-- the rest of a content is read -/
def restS (l : List Nat) (wn : Bool) (n : Nat) (c : List Int) : Option (List Nat) :=
  if right wn c = false then none else (dec n c).map fun t => if l = [] then split t else l ++ t
theorem rest_zero (c : List Int) (h : c ≠ []) : restS [] false 0 c = getS c := by
  unfold restS getS
  by_cases hr : right false c = false
  · rw [if_pos hr, if_pos (.inr hr)]
  · rw [if_neg hr, if_neg (by rintro (h2 | h2); exact h h2; exact hr h2)]
    rfl
theorem rest_push (l : List Nat) (wn : Bool) (n : Nat) (b : Int) (c : List Int) (h : (wn = false ∧ b = 128) ∨ (c = [] ∧ 128 ≤ b)) : restS l wn n (b :: c) = none := by
  unfold restS
  rw [if_pos]
  rw [right]
  split
  · rfl
  · next hn =>
    rcases h with h | ⟨rfl, h⟩
    · exact absurd h hn
    · simp [right]
      omega
theorem rest_big (l : List Nat) (wn : Bool) (n : Nat) (b : Int) (c : List Int) (h : 144115188075855871 < n) : restS l wn n (b :: c) = none := by
  unfold restS
  split
  · rfl
  · rw [dec, if_pos h]; rfl
theorem rest_on (l : List Nat) (wn : Bool) (n : Nat) (b : Int) (c : List Int) (h : ¬(wn = false ∧ b = 128)) (hn : ¬144115188075855871 < n) (hb : 127 < b) : restS l wn n (b :: c) = restS l true (128 * n + (b % 128).toNat) c := by
  unfold restS
  rw [right, if_neg h, dec, if_neg hn, if_neg (show ¬b < 128 from by omega), show decide (127 < b) = true from decide_eq_true hb]
theorem rest_first (wn : Bool) (n : Nat) (b : Int) (c : List Int) (h : ¬(wn = false ∧ b = 128)) (hn : ¬144115188075855871 < n) (hb : b < 128) :
    restS [] wn n (b :: c) = restS [min ((128 * n + (b % 128).toNat) / 40) 2, (128 * n + (b % 128).toNat) - 40 * min ((128 * n + (b % 128).toNat) / 40) 2] false 0 c := by
  unfold restS
  rw [right, if_neg h, dec, if_neg hn, if_pos hb, show decide (127 < b) = false from decide_eq_false (by omega)]
  split
  · rfl
  · cases dec 0 c with
    | none => rfl
    | some t => simp [split]
theorem rest_next (l : List Nat) (wn : Bool) (n : Nat) (b : Int) (c : List Int) (hl : l ≠ []) (h : ¬(wn = false ∧ b = 128)) (hn : ¬144115188075855871 < n) (hb : b < 128) :
    restS l wn n (b :: c) = restS (l ++ [128 * n + (b % 128).toNat]) false 0 c := by
  unfold restS
  rw [right, if_neg h, dec, if_neg hn, if_pos hb, show decide (127 < b) = false from decide_eq_false (by omega)]
  split
  · rfl
  · cases dec 0 c with
    | none => rfl
    | some t => simp [hl]
/-- a state in its block -/
structure St (w : World) (h : Nat) (x : Int) (wn : Bool) : Prop where
  row : w.heap[h]? = some (.cells #[.int .i64 x, .bool wn] 25 (0, 0))
theorem St.keep {S : Nat → Prop} {w w' : World} {h : Nat} {x : Int} {wn : Bool} (s : St w h x wn) (k : Kept S w w') (hs : ¬S h) : St w' h x wn :=
  ⟨(k.block h (Array.getElem?_eq_some_iff.1 s.row).1 hs).trans s.row⟩
theorem St.c0 {w : World} {h : Nat} {x : Int} {wn : Bool} (s : St w h x wn) : w.cell? ⟨h, 0, none⟩ = some (.int .i64 x) := by unfold World.cell?; rw [s.row]; simp
theorem St.c1 {w : World} {h : Nat} {x : Int} {wn : Bool} (s : St w h x wn) : w.cell? ⟨h, 1, none⟩ = some (.bool wn) := by unfold World.cell?; rw [s.row]; simp
theorem St.fr {w : World} {h : Nat} {x : Int} {wn : Bool} (s : St w h x wn) (j : Nat) : w.frozen? ⟨h, j, none⟩ = false := by unfold World.frozen?; rw [s.row]; simp
theorem St.set {w : World} {h : Nat} {x : Int} {wn : Bool} (s : St w h x wn) (y : Int) (wn' : Bool) : St ((w.setCell ⟨h, 0, none⟩ (.int .i64 y)).setCell ⟨h, 1, none⟩ (.bool wn')) h y wn' := ⟨by simp [World.setCell, Array.getElem?_modify, s.row]⟩
theorem Ns.lower {w : World} {base b2 : Nat} {v : Value} {l : List Nat} (h : Ns w base v l) (hb : b2 ≤ base) : Ns w b2 v l := by
  obtain ⟨⟨h1, h2⟩, hn⟩ := h
  refine ⟨⟨h1, h2.imp id ?_⟩, hn⟩
  rintro ⟨g, cap, cur, hv, hb2, hr⟩
  exact ⟨g, cap, cur, hv, Nat.le_trans hb hb2, hr⟩
theorem Ns.below {S : Nat → Prop} {w w' : World} {base : Nat} {v : Value} {l : List Nat} (h : Ns w base v l) (k : Kept S w w') (hS : ∀ i, S i → i < base ∨ w.heap.size ≤ i) : Ns w' base v l := by
  obtain ⟨⟨h1, h2⟩, hn⟩ := h
  refine ⟨⟨h1, h2.imp id ?_⟩, hn⟩
  rintro ⟨g, cap, cur, hv, hb, hg, hr⟩
  have hlt : g < w.heap.size := (Array.getElem?_eq_some_iff.1 hg).1
  exact ⟨g, cap, cur, hv, hb, (k.block g hlt (fun hs => by have := hS g hs; omega)).trans hg, hr⟩
theorem Ns.form {w : World} {base : Nat} {v : Value} {l : List Nat} (h : Ns w base v l) : ∃ A cap, v = .slice A l.length cap := by
  rcases h.own.2 with ⟨rfl, h0⟩ | ⟨g, cap, cur, rfl, _⟩
  · obtain rfl := h.nn rfl
    exact ⟨none, 0, rfl⟩
  · exact ⟨_, cap, rfl⟩
theorem ns_next {w1 : World} {base : Nat} {v' : Value} {l : List Nat} {n : Nat} (h : w1.ownsRow base 40 1 v' (l.length + 1) ((l.map fun n : Nat => Value.int .u64 (n : Int)) ++ [Value.int .u64 (n : Int)])) (hn : v' ≠ .slice none 0 0) : Ns w1 base v' (l ++ [n]) :=
  ⟨by simpa using h, fun e => absurd e hn⟩
theorem get_nil (w : World) : Calls Try.prog 15 #[.string ⟨#[]⟩] w (GetPost none w) := by
  go_enter Try.func15, Try.ntmps15
  go_wp2_with fail
  refine (start_no 0 w (by omega)).mono ?_
  rintro e w1 ⟨rfl, K1⟩
  go_wp2_with fail
  go_ret2
  exact ⟨rfl, (K1.mono (T := fun i => w.heap.size ≤ i) (fun i h => h.elim)).alloc _⟩

set_option maxHeartbeats 1000000 in
theorem get_c (c : ByteArray) (hc : c.size ≤ 2000) (h1 : 1 ≤ c.size) (w : World) : Calls Try.prog 15 #[.string c] w (GetPost (getS (bl c)) w) := by
  have hne : bl c ≠ [] := fun h => by
    have := congrArg List.length h
    rw [bl_length, List.length_nil] at this
    omega
  have HR0 := Lib.hid (rest_zero (bl c) hne)
  obtain ⟨R, hR⟩ : ∃ R, R = getS (bl c) := ⟨_, rfl⟩
  rw [← hR] at HR0 ⊢
  obtain ⟨i0, hi0, hz0, hz1, hz2⟩ := info_parts info40
  clear hne hR
  go_enter Try.func15, Try.ntmps15
  go_wp2_with fail
  refine (start_ok c.size w (by omega)).mono ?_
  rintro e w1 ⟨rfl, K1⟩
  go_wp2_with fail
  have K2 := Lib.hid ((K1.mono (T := fun i => w.heap.size ≤ i) (fun i h => h.elim)).alloc (.cells #[.int .i64 c.size, .bool false] 25))
  have S2 : St (w1.alloc (.cells #[.int .i64 c.size, .bool false] 25)) w1.heap.size ((c.size : Nat) : Int) false := ⟨heap_alloc_new _ _⟩
  have hh : w.heap.size ≤ w1.heap.size := K1.size
  have hz2 : w1.heap.size + 1 ≤ (w1.alloc (.cells #[.int .i64 c.size, .bool false] 25)).heap.size := by simp
  generalize (w1.alloc (.cells #[.int .i64 c.size, .bool false] 25)) = w2 at K2 S2 hz2 ⊢
  generalize w1.heap.size = h at S2 hh hz2 ⊢
  clear K1
  go_loopw [21, 7, 6, 5] (fun i nn v ok wr => ∃ (k N : Nat) (l : List Nat) (wn : Bool), k ≤ c.size ∧ i = .int .i64 k ∧ nn = .int .u64 N ∧ ok = .bool true ∧ l.length ≤ 2 * k ∧ Ns wr (h + 1) v l ∧ St wr h ((c.size - k : Nat) : Int) wn ∧ h + 1 ≤ wr.heap.size ∧ restS l wn N ((bl c).drop k) = R ∧ (k = c.size → wn = false) ∧ Kept (fun i => w.heap.size ≤ i) w wr) (fun i _ _ _ _ => c.size - (intOf i).toNat)
  case atStart => exact ⟨0, 0, [], false, by omega, rfl, rfl, rfl, by simp, Ns.none_ _ _, S2, hz2, HR0.out, fun h => by omega, K2.out⟩
  case round =>
    obtain ⟨k, N, l, wn, hk, rfl, rfl, rfl, hll, B, S, hz, hr, hwn, K⟩ := hrel
    have HWN := Lib.hid hwn
    clear hwn
    have HB := Lib.hid B
    have HS := Lib.hid S
    have K3 := Lib.hid K
    have HRR := Lib.hid hr
    clear B S K hr K2 S2 hz2 HR0
    by_cases hlt : k < c.size
    · have t1 : (k : Int) < (c.size : Int) := by omega
      have hbb := byte_at c k hlt
      have hdr := bl_drop c k hlt
      have hHR := HRR.out
      rw [hdr] at hHR
      have HRN := Lib.hid hHR
      clear hdr hHR HRR
      obtain ⟨b, hb⟩ : ∃ b : Int, ((c[k]'hlt).toNat : Int) = b := ⟨_, rfl⟩
      rw [hb] at hbb HRN
      have HBB := Lib.hid hbb
      obtain ⟨b0, b1⟩ := hbb
      have c0 := HS.out.c0
      have c1 := HS.out.c1
      have hdl : (bl c).drop (k + 1) = [] ↔ c.size - k = 1 := by
        rw [List.drop_eq_nil_iff, bl_length]
        omega
      have HDL := Lib.hid hdl
      clear hdl
      by_cases hp : (wn = false ∧ b = 128) ∨ (((c.size - k : Nat) : Int) = 1 ∧ 128 ≤ b)
      · have HP := Lib.hid hp
        clear hp
        have hR : R = none := by
          rw [← HRN.out]
          exact rest_push l wn N b _ (HP.out.imp id (fun h => ⟨HDL.out.2 (by omega), h.2⟩))
        subst hR
        go_wp2_with fail
        refine (push_no _ wn b _ (by omega) (by omega) HBB.out HP.out).mono ?_
        rintro e w3 ⟨rfl, K4⟩
        have S3 := HS.out.keep K4 (fun h => h)
        have d0 := S3.c0
        have d1 := S3.c1
        have f0 := S3.fr 0
        have f1 := S3.fr 1
        have K5 := Lib.hid (kup K3.out K4 (fun i h => h.elim))
        clear K4 K3 c0 c1
        go_wp2_with fail
        go_ret2
        exact ⟨rfl, (K5.out.setCell hh _).setCell hh _⟩
      · have HP := Lib.hid hp
        clear hp
        go_wp2_with fail
        refine (push_ok _ wn b _ (by omega) (by omega) HBB.out HP.out).mono ?_
        rintro e w3 ⟨rfl, K4⟩
        have S3 := HS.out.keep K4 (fun h => h)
        have d0 := S3.c0
        have d1 := S3.c1
        have f0 := S3.fr 0
        have f1 := S3.fr 1
        have hkk : ((c.size - k : Nat) : Int) - 1 = ((c.size - (k + 1) : Nat) : Int) := by omega
        have S4 := Lib.hid (S3.set (((c.size - k : Nat) : Int) - 1) (decide (127 < b)))
        have HKK := Lib.hid hkk
        have hz3 := Nat.le_trans hz K4.size
        have B4 := Lib.hid (HB.out.old K4 (fun i h => h.elim))
        have K5 := Lib.hid (((kup K3.out K4 (fun i h => h.elim)).setCell (p := ⟨h, 0, none⟩) hh (.int .i64 (((c.size - k : Nat) : Int) - 1))).setCell (p := ⟨h, 1, none⟩) hh (.bool (decide (127 < b))))
        clear K4 K3 c0 c1 HB HS S3 hkk
        by_cases hN : 144115188075855871 < N
        · have hN' : (144115188075855871 : Int) < (N : Int) := by omega
          have hR : R = none := by
            rw [← HRN.out]
            exact rest_big l wn N b _ hN
          subst hR
          go_wp2_with fail
          go_ret2
          exact ⟨rfl, K5.out⟩
        · have hN' : ¬(144115188075855871 : Int) < (N : Int) := by omega
          have ea := and127b b HBB.out
          have eo := or_low N b (by omega) HBB.out
          obtain ⟨M, hM⟩ : ∃ M, M = 128 * N + (b % 128).toNat := ⟨_, rfl⟩
          rw [← hM] at eo
          have HM := Lib.hid hM
          have hMM : (M : Int) ≤ 18446744073709551615 := by omega
          clear hM
          by_cases hge : 127 < b
          · go_wp2_with fail
            go_roundw
            case rel =>
              have hS := S4.out
              rw [HKK.out, show decide (127 < b) = true from decide_eq_true hge] at hS
              have hK := K5.out
              rw [show decide (127 < b) = true from decide_eq_true hge] at hK
              refine ⟨k + 1, M, l, true, by omega, by go_num, rfl, rfl, by omega, ?_, by first | exact hS | (rw [HKK.out]; exact hS), by simp; omega, ?_, fun h => by
                have := HP.out
                omega, by first | exact hK | exact K5.out⟩
              · exact B4.out.below (S := (· = h)) (Kept.setIn (Kept.setIn (Kept.refl _ _))) (fun i hi => by omega)
              · rw [HM.out, ← rest_on l wn N b _ (fun h => HP.out (.inl h)) hN hge]
                exact HRN.out
            case measure => simp [intOf]; omega
          · have hlo : b < 128 := by omega
            have HDD : Hid (decide (127 < b) = false) := decide_eq_false hge
            have S5 : Hid (St ((w3.setCell ⟨h, 0, none⟩ (.int .i64 (((c.size - k : Nat) : Int) - 1))).setCell ⟨h, 1, none⟩ (.bool (decide (127 < b)))) h ((c.size - (k + 1) : Nat) : Int) (decide (127 < b))) := by
              have := S4.out
              rw [HKK.out] at this
              rw [HKK.out]
              exact this
            obtain ⟨A, cp, rfl⟩ := B4.out.form
            have B5 := Lib.hid (B4.out.below (S := (· = h)) (w' := (w3.setCell ⟨h, 0, none⟩ (.int .i64 (((c.size - k : Nat) : Int) - 1))).setCell ⟨h, 1, none⟩ (.bool (decide (127 < b)))) (Kept.setIn (Kept.setIn (Kept.refl _ _))) (fun i hi => by omega))
            have hz5 : h + 1 ≤ ((w3.setCell ⟨h, 0, none⟩ (.int .i64 (((c.size - k : Nat) : Int) - 1))).setCell ⟨h, 1, none⟩ (.bool (decide (127 < b)))).heap.size := by simp; omega
            clear S4 B4
            by_cases hl0 : l = []
            · subst hl0
              have hl0' : (([] : List Nat).length : Int) = 0 := rfl
              by_cases h80 : M < 80
              · obtain ⟨F, hF⟩ : ∃ F, F = M / 40 := ⟨_, rfl⟩
                obtain ⟨G, hG⟩ : ∃ G, G = M - 40 * F := ⟨_, rfl⟩
                have HFG : Hid (min (M / 40) 2 = F ∧ M - 40 * min (M / 40) 2 = G) := ⟨by omega, by omega⟩
                have eF : (M : Int) / 40 = (F : Int) := by omega
                have eG : (M : Int) - 40 * (F : Int) = (G : Int) := by omega
                have q1 : (F : Int) < 2 := by omega
                have q2 : ¬(2 : Int) < (F : Int) := by omega
                have q3 : 40 * (F : Int) ≤ (M : Int) := by omega
                have q4 : (F : Int) ≤ 1 := by omega
                clear hF hG
                go_wp2_with (at_builtin; refine wpList_append_own _ rfl (.tmp 53) (.tmp 55) 30 rfl (h + 1) 40 i0 (.int .u64 0) 1 8 Try.underlying30 hi0 hz0 hz1 hz2 rfl (by decide) _ _ _ rfl (B5.out.own.alloc _) ⟨w3.heap.size, 0, none⟩ 1 1 [.int .u64 (F : Int)] rfl rfl ?p1 ?p2 ?p3 ?p4 ?p5 ?_)
                case p1 =>
                  intro j u hj
                  match j, hj with
                  | 0, hj =>
                    simp at hj
                    subst hj
                    have e : ((w3.setCell ⟨h, 0, none⟩ (.int .i64 (((c.size - k : Nat) : Int) - 1))).setCell ⟨h, 1, none⟩ (.bool (decide (127 < b)))).heap.size = w3.heap.size := by simp
                    rw [add_plain, Nat.zero_add, ← e]
                    exact World.cell?_alloc_new _ _ _ _
                case p2 => intro u hu; simp at hu; subst hu; rfl
                case p3 => unfold maxLen; simp
                case p4 => simp
                case p5 => simp; omega
                intro v' w8 ho hg hn
                have K7 := own_kept (B5.out.own.alloc (.cells #[.int .u64 (F : Int)] 40)) (w := (w3.setCell ⟨h, 0, none⟩ (.int .i64 (((c.size - k : Nat) : Int) - 1))).setCell ⟨h, 1, none⟩ (.bool (decide (127 < b)))) ((Kept.refl _ _).alloc _) hg
                have S8 := Lib.hid (S5.out.keep K7 (by omega))
                have hz8 := Nat.le_trans hz5 K7.size
                have K8 := Lib.hid (K5.out.trans (K7.mono (fun i hi => by omega)))
                have B8 : Hid (Ns w8 (h + 1) v' [F]) := ns_next (l := []) ho (fun e => by first | exact hn e | exact absurd (hn.1 e).2 (by simp))
                clear ho hg hn K7
                obtain ⟨A1, cp1, rfl⟩ := B8.out.form
                go_wp2_with (at_builtin; refine wpList_append_own _ rfl (.tmp 61) (.tmp 63) 30 rfl (h + 1) 40 i0 (.int .u64 0) 1 8 Try.underlying30 hi0 hz0 hz1 hz2 rfl (by decide) _ _ _ rfl (B8.out.own.alloc _) ⟨w8.heap.size, 0, none⟩ 1 1 [.int .u64 (G : Int)] rfl rfl ?p6 ?p7 ?p8 ?p9 ?px ?_)
                case p6 =>
                  intro j u hj
                  match j, hj with
                  | 0, hj =>
                    simp at hj
                    subst hj
                    rw [add_plain, Nat.zero_add]
                    exact World.cell?_alloc_new _ _ _ _
                case p7 => intro u hu; simp at hu; subst hu; rfl
                case p8 => unfold maxLen; simp
                case p9 => simp
                case px => simp; omega
                intro v2 w9 ho hg hn
                have K9 := own_kept (B8.out.own.alloc (.cells #[.int .u64 (G : Int)] 40)) (w := w8) ((Kept.refl _ _).alloc _) hg
                have S9 := Lib.hid (S8.out.keep K9 (by omega))
                have hz9 := Nat.le_trans hz8 K9.size
                have K10 := Lib.hid (K8.out.trans (K9.mono (fun i hi => by omega)))
                have B9 : Hid (Ns w9 (h + 1) v2 [F, G]) := ns_next (l := [F]) ho (fun e => by first | exact hn e | exact absurd (hn.1 e).2 (by simp))
                clear ho hg hn K9
                go_wp2_with fail
                go_roundw
                case rel =>
                  refine ⟨k + 1, 0, [F, G], decide (127 < b), by omega, by go_num, rfl, rfl, by simp; omega, B9.out, S9.out, hz9, ?_, fun _ => HDD.out, K10.out⟩
                  rw [HDD.out, ← HRN.out, rest_first wn N b _ (fun h => HP.out (.inl h)) hN hlo, ← HM.out, HFG.out.2, HFG.out.1]
                case measure => simp [intOf]; omega
              · obtain ⟨G, hG⟩ : ∃ G, G = M - 80 := ⟨_, rfl⟩
                have HFG : Hid (min (M / 40) 2 = 2 ∧ M - 40 * min (M / 40) 2 = G) := ⟨by omega, by omega⟩
                have eG : (M : Int) - 80 = (G : Int) := by omega
                have q3 : (80 : Int) ≤ (M : Int) := by omega
                clear hG
                by_cases h120 : M < 120
                · have eF : (M : Int) / 40 = 2 := by omega
                  go_wp2_with (at_builtin; refine wpList_append_own _ rfl (.tmp 53) (.tmp 55) 30 rfl (h + 1) 40 i0 (.int .u64 0) 1 8 Try.underlying30 hi0 hz0 hz1 hz2 rfl (by decide) _ _ _ rfl (B5.out.own.alloc _) ⟨w3.heap.size, 0, none⟩ 1 1 [.int .u64 2] rfl rfl ?r1 ?r2 ?r3 ?r4 ?r5 ?_)
                  case r1 =>
                    intro j u hj
                    match j, hj with
                    | 0, hj =>
                      simp at hj
                      subst hj
                      have e : ((w3.setCell ⟨h, 0, none⟩ (.int .i64 (((c.size - k : Nat) : Int) - 1))).setCell ⟨h, 1, none⟩ (.bool (decide (127 < b)))).heap.size = w3.heap.size := by simp
                      rw [add_plain, Nat.zero_add, ← e]
                      exact World.cell?_alloc_new _ _ _ _
                  case r2 => intro u hu; simp at hu; subst hu; rfl
                  case r3 => unfold maxLen; simp
                  case r4 => simp
                  case r5 => simp; omega
                  intro v' w8 ho hg hn
                  have K7 := own_kept (B5.out.own.alloc (.cells #[.int .u64 2] 40)) (w := (w3.setCell ⟨h, 0, none⟩ (.int .i64 (((c.size - k : Nat) : Int) - 1))).setCell ⟨h, 1, none⟩ (.bool (decide (127 < b)))) ((Kept.refl _ _).alloc _) hg
                  have S8 := Lib.hid (S5.out.keep K7 (by omega))
                  have hz8 := Nat.le_trans hz5 K7.size
                  have K8 := Lib.hid (K5.out.trans (K7.mono (fun i hi => by omega)))
                  have B8 : Hid (Ns w8 (h + 1) v' [2]) := ns_next (l := []) ho (fun e => by first | exact hn e | exact absurd (hn.1 e).2 (by simp))
                  clear ho hg hn K7
                  obtain ⟨A1, cp1, rfl⟩ := B8.out.form
                  go_wp2_with (at_builtin; refine wpList_append_own _ rfl (.tmp 61) (.tmp 63) 30 rfl (h + 1) 40 i0 (.int .u64 0) 1 8 Try.underlying30 hi0 hz0 hz1 hz2 rfl (by decide) _ _ _ rfl (B8.out.own.alloc _) ⟨w8.heap.size, 0, none⟩ 1 1 [.int .u64 (G : Int)] rfl rfl ?r6 ?r7 ?r8 ?r9 ?rx ?_)
                  case r6 =>
                    intro j u hj
                    match j, hj with
                    | 0, hj =>
                      simp at hj
                      subst hj
                      rw [add_plain, Nat.zero_add]
                      exact World.cell?_alloc_new _ _ _ _
                  case r7 => intro u hu; simp at hu; subst hu; rfl
                  case r8 => unfold maxLen; simp
                  case r9 => simp
                  case rx => simp; omega
                  intro v2 w9 ho hg hn
                  have K9 := own_kept (B8.out.own.alloc (.cells #[.int .u64 (G : Int)] 40)) (w := w8) ((Kept.refl _ _).alloc _) hg
                  have S9 := Lib.hid (S8.out.keep K9 (by omega))
                  have hz9 := Nat.le_trans hz8 K9.size
                  have K10 := Lib.hid (K8.out.trans (K9.mono (fun i hi => by omega)))
                  have B9 : Hid (Ns w9 (h + 1) v2 [2, G]) := ns_next (l := [2]) ho (fun e => by first | exact hn e | exact absurd (hn.1 e).2 (by simp))
                  clear ho hg hn K9
                  go_wp2_with fail
                  go_roundw
                  case rel =>
                    refine ⟨k + 1, 0, [2, G], decide (127 < b), by omega, by go_num, rfl, rfl, by simp; omega, B9.out, S9.out, hz9, ?_, fun _ => HDD.out, K10.out⟩
                    rw [HDD.out, ← HRN.out, rest_first wn N b _ (fun h => HP.out (.inl h)) hN hlo, ← HM.out, HFG.out.2, HFG.out.1]
                  case measure => simp [intOf]; omega
                · have q1 : (2 : Int) < (M : Int) / 40 := by omega
                  have q2 : ¬(M : Int) / 40 ≤ 2 := by omega
                  go_wp2_with (at_builtin; refine wpList_append_own _ rfl (.tmp 53) (.tmp 55) 30 rfl (h + 1) 40 i0 (.int .u64 0) 1 8 Try.underlying30 hi0 hz0 hz1 hz2 rfl (by decide) _ _ _ rfl (B5.out.own.alloc _) ⟨w3.heap.size, 0, none⟩ 1 1 [.int .u64 2] rfl rfl ?q1 ?q2 ?q3 ?q4 ?q5 ?_)
                  case q1 =>
                    intro j u hj
                    match j, hj with
                    | 0, hj =>
                      simp at hj
                      subst hj
                      have e : ((w3.setCell ⟨h, 0, none⟩ (.int .i64 (((c.size - k : Nat) : Int) - 1))).setCell ⟨h, 1, none⟩ (.bool (decide (127 < b)))).heap.size = w3.heap.size := by simp
                      rw [add_plain, Nat.zero_add, ← e]
                      exact World.cell?_alloc_new _ _ _ _
                  case q2 => intro u hu; simp at hu; subst hu; rfl
                  case q3 => unfold maxLen; simp
                  case q4 => simp
                  case q5 => simp; omega
                  intro v' w8 ho hg hn
                  have K7 := own_kept (B5.out.own.alloc (.cells #[.int .u64 2] 40)) (w := (w3.setCell ⟨h, 0, none⟩ (.int .i64 (((c.size - k : Nat) : Int) - 1))).setCell ⟨h, 1, none⟩ (.bool (decide (127 < b)))) ((Kept.refl _ _).alloc _) hg
                  have S8 := Lib.hid (S5.out.keep K7 (by omega))
                  have hz8 := Nat.le_trans hz5 K7.size
                  have K8 := Lib.hid (K5.out.trans (K7.mono (fun i hi => by omega)))
                  have B8 : Hid (Ns w8 (h + 1) v' [2]) := ns_next (l := []) ho (fun e => by first | exact hn e | exact absurd (hn.1 e).2 (by simp))
                  clear ho hg hn K7
                  obtain ⟨A1, cp1, rfl⟩ := B8.out.form
                  go_wp2_with (at_builtin; refine wpList_append_own _ rfl (.tmp 61) (.tmp 63) 30 rfl (h + 1) 40 i0 (.int .u64 0) 1 8 Try.underlying30 hi0 hz0 hz1 hz2 rfl (by decide) _ _ _ rfl (B8.out.own.alloc _) ⟨w8.heap.size, 0, none⟩ 1 1 [.int .u64 (G : Int)] rfl rfl ?q6 ?q7 ?q8 ?q9 ?qx ?_)
                  case q6 =>
                    intro j u hj
                    match j, hj with
                    | 0, hj =>
                      simp at hj
                      subst hj
                      rw [add_plain, Nat.zero_add]
                      exact World.cell?_alloc_new _ _ _ _
                  case q7 => intro u hu; simp at hu; subst hu; rfl
                  case q8 => unfold maxLen; simp
                  case q9 => simp
                  case qx => simp; omega
                  intro v2 w9 ho hg hn
                  have K9 := own_kept (B8.out.own.alloc (.cells #[.int .u64 (G : Int)] 40)) (w := w8) ((Kept.refl _ _).alloc _) hg
                  have S9 := Lib.hid (S8.out.keep K9 (by omega))
                  have hz9 := Nat.le_trans hz8 K9.size
                  have K10 := Lib.hid (K8.out.trans (K9.mono (fun i hi => by omega)))
                  have B9 : Hid (Ns w9 (h + 1) v2 [2, G]) := ns_next (l := [2]) ho (fun e => by first | exact hn e | exact absurd (hn.1 e).2 (by simp))
                  clear ho hg hn K9
                  go_wp2_with fail
                  go_roundw
                  case rel =>
                    refine ⟨k + 1, 0, [2, G], decide (127 < b), by omega, by go_num, rfl, rfl, by simp; omega, B9.out, S9.out, hz9, ?_, fun _ => HDD.out, K10.out⟩
                    rw [HDD.out, ← HRN.out, rest_first wn N b _ (fun h => HP.out (.inl h)) hN hlo, ← HM.out, HFG.out.2, HFG.out.1]
                  case measure => simp [intOf]; omega
            · have hll0 : ((l.length : Int) == 0) = false := by
                have : l.length ≠ 0 := fun h => hl0 (List.eq_nil_of_length_eq_zero h)
                simp
                exact hl0
              go_wp2_with (at_builtin; refine wpList_append_own _ rfl (.tmp 61) (.tmp 63) 30 rfl (h + 1) 40 i0 (.int .u64 0) 1 8 Try.underlying30 hi0 hz0 hz1 hz2 rfl (by decide) _ _ _ rfl (B5.out.own.alloc _) ⟨w3.heap.size, 0, none⟩ 1 1 [.int .u64 ((M : Nat) : Int)] rfl rfl ?a1 ?a2 ?a3 ?a4 ?a5 ?_)
              case a1 =>
                intro j u hj
                match j, hj with
                | 0, hj =>
                  simp at hj
                  subst hj
                  have e : ((w3.setCell ⟨h, 0, none⟩ (.int .i64 (((c.size - k : Nat) : Int) - 1))).setCell ⟨h, 1, none⟩ (.bool (decide (127 < b)))).heap.size = w3.heap.size := by simp
                  rw [add_plain, Nat.zero_add, ← e]
                  exact World.cell?_alloc_new _ _ _ _
              case a2 => intro u hu; simp at hu; subst hu; rfl
              case a3 => unfold maxLen; omega
              case a4 => omega
              case a5 => simp; omega
              intro v' w8 ho hg hn
              have K7 := own_kept (B5.out.own.alloc (.cells #[.int .u64 ((M : Nat) : Int)] 40)) (w := (w3.setCell ⟨h, 0, none⟩ (.int .i64 (((c.size - k : Nat) : Int) - 1))).setCell ⟨h, 1, none⟩ (.bool (decide (127 < b)))) ((Kept.refl _ _).alloc _) hg
              have S8 := Lib.hid (S5.out.keep K7 (by omega))
              have hz8 := Nat.le_trans hz5 K7.size
              have K8 := Lib.hid (K5.out.trans (K7.mono (fun i hi => by omega)))
              have B8 : Hid (Ns w8 (h + 1) v' (l ++ [M])) := ns_next ho (fun e => by first | exact hn e | exact absurd (hn.1 e).2 (by simp))
              clear ho hg hn K7
              go_wp2_with fail
              go_roundw
              case rel =>
                refine ⟨k + 1, 0, l ++ [M], decide (127 < b), by omega, by go_num, rfl, rfl, by simp; omega, B8.out, S8.out, hz8, ?_, fun _ => HDD.out, K8.out⟩
                rw [HDD.out, ← HRN.out, rest_next l wn N b _ hl0 (fun h => HP.out (.inl h)) hN hlo, ← HM.out]
              case measure => simp [intOf]; omega
    · obtain rfl : k = c.size := by omega
      have t1 : ¬(c.size : Int) < (c.size : Int) := by omega
      obtain rfl := HWN.out rfl
      have hR : R = some l := by
        rw [← HRR.out, List.drop_eq_nil_of_le (by rw [bl_length]; exact Nat.le_refl _)]
        unfold restS
        rw [if_neg (by simp [right]), dec]
        by_cases hl0 : l = []
        · subst hl0; rfl
        · simp [hl0]
      subst hR
      go_wp2_with fail
      go_ret2
      exact ⟨⟨_, rfl, HB.out.lower (by omega)⟩, K3.out⟩
end Go.Proofs.Ytgloehelfdmmaaa.Oid
