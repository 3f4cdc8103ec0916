/- Kept worlds, rows of numbers (layer 1). -/
import Derived.Test.YtdkbfphpooedaaaProg
import Derived.Test.YtdkbfphpooedaaaNum
import Derived.WalkKit
import Derived.WalkLawsBesides
import Derived.WalkSpells
import Derived.Lib.Hide
import Derived.Lib.SliceRun
import Derived.Laws.AppendOwnNone
import Derived.Deep.QuietTactic
import Derived.BigQuiet
import Derived.BigRegion
import Derived.OwnWalk
import Derived.Lib.LazyBuf
import Derived.Laws.Bits128
import Derived.Laws.BitsAllLaws
import Derived.StillTailTactics
import Derived.Lib.Mul64
import Derived.Shelf.Bits.Mul64
import Derived.Laws.Bits64b
namespace Go.Proofs.Ytdkbfphpooedaaa.Word
set_option linter.unusedVariables false
open Go.RowKit

/-- All blocks that were there, but for those of S, are as they were. -/
structure Kept (S : Nat → Prop) (w w' : World) : Prop where
  os : w'.os = w.os
  tape : w'.tape = w.tape
  output : w'.output = w.output
  size : w.heap.size ≤ w'.heap.size
  block : ∀ k, k < w.heap.size → ¬S k → w'.heap[k]? = w.heap[k]?
theorem Kept.refl (S : Nat → Prop) (w : World) : Kept S w w := ⟨rfl, rfl, rfl, Nat.le_refl _, fun _ _ _ => rfl⟩
theorem Kept.trans {S : Nat → Prop} {a b c : World} (h : Kept S a b) (k : Kept S b c) : Kept S a c :=
  ⟨k.os.trans h.os, k.tape.trans h.tape, k.output.trans h.output, Nat.le_trans h.size k.size, fun i hi hs => (k.block i (Nat.lt_of_lt_of_le hi h.size) hs).trans (h.block i hi hs)⟩
theorem Kept.mono {S T : Nat → Prop} {w w' : World} (h : Kept S w w') (hST : ∀ k, S k → T k) : Kept T w w' := ⟨h.os, h.tape, h.output, h.size, fun k hk hs => h.block k hk (fun e => hs (hST k e))⟩
theorem Kept.drew {S : Nat → Prop} {a w : World} (h : Kept S a w) : Kept S a w.drew := ⟨h.os, h.tape, h.output, h.size, h.block⟩
theorem Kept.drewN {S : Nat → Prop} {a w : World} (h : Kept S a w) (n : Nat) : Kept S a (w.drewN n) := ⟨h.os, h.tape, h.output, h.size, h.block⟩
theorem Kept.setCell {S : Nat → Prop} {a w : World} (h : Kept S a w) {p : Addr} (hp : S p.block) (u : Value) : Kept S a (w.setCell p u) :=
  h.trans ⟨rfl, rfl, rfl, by simp [World.setCell], fun k hk hs => Below.heap_setCell _ _ _ _ (fun e => hs (e ▸ hp))⟩
theorem Kept.setIn {b o : Nat} {s : _} {u : Value} {a w : World} (h : Kept (· = b) a w) : Kept (· = b) a (w.setCell ⟨b, o, s⟩ u) := h.setCell rfl u
theorem Kept.alloc {S : Nat → Prop} {a w : World} (h : Kept S a w) (o : Obj) : Kept S a (w.alloc o) :=
  h.trans ⟨rfl, rfl, rfl, by simp, fun k hk _ => Below.heap_alloc _ _ _ hk⟩
theorem Kept.of_below {w w' : World} (h : Below w.heap.size w w') (S : Nat → Prop) : Kept S w w' := ⟨h.os, h.tape, h.output, h.size, fun k hk _ => h.block k hk⟩
/-- What only new blocks have turned leaves what was below. -/
theorem Kept.below {S : Nat → Prop} {w w1 w2 : World} (h : Below w.heap.size w w1) (k : Kept S w1 w2) (hS : ∀ i, S i → w.heap.size ≤ i) : Below w.heap.size w w2 :=
  ⟨k.os.trans h.os, k.tape.trans h.tape, k.output.trans h.output, Nat.le_trans h.size k.size, fun i hi => (k.block i (Nat.lt_of_lt_of_le hi h.size) (fun e => by have := hS i e; omega)).trans (h.block i hi)⟩

theorem cs_same {w : World} {a : Addr} {u v : Value} (h : w.cell? a = some u) : (w.setCell a v).cell? a = some v := World.cell?_setCell_same w a v h
theorem cs_other {w : World} {a b : Addr} {v : Value} (h : a ≠ b) : (w.setCell a v).cell? b = w.cell? b := World.cell?_setCell_other w a b v h
theorem lt_cell {w : World} {b o : Nat} {v : Value} (h : w.cell? ⟨b, o, none⟩ = some v) : b < w.heap.size := by
  unfold World.cell? at h
  by_cases hb : b < w.heap.size
  · exact hb
  · rw [Array.getElem?_eq_none (by simpa using hb)] at h
    simp at h
theorem step {a b c : World} (h1 : Below a.heap.size a b) (h2 : Below b.heap.size b c) : Below a.heap.size a c := h1.trans (h2.mono h1.size)

theorem kup {S T : Nat → Prop} {a w w' : World} (h : Kept T a w) (k : Kept S w w') (hST : ∀ i, S i → T i) : Kept T a w' := h.trans (k.mono hST)
def Byte (b : Int) : Prop := 0 ≤ b ∧ b < 256
theorem info5 : (Try.prog.info? 5).map (fun i => (i.zero, i.size, i.bytes)) = some (some (.int .u8 0), 1, 1) := by kernel_rfl
theorem info22 : (Try.prog.info? 22).map (fun i => (i.zero, i.size, i.bytes)) = some (some (.int .u64 0), 1, 8) := by kernel_rfl
/-- bytes in a row of the call's own -/
structure Bs (w : World) (base : Nat) (v : Value) (l : List Int) : Prop where
  own : w.ownsRow base 5 1 v l.length (l.map (Value.int .u8))
  nn : v ≠ .slice none 0 0
theorem Bs.at_ {w : World} {base : Nat} {v : Value} {l : List Int} (h : Bs w base v l) : ∃ g cap, v = .slice (some ⟨g, 0, none⟩) l.length cap ∧ base ≤ g ∧ g < w.heap.size ∧ l.length ≤ cap ∧ cap ≤ 9223372036854775807 ∧ ∀ j u, (l.map (Value.int .u8))[j]? = some u → w.cell? ⟨g, j, none⟩ = some u := by
  rcases h.own.2 with ⟨h0, _⟩ | ⟨g, cap, cur, rfl, hb, hg, hn, hm, hs, ht⟩
  · exact absurd h0 h.nn
  · refine ⟨g, cap, rfl, hb, (Array.getElem?_eq_some_iff.1 hg).1, hn, by unfold maxLen at hm; omega, fun j u hj => ?_⟩
    have hjl : j < l.length := by
      have := (List.getElem?_eq_some_iff.1 hj).1
      simpa using this
    rw [← ht, List.getElem?_take_of_lt (by omega)] at hj
    unfold World.cell?
    rw [hg]
    simpa using hj
theorem Bs.keep {S : Nat → Prop} {w w' : World} {base : Nat} {v : Value} {l : List Int} (h : Bs w base v l) (k : Kept S w w') (hS : ∀ i, S i → i < base) : Bs w' base v l := by
  obtain ⟨⟨h1, h2⟩, hn⟩ := h
  refine ⟨⟨h1, h2.imp id ?_⟩, hn⟩
  rintro ⟨g, cap, cur, hv, hb, hg, hr⟩
  have hlt : g < w.heap.size := (Array.getElem?_eq_some_iff.1 hg).1
  exact ⟨g, cap, cur, hv, hb, (k.block g hlt (fun hs => by have := hS g hs; omega)).trans hg, hr⟩
theorem Bs.lower {w : World} {base b2 : Nat} {v : Value} {l : List Int} (h : Bs w base v l) (hb : b2 ≤ base) : Bs w b2 v l := by
  obtain ⟨⟨h1, h2⟩, hn⟩ := h
  refine ⟨⟨h1, h2.imp id ?_⟩, hn⟩
  rintro ⟨g, cap, cur, hv, hb2, hr⟩
  exact ⟨g, cap, cur, hv, Nat.le_trans hb hb2, hr⟩
theorem Bs.text {w : World} {base : Nat} {v : Value} {l : List Int} (h : Bs w base v l) :
    ∃ g cap, v = .slice (some ⟨g, 0, none⟩) l.length cap ∧ (convert 45 9 (.slice (some ⟨g, 0, none⟩) l.length cap)).run Try.prog w = .ok (.string (strOfNums l)) w := by
  obtain ⟨g, cap, rfl, hb, hg, hl, hc, hcell⟩ := h.at_
  refine ⟨g, cap, rfl, run_convert_bytes_arg (P := Try.prog) (w := w) 45 5 Try.underlying45 Try.underlying5 g 0 l.length cap l rfl (fun i hi => ?_) 9 Try.underlying9⟩
  rw [Nat.zero_add]
  refine hcell i _ ?_
  rw [List.getElem?_map, List.getElem?_eq_getElem hi]
  simp [List.getD, List.getElem?_eq_getElem hi]
theorem own_kept {w w1 w' : World} {base e : Nat} {v : Value} {n size : Nat} {xs : List Value} (h : w1.ownsRow base e size v n xs) (k : Kept (fun i => base ≤ i) w w1) (hg : w1.grownBy w' v.ownBlock) : Kept (fun i => base ≤ i) w w' := by
  refine k.trans ⟨hg.os, hg.tape, hg.output, hg.size, fun i hi hs => hg.block i hi (fun e => ?_)⟩
  rcases h.2 with ⟨rfl, _⟩ | ⟨g, cap, cur, rfl, hb, _⟩
  · simp [Value.ownBlock] at e
  · simp [Value.ownBlock] at e
    exact hs (by omega)
theorem add_plain (g o j : Nat) : (⟨g, o, none⟩ : Addr).add j = ⟨g, o + j, none⟩ := by unfold Addr.add; (repeat' (first | rfl | split)) <;> simp_all
theorem Bs.lit (w : World) (l : List Int) (hl : l.length ≤ 1000) : Bs (w.alloc (.cells (l.map (Value.int .u8)).toArray 5)) w.heap.size (.slice (some ⟨w.heap.size, 0, none⟩) l.length l.length) l :=
  ⟨by
    have := World.ownsRow_lit (base := w.heap.size) (e := 5) (size := 1) w (l.map (Value.int .u8)).toArray l.length (Nat.le_refl _) (by unfold maxLen; omega) (by simp)
    simpa using this, by simp⟩

theorem strOfNums_size (l : List Int) : (strOfNums l).size = l.length := by
  show (strOfNums l).data.size = l.length
  unfold strOfNums
  simp
theorem strOfNums_append (a b : List Int) : strOfNums (a ++ b) = strOfNums a ++ strOfNums b := by
  apply ByteArray.ext
  simp [strOfNums, ByteArray.data_append]
/-- the bytes as numbers -/
def bl (s : ByteArray) : List Int := s.data.toList.map fun b => (b.toNat : Int)
theorem bl_length (s : ByteArray) : (bl s).length = s.size := by simp [bl]
theorem bl_drop (s : ByteArray) (k : Nat) (h : k < s.size) : (bl s).drop k = ((s[k]'h).toNat : Int) :: (bl s).drop (k + 1) := by
  rw [List.drop_eq_getElem_cons (by rw [bl_length]; exact h)]
  congr 1
  simp [bl]
  rfl
theorem bl_byte (s : ByteArray) : ∀ b ∈ bl s, Byte b := by
  intro b hb
  simp only [bl, List.mem_map] at hb
  obtain ⟨x, _, rfl⟩ := hb
  have := x.toNat_lt
  constructor <;> omega
theorem byte_at (s : ByteArray) (k : Nat) (h : k < s.size) : Byte ((s[k]'h).toNat : Int) := by
  have := (s[k]'h).toNat_lt
  constructor <;> omega
theorem strOfNums_bl (s : ByteArray) : strOfNums (bl s) = s := by
  unfold strOfNums bl
  rw [List.map_map]
  have e : (fun n : Int => UInt8.ofNat n.toNat) ∘ (fun b : UInt8 => (b.toNat : Int)) = id := by
    funext b
    simp
  rw [e]
  simp
theorem bl_strOfNums (l : List Int) (h : ∀ b ∈ l, Byte b) : bl (strOfNums l) = l := by
  unfold strOfNums bl
  simp only [List.map_map]
  conv => rhs; rw [← List.map_id l]
  apply List.map_congr_left
  intro b hb
  obtain ⟨h1, h2⟩ := h b hb
  simp only [Function.comp, id]
  rw [UInt8.toNat_ofNat']
  omega
end Go.Proofs.Ytdkbfphpooedaaa.Word
