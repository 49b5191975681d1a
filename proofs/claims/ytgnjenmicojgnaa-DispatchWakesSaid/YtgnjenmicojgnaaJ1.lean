/-
  A list of package ready in memory; what note does to it.
-/
import Derived.Test.YtgnjenmicojgnaaJ0
import Derived.RegionTactic
namespace Go.Proofs.Ytgnjenmicojgnaa
set_option linter.unusedVariables false
set_option linter.unusedSimpArgs false
open Go.RowKit

/-- From w to w' nothing has turned but blocks of S; no block has changed its kind. -/
structure Kept (w w' : World) (S : Nat → Prop) : Prop where
  os : w'.os = w.os
  tape : w'.tape = w.tape
  output : w'.output = w.output
  size : w.heap.size ≤ w'.heap.size
  block : ∀ i, i < w.heap.size → ¬ S i → w'.heap[i]? = w.heap[i]?

theorem Kept.refl (w : World) (S : Nat → Prop) : Kept w w S := ⟨rfl, rfl, rfl, Nat.le_refl _, fun _ _ _ => rfl⟩
theorem Kept.trans {w w' w'' : World} {S S' : Nat → Prop} (h : Kept w w' S) (k : Kept w' w'' S') (hs : ∀ i, i < w.heap.size → S' i → S i) : Kept w w'' S :=
  ⟨k.os.trans h.os, k.tape.trans h.tape, k.output.trans h.output, Nat.le_trans h.size k.size, fun i hi hn => (k.block i (Nat.lt_of_lt_of_le hi h.size) (fun hh => hn (hs i hi hh))).trans (h.block i hi hn)⟩
theorem Kept.of_below {w w' : World} {S : Nat → Prop} (h : Below w.heap.size w w') : Kept w w' S := ⟨h.os, h.tape, h.output, h.size, fun i hi _ => h.block i hi⟩
theorem Kept.mono {w w' : World} {S S' : Nat → Prop} (h : Kept w w' S) (hs : ∀ i, i < w.heap.size → S i → S' i) : Kept w w' S' := ⟨h.os, h.tape, h.output, h.size, fun i hi hn => h.block i hi (fun hh => hn (hs i hi hh))⟩
theorem Kept.cell {w w' : World} {S : Nat → Prop} (h : Kept w w' S) {a : Addr} (ha : a.block < w.heap.size) (hn : ¬ S a.block) : w'.cell? a = w.cell? a := World.cell?_of_block (h.block _ ha hn)
theorem Kept.of_grown {w w' : World} {S : Nat → Prop} {row : Option Nat} (h : w.grownBy w' row) (hs : ∀ i, row = some i → S i) : Kept w w' S := ⟨h.os, h.tape, h.output, h.size, fun i hi hn => h.block i hi (fun e => hn (hs i e.symm))⟩
theorem Kept.below {w w' : World} {S : Nat → Prop} {B : Nat} (h : Kept w w' S) (hB : B ≤ w.heap.size) (hs : ∀ i, S i → B ≤ i) : Below B w w' :=
  ⟨h.os, h.tape, h.output, h.size, fun i hi => h.block i (by omega) (fun hh => by have := hs i hh; omega)⟩

/-- The 65 cells of a list: a slice for each priority, and the word. -/
structure Hdr (w : World) (l : Nat) (V : Nat → Value) (s : Int) : Prop where
  get : ∃ cur, w.heap[l]? = some (.cells cur 133 (0, 0)) ∧ cur.size = 65 ∧ (∀ p, p < 64 → cur[p]? = some (V p)) ∧ cur[64]? = some (.int .u64 s)

theorem Hdr.row {w : World} {l : Nat} {V : Nat → Value} {s : Int} (h : Hdr w l V s) {p : Nat} (hp : p < 64) : w.cell? ⟨l, p, none⟩ = some (V p) := by
  obtain ⟨cur, hg, hs, hr, hw⟩ := h.get
  rw [cell_of_row w l p cur 133 (0, 0) hg]
  exact hr p hp
theorem Hdr.word {w : World} {l : Nat} {V : Nat → Value} {s : Int} (h : Hdr w l V s) : w.cell? ⟨l, 64, none⟩ = some (.int .u64 s) := by
  obtain ⟨cur, hg, hs, hr, hw⟩ := h.get
  rw [cell_of_row w l 64 cur 133 (0, 0) hg]
  exact hw
theorem Hdr.fz {w : World} {l : Nat} {V : Nat → Value} {s : Int} (h : Hdr w l V s) (p : Nat) : w.frozen? ⟨l, p, none⟩ = false := by
  obtain ⟨cur, hg, hs, hr, hw⟩ := h.get
  simp [World.frozen?, hg]
theorem Hdr.lt {w : World} {l : Nat} {V : Nat → Value} {s : Int} (h : Hdr w l V s) : l < w.heap.size := by
  obtain ⟨cur, hg, _⟩ := h.get
  exact (Array.getElem?_eq_some_iff.1 hg).1
theorem Hdr.keep {w w' : World} {l : Nat} {V : Nat → Value} {s : Int} (h : Hdr w l V s) (hb : w'.heap[l]? = w.heap[l]?) : Hdr w' l V s := by
  obtain ⟨cur, hg, rest⟩ := h.get
  exact ⟨cur, hb.trans hg, rest⟩

def upd {α : Type} (V : Nat → α) (p : Nat) (v : α) : Nat → α := fun q => if q = p then v else V q
theorem upd_same {α : Type} (V : Nat → α) (p : Nat) (v : α) : upd V p v p = v := if_pos rfl
theorem upd_other {α : Type} (V : Nat → α) {p q : Nat} (v : α) (h : q ≠ p) : upd V p v q = V q := if_neg h

theorem heap_setCell {w : World} {g j : Nat} {cur : Array Value} {T : TypeId} {v : Value} (hg : w.heap[g]? = some (.cells cur T (0, 0))) : (w.setCell ⟨g, j, none⟩ v).heap[g]? = some (.cells (cur.setIfInBounds j v) T (0, 0)) := by
  simp [World.setCell, Array.getElem?_modify, hg]
theorem heap_setCell_other {w : World} {g i j : Nat} {v : Value} (h : i ≠ g) : (w.setCell ⟨g, j, none⟩ v).heap[i]? = w.heap[i]? := by
  simp [World.setCell, Array.getElem?_modify, Ne.symm h]

theorem Hdr.put {w : World} {l : Nat} {V : Nat → Value} {s : Int} (h : Hdr w l V s) {p : Nat} (hp : p < 64) (v : Value) : Hdr (w.setCell ⟨l, p, none⟩ v) l (upd V p v) s := by
  obtain ⟨cur, hg, hs, hr, hw⟩ := h.get
  refine ⟨_, heap_setCell hg, by simpa using hs, fun q hq => ?_, ?_⟩
  · rw [Array.getElem?_setIfInBounds]
    by_cases e : p = q
    · subst e
      rw [if_pos rfl, if_pos (by omega), upd_same]
    · rw [if_neg e, upd_other V v (Ne.symm e)]
      exact hr q hq
  · rw [Array.getElem?_setIfInBounds, if_neg (by omega)]
    exact hw
theorem Hdr.setWord {w : World} {l : Nat} {V : Nat → Value} {s : Int} (h : Hdr w l V s) (s' : Int) : Hdr (w.setCell ⟨l, 64, none⟩ (.int .u64 s')) l V s' := by
  obtain ⟨cur, hg, hs, hr, hw⟩ := h.get
  refine ⟨_, heap_setCell hg, by simpa using hs, fun q hq => ?_, ?_⟩
  · rw [Array.getElem?_setIfInBounds, if_neg (by omega)]
    exact hr q hq
  · rw [Array.getElem?_setIfInBounds, if_pos rfl, if_pos (by omega)]
theorem Kept.setCell (w : World) (l p : Nat) (v : Value) : Kept w (w.setCell ⟨l, p, none⟩ v) (fun i => i = l) :=
  ⟨rfl, rfl, rfl, by simp, fun i _ hn => heap_setCell_other hn⟩

/-- A word of 64 bits whose bits f tells. -/
def WordOk (s : Int) (f : Nat → Bool) : Prop := ∃ b : BitVec 64, s = (b.toNat : Int) ∧ ∀ q, q < 64 → b.getLsbD q = f q

theorem WordOk.range {s : Int} {f : Nat → Bool} (h : WordOk s f) : 0 ≤ s ∧ s < 18446744073709551616 := by
  obtain ⟨b, rfl, _⟩ := h
  have := b.isLt
  omega

theorem wrap_u64_nat (n : Nat) (h : n < 18446744073709551616) : IntKind.u64.wrap (n : Int) = n := by
  simp [IntKind.wrap, IntKind.bits, IntKind.signed]
  omega

theorem pow_u64 {p : Nat} (hp : p < 64) : IntKind.u64.wrap (2 ^ p) = ((2 ^ p : Nat) : Int) := by
  have : (2 : Int) ^ p = ((2 ^ p : Nat) : Int) := by simp
  rw [this]
  refine wrap_u64_nat _ ?_
  exact Nat.lt_of_lt_of_le (Nat.pow_lt_pow_right (by omega) hp) (by decide)

theorem word_clear {s : Int} {f : Nat → Bool} {p : Nat} (h : WordOk s f) (hp : p < 64) : WordOk (bits BinOp.andNot IntKind.u64 s (IntKind.u64.wrap (2 ^ p))) (fun q => if q = p then false else f q) := by
  obtain ⟨b, rfl, hb⟩ := h
  rw [pow_u64 hp]
  refine ⟨b &&& ~~~ (BitVec.twoPow 64 p), ?_, fun q hq => ?_⟩
  · unfold bits
    simp only [IntKind.bits, BitVec.ofInt_natCast, BitVec.ofNat_toNat]
    rw [show BitVec.ofNat 64 (2 ^ p) = BitVec.twoPow 64 p by apply BitVec.eq_of_toNat_eq; simp]
    rw [show BitVec.setWidth 64 b = b by simp]
    exact wrap_u64_nat _ (BitVec.isLt _)
  · rw [BitVec.getLsbD_and, BitVec.getLsbD_not, BitVec.getLsbD_twoPow, hb q hq]
    by_cases e : q = p
    · subst e
      simp [hq]
    · simp [e, hq, Ne.symm e]

theorem word_set {s : Int} {f : Nat → Bool} {p : Nat} (h : WordOk s f) (hp : p < 64) : WordOk (bits BinOp.or IntKind.u64 s (IntKind.u64.wrap (2 ^ p))) (fun q => if q = p then true else f q) := by
  obtain ⟨b, rfl, hb⟩ := h
  rw [pow_u64 hp]
  refine ⟨b ||| (BitVec.twoPow 64 p), ?_, fun q hq => ?_⟩
  · unfold bits
    simp only [IntKind.bits, BitVec.ofInt_natCast, BitVec.ofNat_toNat]
    rw [show BitVec.ofNat 64 (2 ^ p) = BitVec.twoPow 64 p by apply BitVec.eq_of_toNat_eq; simp]
    rw [show BitVec.setWidth 64 b = b by simp]
    exact wrap_u64_nat _ (BitVec.isLt _)
  · rw [BitVec.getLsbD_or, BitVec.getLsbD_twoPow, hb q hq]
    by_cases e : q = p
    · subst e
      simp [hq]
    · simp [e, hq, Ne.symm e]

theorem word_zero {s : Int} {f : Nat → Bool} (h : WordOk s f) : (s = 0 ↔ ∀ q, q < 64 → f q = false) := by
  obtain ⟨b, rfl, hb⟩ := h
  constructor
  · intro h q hq
    have : b = 0#64 := by apply BitVec.eq_of_toNat_eq; simp; omega
    rw [← hb q hq, this]
    simp
  · intro h
    have : b = 0#64 := by
      apply BitVec.eq_of_getLsbD_eq
      intro i hi
      rw [hb i hi, h i hi]
      simp
    rw [this]
    rfl

theorem WordOk.congr {s : Int} {f g : Nat → Bool} (h : WordOk s f) (e : ∀ q, q < 64 → f q = g q) : WordOk s g := by
  obtain ⟨b, rfl, hb⟩ := h
  exact ⟨b, rfl, fun q hq => (hb q hq).trans (e q hq)⟩

/-- The highest bit of a word that isn't 0. -/
theorem word_top {s : Int} {f : Nat → Bool} (h : WordOk s f) (hs : s ≠ 0) : ∃ p, p < 64 ∧ Nat.log2 s.toNat = p ∧ f p = true ∧ ∀ q, p < q → q < 64 → f q = false := by
  obtain ⟨b, rfl, hb⟩ := h
  have hn : b.toNat ≠ 0 := by omega
  have hlt : b.toNat.log2 < 64 := (Nat.log2_lt hn).2 b.isLt
  refine ⟨b.toNat.log2, hlt, by simp, ?_, fun q hq h64 => ?_⟩
  · rw [← hb _ hlt]
    exact Nat.testBit_log2 hn
  · rw [← hb q h64]
    exact Nat.testBit_lt_two_pow ((Nat.log2_lt hn).1 hq)

theorem Kept.drew {w w' : World} {S : Nat → Prop} (h : Kept w w' S) : Kept w w'.drew S := ⟨h.os, h.tape, h.output, h.size, h.block⟩
theorem Hdr.drew {w : World} {l : Nat} {V : Nat → Value} {s : Int} (h : Hdr w l V s) : Hdr w.drew l V s := h.keep rfl

def NotePost (w : World) (l p : Nat) (V : Nat → Value) (f : Nat → Bool) (a : Option Addr) (n c : Nat) (e : Ending) (w' : World) : Prop :=
  e = .returned (.tuple #[]) ∧ ∃ s', Hdr w' l (upd V p (.slice a n c)) s' ∧ WordOk s' (upd f p (decide (0 < n))) ∧ Kept w w' (fun i => i = l)

set_option maxRecDepth 100000 in
set_option maxHeartbeats 1000000 in
theorem note_any (l p : Nat) (V : Nat → Value) (s : Int) (f : Nat → Bool) (a : Option Addr) (n c : Nat) (w : World) (h : Hdr w l V s) (hp : p < 64) (hs : WordOk s f) :
    Calls Try.prog 119 #[.pointer (some ⟨l, 0, none⟩), .int .i64 p, .slice a n c] w (NotePost w l p V f a n c) := by
  have hr := h.row hp
  have hfr := h.fz p
  have H1 := Lib.hid (h.put hp (.slice a n c))
  have hl := h.lt
  have HS := Lib.hid hs
  have HP := Lib.hid hp
  clear h hs
  go_enter Try.func119, Try.ntmps119
  go_wp2_with fail
  obtain ⟨W1, hW1⟩ : ∃ W1, W1 = w.setCell ⟨l, p, none⟩ (.slice a n c) := ⟨_, rfl⟩
  rw [← hW1]
  have H1' : Hid (Hdr W1 l (upd V p (.slice a n c)) s) := by rw [hW1]; exact H1.out
  have K1 : Hid (Kept w W1 (fun i => i = l)) := by rw [hW1]; exact Kept.setCell w l p _
  have hw1 := H1'.out.word
  have hf1 := H1'.out.fz 64
  have hl1 := H1'.out.lt
  clear hW1 H1 hr hfr
  by_cases hn : 0 < n
  · go_region
    go_wp2_with fail
    obtain ⟨s2, hs2⟩ : ∃ s2, s2 = bits BinOp.andNot IntKind.u64 s (IntKind.u64.wrap (2 ^ p)) := ⟨_, rfl⟩
    have HS2 : Hid (WordOk s2 (fun q => if q = p then false else f q)) := by rw [hs2]; exact word_clear HS.out HP.out
    rw [← hs2]
    clear hs2
    obtain ⟨W2, hW2⟩ : ∃ W2, W2 = (W1.setCell ⟨l, 64, none⟩ (.int .u64 s2)).drew := ⟨_, rfl⟩
    rw [← hW2]
    have H2 : Hid (Hdr W2 l (upd V p (.slice a n c)) s2) := by rw [hW2]; exact (H1'.out.setWord s2).drew
    have K2 : Hid (Kept w W2 (fun i => i = l)) := by rw [hW2]; exact (K1.out.trans (Kept.setCell W1 l 64 _) (fun _ _ h => h)).drew
    have hw2 := H2.out.word
    have hf2 := H2.out.fz 64
    have hl2 := H2.out.lt
    clear hW2 hw1 hf1 hl1
    go_region
    go_end0
    refine ⟨rfl, _, (H2.out.setWord _).drew, (word_set HS2.out HP.out).congr (fun q hq => ?_), (K2.out.trans (Kept.setCell W2 l 64 _) (fun _ _ h => h)).drew⟩
    unfold upd
    by_cases e : q = p <;> simp [e, hn]
  · go_region
    go_wp2
    go_end0
    refine ⟨rfl, _, (H1'.out.setWord _).drew, (word_clear HS.out HP.out).congr (fun q hq => ?_), (K1.out.trans (Kept.setCell W1 l 64 _) (fun _ _ h => h)).drew⟩
    unfold upd
    by_cases e : q = p <;> simp [e, hn]

end Go.Proofs.Ytgnjenmicojgnaa
