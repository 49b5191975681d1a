/-
  Slices of ints that a structure owns: what append does to one, for whatever is appended.
  A list of package ready in memory; what note does to it.
  A list of package ready in memory: its rows; what Priority answers.
  A list of package ready: what check and Put do.
  Index and Delete on a slice of ints that is owned; what Drop does to a list.
  Insert into a slice of ints, ahead of an element: where there is room, and where there is none.
  A list of package ready: what Drop does.
  Insert at the head of a slice of ints that is owned; what Front does to a list.
  What Front does to a list; timers in memory: find, At, and Drop of one that isn't there.
  A list of package ready: what Peek and All tell.
-/
import Derived.Test.YtgnjenmicojgnaaGreatQb
import Derived.Lib.AppendZeros
import Derived.Laws.AppendOwn
import Derived.RegionTactic
import Derived.Laws.Cells
import Derived.WalkMore
import Derived.Deep.MidRow
import Derived.Shelf.RegionOpenPlain
import Derived.Deep.RegionLaw
import Derived.Lib.SliceRun
import Derived.Shelf.Spec.SlicesInsertGrow
import Derived.Test.YtgnjenmicojgnaaGreatE0w
import Derived.Shelf.Strconv.Itoa0
namespace Go.Proofs.YtgnjenmicojgnaaGreat
set_option linter.unusedVariables false
set_option linter.unusedSimpArgs false
open Go.RowKit

def iv (xs : List Int) : List Value := xs.map (Value.int .i64)
theorem iv_length (xs : List Int) : (iv xs).length = xs.length := List.length_map ..
theorem iv_one (xs : List Int) : ∀ u ∈ iv xs, u.oneCell' = true := by
  intro u hu
  unfold iv at hu
  rw [List.mem_map] at hu
  obtain ⟨x, _, rfl⟩ := hu
  rfl
theorem iv_append (xs ys : List Int) : iv (xs ++ ys) = iv xs ++ iv ys := List.map_append ..

/-- The slice v holds xs; its block, if it has one, holds it alone. -/
def Own (w : World) (v : Value) (xs : List Int) : Prop := w.ownsRow 0 3 1 v xs.length (iv xs)

theorem Own.nil (w : World) : Own w (.slice none 0 0) [] := World.ownsRow_nil w 0 3 1

theorem Own.lt {w : World} {v : Value} {xs : List Int} (h : Own w v xs) : ∀ k, v.ownBlock = some k → k < w.heap.size := fun k hk => (World.ownsRow.lt h k hk).2

theorem Own.keep {w w' : World} {v : Value} {xs : List Int} (h : Own w v xs) (hb : ∀ k, v.ownBlock = some k → w'.heap[k]? = w.heap[k]?) : Own w' v xs := by
  refine ⟨h.1, ?_⟩
  rcases h.2 with hn | ⟨g, cap, cur, rfl, hb0, hg, rest⟩
  · exact .inl hn
  · exact .inr ⟨g, cap, cur, rfl, hb0, (hb g rfl).trans hg, rest⟩

/-- What a slice of ints is as a value. -/
theorem Own.shape {w : World} {v : Value} {xs : List Int} (h : Own w v xs) : (v = .slice none 0 0 ∧ xs = []) ∨ ∃ g c cur, v = .slice (some ⟨g, 0, none⟩) xs.length c ∧ w.heap[g]? = some (.cells cur 3 (0, 0)) ∧ cur.size = c ∧ xs.length ≤ c ∧ c ≤ maxLen ∧ ∀ (i : Nat) (x : Int), xs[i]? = some x → cur[i]? = some (.int .i64 x) := by
  rcases h.2 with ⟨rfl, h0⟩ | ⟨g, cap, cur, rfl, hb0, hg, hn, hm, hs, ht⟩
  · exact .inl ⟨rfl, List.eq_nil_of_length_eq_zero h0⟩
  · refine .inr ⟨g, cap, cur, rfl, hg, by omega, hn, hm, fun i x hx => ?_⟩
    have hi : i < xs.length := (List.getElem?_eq_some_iff.1 hx).1
    have : (iv xs)[i]? = some (.int .i64 x) := by unfold iv; rw [List.getElem?_map, hx]; rfl
    rw [← ht, List.getElem?_take, if_pos (by omega)] at this
    simpa using this

theorem Own.make {w : World} {g c : Nat} {cur : Array Value} {xs : List Int} (hg : w.heap[g]? = some (.cells cur 3 (0, 0))) (hs : cur.size = c) (hn : xs.length ≤ c) (hm : c ≤ maxLen) (hc : ∀ (i : Nat) (x : Int), xs[i]? = some x → cur[i]? = some (.int .i64 x)) :
    Own w (.slice (some ⟨g, 0, none⟩) xs.length c) xs := by
  refine ⟨by rw [iv_length, Nat.mul_one], .inr ⟨g, c, cur, rfl, Nat.zero_le _, hg, hn, hm, by omega, ?_⟩⟩
  apply List.ext_getElem?
  intro i
  rw [List.getElem?_take]
  unfold iv
  rw [List.getElem?_map]
  by_cases hi : i < xs.length * 1
  · rw [if_pos hi]
    have hi' : i < xs.length := by omega
    rw [List.getElem?_eq_getElem hi', Array.getElem?_toList]
    exact hc i _ (List.getElem?_eq_getElem hi')
  · rw [if_neg hi, List.getElem?_eq_none_iff.2 (by omega)]
    rfl

/-- What an operand is that is appended: ints, in a slice of any type. -/
def Reads (w : World) (x : Value) (ys : List Int) : Prop := ∃ ax c, x = .slice ax ys.length c ∧ (ys ≠ [] → ∃ a, ax = some a ∧ ∀ (j : Nat) (u : Value), (iv ys)[j]? = some u → w.cell? (a.add j) = some u)

theorem Own.reads {w : World} {v : Value} {xs : List Int} (h : Own w v xs) : Reads w v xs := by
  rcases h.2 with ⟨rfl, h0⟩ | ⟨g, cap, cur, rfl, _⟩
  · have := List.eq_nil_of_length_eq_zero h0
    subst this
    exact ⟨none, 0, rfl, fun h => absurd rfl h⟩
  · exact ⟨_, _, rfl, fun _ => ⟨_, rfl, World.ownsRow.cells h rfl⟩⟩

theorem append_types {P : Program} {t tx ty e e' : TypeId} (ht : P.underlying t = some (.slice e)) (hx : P.underlying tx = some (.slice e')) (a : Option Addr) (n c : Nat) (x : Value) (w : World) :
    (Builtin.append_ #[t, tx] ty #[.slice a n c, x]).run P w = (Builtin.append_ #[t, t] ty #[.slice a n c, x]).run P w := by
  unfold Builtin.append_
  simp [run_underlying ht, run_underlying hx]

theorem run_append_none {P : Program} {t tx ty e e' : TypeId} (ht : P.underlying t = some (.slice e)) (hx : P.underlying tx = some (.slice e')) {i : TypeInfo} (hi : P.info? e = some i) (a : Option Addr) (n c : Nat) (hn : n ≤ c) (c' : Nat) (w : World) :
    (Builtin.append_ #[t, tx] ty #[.slice a n c, .slice none 0 c']).run P w = .ok (.slice a n c) w := by
  rw [append_types ht hx]
  cases a <;> simp [Builtin.append_, run_underlying ht, sizeOf, typeInfo, hi, Builtin.lenOf, Builtin.firstCells, loadCells, loadCellsFrom, hn, storeCells]

theorem infoInt : (Tryz.prog.info? 3).map (fun i => (i.zero, i.size, i.bytes)) = some (some (.int .i64 0), 1, 8) := by kernel_rfl

/-- append to a slice that is owned: it grows in place, or lies in a block of its own. -/
theorem own_append {t tx ty e' : TypeId} (ht : Tryz.prog.underlying t = some (.slice 3)) (hx : Tryz.prog.underlying tx = some (.slice e')) {w : World} {v x : Value} {xs ys : List Int} (h : Own w v xs) (hy : Reads w x ys) (hl : xs.length + ys.length ≤ 1000000) :
    ∃ v' w', (Builtin.append_ #[t, tx] ty #[v, x]).run Tryz.prog w = .ok v' w' ∧ Own w' v' (xs ++ ys) ∧ w.grownBy w' v.ownBlock ∧ (∀ k, v'.ownBlock = some k → v.ownBlock = some k ∨ w.heap.size ≤ k) := by
  obtain ⟨i0, hi0, hz0, hz1, hz2⟩ := info_parts infoInt
  have mk : ∀ {v' : Value} {w' : World}, w'.ownsRow 0 3 1 v' (xs.length + ys.length) (iv xs ++ iv ys) → Own w' v' (xs ++ ys) := fun hh => by unfold Own; rw [iv_append, List.length_append]; exact hh
  obtain ⟨ax, c, rfl, hr⟩ := hy
  by_cases hy0 : ys = []
  · subst hy0
    have hv : ∃ a n c0, v = .slice a n c0 ∧ n ≤ c0 := by
      rcases h.2 with ⟨rfl, h0⟩ | ⟨g, cap, cur, rfl, _, _, hn, _⟩
      · exact ⟨_, _, _, rfl, Nat.le_refl _⟩
      · exact ⟨_, _, _, rfl, hn⟩
    cases ax with
    | none =>
      obtain ⟨a, n, c0, rfl, hn⟩ := hv
      exact ⟨_, w, run_append_none ht hx hi0 a n c0 hn c w, by rw [List.append_nil]; exact h, ⟨rfl, rfl, rfl, Nat.le_refl _, fun _ _ _ => rfl⟩, fun k hk => .inl hk⟩
    | some a =>
      have hrun : ∃ v' w', (Builtin.append_ #[t, tx] ty #[v, .slice (some a) 0 c]).run Tryz.prog w = .ok v' w' ∧ v' = v ∧ w' = w := by
        obtain ⟨a', n, c0, rfl, hn⟩ := hv
        refine ⟨_, w, ?_, rfl, rfl⟩
        rw [append_types ht hx]
        cases a' <;> simp [Builtin.append_, run_underlying ht, sizeOf, typeInfo, hi0, Builtin.lenOf, Builtin.firstCells, loadCells, loadCellsFrom, hn, storeCells]
      obtain ⟨v', w', h1, rfl, rfl⟩ := hrun
      exact ⟨_, _, h1, by rw [List.append_nil]; exact h, ⟨rfl, rfl, rfl, Nat.le_refl _, fun _ _ _ => rfl⟩, fun k hk => .inl hk⟩
  · obtain ⟨a, rfl, hnews⟩ := hr hy0
    have hly : ys.length ≠ 0 := fun e => hy0 (List.eq_nil_of_length_eq_zero e)
    have hm : xs.length + ys.length ≤ maxLen := by unfold maxLen; omega
    have hlen : (iv ys).length = ys.length * 1 := by rw [iv_length, Nat.mul_one]
    obtain ⟨v', w', h1, h2, h3, h4⟩ := run_append_own (P := Tryz.prog) w 0 t ty 3 i0 _ 1 8 ht hi0 hz0 hz1 hz2 rfl (by decide) v xs.length (iv xs) h a ys.length c (iv ys) hlen hnews (iv_one ys) hm (by omega) (Nat.zero_le _)
    have hv : ∃ a n c0, v = .slice a n c0 := by
      rcases h.2 with ⟨rfl, h0⟩ | ⟨g, cap, cur, rfl, _⟩
      · exact ⟨_, _, _, rfl⟩
      · exact ⟨_, _, _, rfl⟩
    refine ⟨v', w', by obtain ⟨a, n, c0, rfl⟩ := hv; rw [append_types ht hx]; exact h1, mk h2, h3, fun k hk => ?_⟩
    rcases h.2 with ⟨rfl, h0⟩ | ⟨g, cap, cur, rfl, hb0, hg, hn, hmc, hs, htk⟩
    · have hx0 := List.eq_nil_of_length_eq_zero h0
      subst hx0
      obtain ⟨v2, w2, k1, k2, k3, k4⟩ := run_append_own (P := Tryz.prog) w w.heap.size t ty 3 i0 _ 1 8 ht hi0 hz0 hz1 hz2 rfl (by decide) (.slice none 0 0) 0 [] (World.ownsRow_nil w _ _ _) a ys.length c (iv ys) hlen hnews (iv_one ys) (by simpa using hm) (by simp at hl ⊢; omega) (Nat.le_refl _)
      have := h1.symm.trans k1
      injection this with e1 e2
      subst e1 e2
      exact .inr (World.ownsRow.lt k2 k hk).1
    · by_cases hroom : xs.length + ys.length ≤ cap
      · have hr := run_append_room (P := Tryz.prog) w t ty 3 i0 ht hi0 g xs.length cap cur hg a ys.length c (iv ys) (by rw [hz1]; exact hlen) hnews (iv_one ys) hroom (by rw [hz1, iv_length]; omega)
        have := h1.symm.trans hr
        injection this with e1 e2
        subst e1
        exact .inl hk
      · have holds := World.ownsRow.cells h (g := g) rfl
        have hr := run_append_grow (P := Tryz.prog) w t ty 3 i0 _ ht hi0 hz0 ⟨g, 0, none⟩ xs.length cap (iv xs) (by rw [hz1, iv_length, Nat.mul_one]) holds a ys.length c (iv ys) (by rw [hz1]; exact hlen) hnews (by omega) (by omega) (growslice_fits (by omega) (by rw [hz2]; omega))
        have := h1.symm.trans hr
        injection this with e1 e2
        subst e1
        simp only [Value.ownBlock] at hk
        injection hk with hk
        exact .inr (by omega)

end Go.Proofs.YtgnjenmicojgnaaGreat

namespace Go.Proofs.YtgnjenmicojgnaaGreat
set_option linter.unusedVariables false
set_option linter.unusedSimpArgs false
open Go.RowKit

/-- From w to w' nothing has turned but blocks of S; no block has changed its kind. -/
structure Kept (w w' : World) (S : Nat → Prop) : Prop where
  os : w'.os = w.os
  tape : w'.tape = w.tape
  output : w'.output = w.output
  size : w.heap.size ≤ w'.heap.size
  block : ∀ i, i < w.heap.size → ¬ S i → w'.heap[i]? = w.heap[i]?

theorem Kept.refl (w : World) (S : Nat → Prop) : Kept w w S := ⟨rfl, rfl, rfl, Nat.le_refl _, fun _ _ _ => rfl⟩
theorem Kept.trans {w w' w'' : World} {S S' : Nat → Prop} (h : Kept w w' S) (k : Kept w' w'' S') (hs : ∀ i, i < w.heap.size → S' i → S i) : Kept w w'' S :=
  ⟨k.os.trans h.os, k.tape.trans h.tape, k.output.trans h.output, Nat.le_trans h.size k.size, fun i hi hn => (k.block i (Nat.lt_of_lt_of_le hi h.size) (fun hh => hn (hs i hi hh))).trans (h.block i hi hn)⟩
theorem Kept.of_below {w w' : World} {S : Nat → Prop} (h : Below w.heap.size w w') : Kept w w' S := ⟨h.os, h.tape, h.output, h.size, fun i hi _ => h.block i hi⟩
theorem Kept.mono {w w' : World} {S S' : Nat → Prop} (h : Kept w w' S) (hs : ∀ i, i < w.heap.size → S i → S' i) : Kept w w' S' := ⟨h.os, h.tape, h.output, h.size, fun i hi hn => h.block i hi (fun hh => hn (hs i hi hh))⟩
theorem Kept.cell {w w' : World} {S : Nat → Prop} (h : Kept w w' S) {a : Addr} (ha : a.block < w.heap.size) (hn : ¬ S a.block) : w'.cell? a = w.cell? a := World.cell?_of_block (h.block _ ha hn)
theorem Kept.of_grown {w w' : World} {S : Nat → Prop} {row : Option Nat} (h : w.grownBy w' row) (hs : ∀ i, row = some i → S i) : Kept w w' S := ⟨h.os, h.tape, h.output, h.size, fun i hi hn => h.block i hi (fun e => hn (hs i e.symm))⟩
theorem Kept.below {w w' : World} {S : Nat → Prop} {B : Nat} (h : Kept w w' S) (hB : B ≤ w.heap.size) (hs : ∀ i, S i → B ≤ i) : Below B w w' :=
  ⟨h.os, h.tape, h.output, h.size, fun i hi => h.block i (by omega) (fun hh => by have := hs i hh; omega)⟩

/-- The 65 cells of a list: a slice for each priority, and the word. -/
structure Hdr (w : World) (l : Nat) (V : Nat → Value) (s : Int) : Prop where
  get : ∃ cur, w.heap[l]? = some (.cells cur 124 (0, 0)) ∧ cur.size = 65 ∧ (∀ p, p < 64 → cur[p]? = some (V p)) ∧ cur[64]? = some (.int .u64 s)

theorem Hdr.row {w : World} {l : Nat} {V : Nat → Value} {s : Int} (h : Hdr w l V s) {p : Nat} (hp : p < 64) : w.cell? ⟨l, p, none⟩ = some (V p) := by
  obtain ⟨cur, hg, hs, hr, hw⟩ := h.get
  rw [cell_of_row w l p cur 124 (0, 0) hg]
  exact hr p hp
theorem Hdr.word {w : World} {l : Nat} {V : Nat → Value} {s : Int} (h : Hdr w l V s) : w.cell? ⟨l, 64, none⟩ = some (.int .u64 s) := by
  obtain ⟨cur, hg, hs, hr, hw⟩ := h.get
  rw [cell_of_row w l 64 cur 124 (0, 0) hg]
  exact hw
theorem Hdr.fz {w : World} {l : Nat} {V : Nat → Value} {s : Int} (h : Hdr w l V s) (p : Nat) : w.frozen? ⟨l, p, none⟩ = false := by
  obtain ⟨cur, hg, hs, hr, hw⟩ := h.get
  simp [World.frozen?, hg]
theorem Hdr.lt {w : World} {l : Nat} {V : Nat → Value} {s : Int} (h : Hdr w l V s) : l < w.heap.size := by
  obtain ⟨cur, hg, _⟩ := h.get
  exact (Array.getElem?_eq_some_iff.1 hg).1
theorem Hdr.keep {w w' : World} {l : Nat} {V : Nat → Value} {s : Int} (h : Hdr w l V s) (hb : w'.heap[l]? = w.heap[l]?) : Hdr w' l V s := by
  obtain ⟨cur, hg, rest⟩ := h.get
  exact ⟨cur, hb.trans hg, rest⟩

def upd {α : Type} (V : Nat → α) (p : Nat) (v : α) : Nat → α := fun q => if q = p then v else V q
theorem upd_same {α : Type} (V : Nat → α) (p : Nat) (v : α) : upd V p v p = v := if_pos rfl
theorem upd_other {α : Type} (V : Nat → α) {p q : Nat} (v : α) (h : q ≠ p) : upd V p v q = V q := if_neg h

theorem heap_setCell {w : World} {g j : Nat} {cur : Array Value} {T : TypeId} {v : Value} (hg : w.heap[g]? = some (.cells cur T (0, 0))) : (w.setCell ⟨g, j, none⟩ v).heap[g]? = some (.cells (cur.setIfInBounds j v) T (0, 0)) := by
  simp [World.setCell, Array.getElem?_modify, hg]
theorem heap_setCell_other {w : World} {g i j : Nat} {v : Value} (h : i ≠ g) : (w.setCell ⟨g, j, none⟩ v).heap[i]? = w.heap[i]? := by
  simp [World.setCell, Array.getElem?_modify, Ne.symm h]

theorem Hdr.put {w : World} {l : Nat} {V : Nat → Value} {s : Int} (h : Hdr w l V s) {p : Nat} (hp : p < 64) (v : Value) : Hdr (w.setCell ⟨l, p, none⟩ v) l (upd V p v) s := by
  obtain ⟨cur, hg, hs, hr, hw⟩ := h.get
  refine ⟨_, heap_setCell hg, by simpa using hs, fun q hq => ?_, ?_⟩
  · rw [Array.getElem?_setIfInBounds]
    by_cases e : p = q
    · subst e
      rw [if_pos rfl, if_pos (by omega), upd_same]
    · rw [if_neg e, upd_other V v (Ne.symm e)]
      exact hr q hq
  · rw [Array.getElem?_setIfInBounds, if_neg (by omega)]
    exact hw
theorem Hdr.setWord {w : World} {l : Nat} {V : Nat → Value} {s : Int} (h : Hdr w l V s) (s' : Int) : Hdr (w.setCell ⟨l, 64, none⟩ (.int .u64 s')) l V s' := by
  obtain ⟨cur, hg, hs, hr, hw⟩ := h.get
  refine ⟨_, heap_setCell hg, by simpa using hs, fun q hq => ?_, ?_⟩
  · rw [Array.getElem?_setIfInBounds, if_neg (by omega)]
    exact hr q hq
  · rw [Array.getElem?_setIfInBounds, if_pos rfl, if_pos (by omega)]
theorem Kept.setCell (w : World) (l p : Nat) (v : Value) : Kept w (w.setCell ⟨l, p, none⟩ v) (fun i => i = l) :=
  ⟨rfl, rfl, rfl, by simp, fun i _ hn => heap_setCell_other hn⟩

/-- A word of 64 bits whose bits f tells. -/
def WordOk (s : Int) (f : Nat → Bool) : Prop := ∃ b : BitVec 64, s = (b.toNat : Int) ∧ ∀ q, q < 64 → b.getLsbD q = f q

theorem WordOk.range {s : Int} {f : Nat → Bool} (h : WordOk s f) : 0 ≤ s ∧ s < 18446744073709551616 := by
  obtain ⟨b, rfl, _⟩ := h
  have := b.isLt
  omega

theorem wrap_u64_nat (n : Nat) (h : n < 18446744073709551616) : IntKind.u64.wrap (n : Int) = n := by
  simp [IntKind.wrap, IntKind.bits, IntKind.signed]
  omega

theorem pow_u64 {p : Nat} (hp : p < 64) : IntKind.u64.wrap (2 ^ p) = ((2 ^ p : Nat) : Int) := by
  have : (2 : Int) ^ p = ((2 ^ p : Nat) : Int) := by simp
  rw [this]
  refine wrap_u64_nat _ ?_
  exact Nat.lt_of_lt_of_le (Nat.pow_lt_pow_right (by omega) hp) (by decide)

theorem word_clear {s : Int} {f : Nat → Bool} {p : Nat} (h : WordOk s f) (hp : p < 64) : WordOk (bits BinOp.andNot IntKind.u64 s (IntKind.u64.wrap (2 ^ p))) (fun q => if q = p then false else f q) := by
  obtain ⟨b, rfl, hb⟩ := h
  rw [pow_u64 hp]
  refine ⟨b &&& ~~~ (BitVec.twoPow 64 p), ?_, fun q hq => ?_⟩
  · unfold bits
    simp only [IntKind.bits, BitVec.ofInt_natCast, BitVec.ofNat_toNat]
    rw [show BitVec.ofNat 64 (2 ^ p) = BitVec.twoPow 64 p by apply BitVec.eq_of_toNat_eq; simp]
    rw [show BitVec.setWidth 64 b = b by simp]
    exact wrap_u64_nat _ (BitVec.isLt _)
  · rw [BitVec.getLsbD_and, BitVec.getLsbD_not, BitVec.getLsbD_twoPow, hb q hq]
    by_cases e : q = p
    · subst e
      simp [hq]
    · simp [e, hq, Ne.symm e]

theorem word_set {s : Int} {f : Nat → Bool} {p : Nat} (h : WordOk s f) (hp : p < 64) : WordOk (bits BinOp.or IntKind.u64 s (IntKind.u64.wrap (2 ^ p))) (fun q => if q = p then true else f q) := by
  obtain ⟨b, rfl, hb⟩ := h
  rw [pow_u64 hp]
  refine ⟨b ||| (BitVec.twoPow 64 p), ?_, fun q hq => ?_⟩
  · unfold bits
    simp only [IntKind.bits, BitVec.ofInt_natCast, BitVec.ofNat_toNat]
    rw [show BitVec.ofNat 64 (2 ^ p) = BitVec.twoPow 64 p by apply BitVec.eq_of_toNat_eq; simp]
    rw [show BitVec.setWidth 64 b = b by simp]
    exact wrap_u64_nat _ (BitVec.isLt _)
  · rw [BitVec.getLsbD_or, BitVec.getLsbD_twoPow, hb q hq]
    by_cases e : q = p
    · subst e
      simp [hq]
    · simp [e, hq, Ne.symm e]

theorem word_zero {s : Int} {f : Nat → Bool} (h : WordOk s f) : (s = 0 ↔ ∀ q, q < 64 → f q = false) := by
  obtain ⟨b, rfl, hb⟩ := h
  constructor
  · intro h q hq
    have : b = 0#64 := by apply BitVec.eq_of_toNat_eq; simp; omega
    rw [← hb q hq, this]
    simp
  · intro h
    have : b = 0#64 := by
      apply BitVec.eq_of_getLsbD_eq
      intro i hi
      rw [hb i hi, h i hi]
      simp
    rw [this]
    rfl

theorem WordOk.congr {s : Int} {f g : Nat → Bool} (h : WordOk s f) (e : ∀ q, q < 64 → f q = g q) : WordOk s g := by
  obtain ⟨b, rfl, hb⟩ := h
  exact ⟨b, rfl, fun q hq => (hb q hq).trans (e q hq)⟩

/-- The highest bit of a word that isn't 0. -/
theorem word_top {s : Int} {f : Nat → Bool} (h : WordOk s f) (hs : s ≠ 0) : ∃ p, p < 64 ∧ Nat.log2 s.toNat = p ∧ f p = true ∧ ∀ q, p < q → q < 64 → f q = false := by
  obtain ⟨b, rfl, hb⟩ := h
  have hn : b.toNat ≠ 0 := by omega
  have hlt : b.toNat.log2 < 64 := (Nat.log2_lt hn).2 b.isLt
  refine ⟨b.toNat.log2, hlt, by simp, ?_, fun q hq h64 => ?_⟩
  · rw [← hb _ hlt]
    exact Nat.testBit_log2 hn
  · rw [← hb q h64]
    exact Nat.testBit_lt_two_pow ((Nat.log2_lt hn).1 hq)

theorem Kept.drew {w w' : World} {S : Nat → Prop} (h : Kept w w' S) : Kept w w'.drew S := ⟨h.os, h.tape, h.output, h.size, h.block⟩
theorem Hdr.drew {w : World} {l : Nat} {V : Nat → Value} {s : Int} (h : Hdr w l V s) : Hdr w.drew l V s := h.keep rfl

def NotePost (w : World) (l p : Nat) (V : Nat → Value) (f : Nat → Bool) (a : Option Addr) (n c : Nat) (e : Ending) (w' : World) : Prop :=
  e = .returned (.tuple #[]) ∧ ∃ s', Hdr w' l (upd V p (.slice a n c)) s' ∧ WordOk s' (upd f p (decide (0 < n))) ∧ Kept w w' (fun i => i = l)

set_option maxRecDepth 100000 in
set_option maxHeartbeats 1000000 in
theorem note_any (l p : Nat) (V : Nat → Value) (s : Int) (f : Nat → Bool) (a : Option Addr) (n c : Nat) (w : World) (h : Hdr w l V s) (hp : p < 64) (hs : WordOk s f) :
    Calls Tryz.prog 97 #[.pointer (some ⟨l, 0, none⟩), .int .i64 p, .slice a n c] w (NotePost w l p V f a n c) := by
  have hr := h.row hp
  have hfr := h.fz p
  have H1 := Lib.hid (h.put hp (.slice a n c))
  have hl := h.lt
  have HS := Lib.hid hs
  have HP := Lib.hid hp
  clear h hs
  go_enter Tryz.func97, Tryz.ntmps97
  go_wp2_with fail
  obtain ⟨W1, hW1⟩ : ∃ W1, W1 = w.setCell ⟨l, p, none⟩ (.slice a n c) := ⟨_, rfl⟩
  rw [← hW1]
  have H1' : Hid (Hdr W1 l (upd V p (.slice a n c)) s) := by rw [hW1]; exact H1.out
  have K1 : Hid (Kept w W1 (fun i => i = l)) := by rw [hW1]; exact Kept.setCell w l p _
  have hw1 := H1'.out.word
  have hf1 := H1'.out.fz 64
  have hl1 := H1'.out.lt
  clear hW1 H1 hr hfr
  by_cases hn : 0 < n
  · go_region
    go_wp2_with fail
    obtain ⟨s2, hs2⟩ : ∃ s2, s2 = bits BinOp.andNot IntKind.u64 s (IntKind.u64.wrap (2 ^ p)) := ⟨_, rfl⟩
    have HS2 : Hid (WordOk s2 (fun q => if q = p then false else f q)) := by rw [hs2]; exact word_clear HS.out HP.out
    rw [← hs2]
    clear hs2
    obtain ⟨W2, hW2⟩ : ∃ W2, W2 = (W1.setCell ⟨l, 64, none⟩ (.int .u64 s2)).drew := ⟨_, rfl⟩
    rw [← hW2]
    have H2 : Hid (Hdr W2 l (upd V p (.slice a n c)) s2) := by rw [hW2]; exact (H1'.out.setWord s2).drew
    have K2 : Hid (Kept w W2 (fun i => i = l)) := by rw [hW2]; exact (K1.out.trans (Kept.setCell W1 l 64 _) (fun _ _ h => h)).drew
    have hw2 := H2.out.word
    have hf2 := H2.out.fz 64
    have hl2 := H2.out.lt
    clear hW2 hw1 hf1 hl1
    go_region
    go_end0
    refine ⟨rfl, _, (H2.out.setWord _).drew, (word_set HS2.out HP.out).congr (fun q hq => ?_), (K2.out.trans (Kept.setCell W2 l 64 _) (fun _ _ h => h)).drew⟩
    unfold upd
    by_cases e : q = p <;> simp [e, hn]
  · go_region
    go_wp2
    go_end0
    refine ⟨rfl, _, (H1'.out.setWord _).drew, (word_clear HS.out HP.out).congr (fun q hq => ?_), (K1.out.trans (Kept.setCell W1 l 64 _) (fun _ _ h => h)).drew⟩
    unfold upd
    by_cases e : q = p <;> simp [e, hn]

end Go.Proofs.YtgnjenmicojgnaaGreat

namespace Go.Proofs.YtgnjenmicojgnaaGreat
set_option linter.unusedVariables false
set_option linter.unusedSimpArgs false
open Go.RowKit

def inL (l : Nat) (V : Nat → Value) (i : Nat) : Prop := i = l ∨ ∃ p, p < 64 ∧ (V p).ownBlock = some i

/-- The list at l has the rows R; V are its slices. -/
structure Rdy (w : World) (l : Nat) (V : Nat → Value) (R : Nat → List Int) : Prop where
  hdr : ∃ s, Hdr w l V s ∧ WordOk s (fun p => decide (0 < (R p).length))
  rows : ∀ p, p < 64 → Own w (V p) (R p)
  apart : ∀ p q, p < 64 → q < 64 → p ≠ q → ∀ k, (V p).ownBlock = some k → (V q).ownBlock ≠ some k
  lne : ∀ p, p < 64 → (V p).ownBlock ≠ some l

theorem Rdy.keep {w w' : World} {l : Nat} {V : Nat → Value} {R : Nat → List Int} (h : Rdy w l V R) (hb : ∀ i, inL l V i → w'.heap[i]? = w.heap[i]?) : Rdy w' l V R := by
  obtain ⟨s, h1, h2⟩ := h.hdr
  exact ⟨⟨s, h1.keep (hb l (.inl rfl)), h2⟩, fun p hp => (h.rows p hp).keep (fun k hk => hb k (.inr ⟨p, hp, hk⟩)), h.apart, h.lne⟩

theorem Rdy.lt {w : World} {l : Nat} {V : Nat → Value} {R : Nat → List Int} (h : Rdy w l V R) {i : Nat} (hi : inL l V i) : i < w.heap.size := by
  rcases hi with rfl | ⟨p, hp, hk⟩
  · obtain ⟨s, h1, _⟩ := h.hdr
    exact h1.lt
  · exact (h.rows p hp).lt i hk

theorem Rdy.kept {w w' : World} {l : Nat} {V : Nat → Value} {R : Nat → List Int} {S : Nat → Prop} (h : Rdy w l V R) (hk : Kept w w' S) (hs : ∀ i, inL l V i → ¬ S i) : Rdy w' l V R :=
  h.keep (fun i hi => hk.block i (h.lt hi) (hs i hi))

theorem Rdy.below {w w' : World} {l : Nat} {V : Nat → Value} {R : Nat → List Int} (h : Rdy w l V R) (hb : Below w.heap.size w w') : Rdy w' l V R :=
  h.keep (fun i hi => hb.block i (h.lt hi))

/-- One row has become another one, and note was called. -/
theorem Rdy.step {w w1 w2 : World} {l p n c : Nat} {a : Option Addr} {V : Nat → Value} {R : Nat → List Int} {xs : List Int} {s' : Int} (h : Rdy w l V R) (hp : p < 64) (hk : Kept w w1 (fun i => (V p).ownBlock = some i))
    (ho : Own w1 (.slice a n c) xs) (hn : n = xs.length) (hf : ∀ k, (Value.slice a n c).ownBlock = some k → (V p).ownBlock = some k ∨ w.heap.size ≤ k)
    (hh : Hdr w2 l (upd V p (.slice a n c)) s') (hw : WordOk s' (upd (fun p => decide (0 < (R p).length)) p (decide (0 < n)))) (hk2 : Kept w1 w2 (fun i => i = l)) :
    Rdy w2 l (upd V p (.slice a n c)) (upd R p xs) ∧ Kept w w2 (inL l V) ∧ (∀ i, inL l (upd V p (.slice a n c)) i → inL l V i ∨ w.heap.size ≤ i) := by
  have hlw := h.lt (.inl rfl)
  have hrow : ∀ q, q < 64 → Own w2 (upd V p (.slice a n c) q) (upd R p xs q) := by
    intro q hq
    by_cases e : q = p
    · subst e
      rw [upd_same, upd_same]
      refine ho.keep (fun k hk' => hk2.block k (ho.lt k hk') ?_)
      rintro rfl
      rcases hf _ hk' with h1 | h1
      · exact h.lne q hq h1
      · omega
    · rw [upd_other _ _ e, upd_other _ _ e]
      refine (h.rows q hq).keep (fun k hk' => ?_)
      have hkl := (h.rows q hq).lt k hk'
      rw [hk2.block k (Nat.lt_of_lt_of_le hkl hk.size) (by rintro rfl; exact h.lne q hq hk'), hk.block k hkl (fun e' => h.apart q p hq hp e k hk' e')]
  refine ⟨⟨⟨s', hh, hw.congr (fun q hq => ?_)⟩, hrow, fun q r hq hr hqr k hk' => ?_, fun q hq => ?_⟩, ?_, ?_⟩
  · unfold upd
    by_cases e : q = p
    · rw [if_pos e, if_pos e, hn]
    · rw [if_neg e, if_neg e]
  · have hlt : ∀ q, q < 64 → ∀ k, (V q).ownBlock = some k → k < w.heap.size := fun q hq k hk => (h.rows q hq).lt k hk
    by_cases e : q = p
    · subst e
      rw [upd_same] at hk'
      rw [upd_other _ _ (Ne.symm hqr)]
      intro hk2'
      rcases hf k hk' with h1 | h1
      · exact h.apart q r hq hr hqr k h1 hk2'
      · have := hlt r hr k hk2'
        omega
    · rw [upd_other _ _ e] at hk'
      by_cases e2 : r = p
      · subst e2
        rw [upd_same]
        intro hk2'
        rcases hf k hk2' with h1 | h1
        · exact h.apart q r hq hr hqr k hk' h1
        · have := hlt q hq k hk'
          omega
      · rw [upd_other _ _ e2]
        exact h.apart q r hq hr hqr k hk'
  · by_cases e : q = p
    · subst e
      rw [upd_same]
      intro hk'
      rcases hf l hk' with h1 | h1
      · exact h.lne q hq h1
      · omega
    · rw [upd_other _ _ e]
      exact h.lne q hq
  · refine (hk.mono (fun i _ hi => ?_)).trans hk2 (fun i _ hi => .inl hi)
    exact .inr ⟨p, hp, hi⟩
  · intro i hi
    rcases hi with rfl | ⟨q, hq, hk'⟩
    · exact .inl (.inl rfl)
    · by_cases e : q = p
      · subst e
        rw [upd_same] at hk'
        rcases hf i hk' with h1 | h1
        · exact .inl (.inr ⟨q, hq, h1⟩)
        · exact .inr h1
      · rw [upd_other _ _ e] at hk'
        exact .inl (.inr ⟨q, hq, hk'⟩)

/-- The first row that has an id. -/
def prio (R : Nat → List Int) (id : Int) : Option Nat := (List.range 64).find? (fun p => decide (id ∈ R p))

theorem prio_some {R : Nat → List Int} {id : Int} {p : Nat} (h : prio R id = some p) : p < 64 ∧ id ∈ R p := by
  unfold prio at h
  have h1 := List.mem_of_find?_eq_some h
  have h2 := List.find?_some h
  exact ⟨List.mem_range.1 h1, of_decide_eq_true h2⟩
theorem prio_none {R : Nat → List Int} {id : Int} (h : prio R id = none) : ∀ p, p < 64 → id ∉ R p := by
  intro p hp hm
  unfold prio at h
  rw [List.find?_eq_none] at h
  exact h p (List.mem_range.2 hp) (decide_eq_true hm)
theorem prio_first {R : Nat → List Int} {id : Int} {p : Nat} (hp : p < 64) (hm : id ∈ R p) (h0 : ∀ q, q < p → id ∉ R q) : prio R id = some p := by
  unfold prio
  rw [List.find?_eq_some_iff_getElem]
  refine ⟨decide_eq_true hm, p, by simpa using hp, by simp, fun j hj => ?_⟩
  simpa using h0 j hj
theorem prio_not {R : Nat → List Int} {id : Int} (h0 : ∀ q, q < 64 → id ∉ R q) : prio R id = none := by
  unfold prio
  rw [List.find?_eq_none]
  intro q hq
  simpa using h0 q (List.mem_range.1 hq)

theorem index_rows {cs : Array Value} {k : Nat} {v : Value} (h : cs[k]? = some v) (hk : k < 64) (w : World) : Sem.run Tryz.prog (Instr.index 122 (.agg cs) (.int .i64 k)) w = .ok v w := by
  have hk' : (k : Int) < 64 := by omega
  have hn : ¬ (k : Int) < 0 := by omega
  simp [Instr.index, asIntOf, run_underlying Tryz.underlying122, part, hk', Tryz.sizeOf121, Tryz.isAgg121, h]
  intro h
  omega

set_option maxRecDepth 100000 in
set_option maxHeartbeats 1000000 in
theorem prio_any (l : Nat) (V : Nat → Value) (R : Nat → List Int) (id : Int) (w : World) (h : Rdy w l V R) :
    Calls Tryz.prog 109 #[.pointer (some ⟨l, 0, none⟩), .int .i64 id] w fun e w' => e = .returned (.tuple #[.int .i64 ((prio R id).getD 0 : Nat), .bool (prio R id).isSome]) ∧ w' = w := by
  obtain ⟨s, hh, hw⟩ := h.hdr
  have hload : w.rangeAt l 0 ((List.range 64).map V) := by
    intro j v hj
    rw [List.getElem?_map] at hj
    by_cases hj64 : j < 64
    · rw [List.getElem?_range hj64] at hj
      simp at hj
      subst hj
      rw [Nat.zero_add]
      exact hh.row hj64
    · rw [List.getElem?_eq_none_iff.2 (by simp; omega)] at hj
      cases hj
  obtain ⟨AL, hAL⟩ : ∃ AL, AL = (List.range 64).map V := ⟨_, rfl⟩
  have hsz : AL.length = 64 := by rw [hAL]; simp
  have hat : ∀ k, k < 64 → AL[k]? = some (V k) := fun k hk => by rw [hAL, List.getElem?_map, List.getElem?_range hk]; rfl
  rw [← hAL] at hload
  have HL := Lib.hid hload
  have HSZ := Lib.hid hsz
  have HAT := Lib.hid hat
  clear hAL hload hat hsz
  have HR := Lib.hid h
  have hl := hh.lt
  clear h hh hw
  go_enter Tryz.func109, Tryz.ntmps109
  go_wp2_with fail
  go_step3
  go_wp2_with fail
  go_step3
  go_wp2_with (first | (refine wpList_load_mid rfl 122 _ rfl l 0 rfl AL _ HL.out Tryz.underlying122 rfl (by rw [HSZ.out]; kernel_rfl) ?_))
  go_loopw [6, 7, 18] (fun s6 s7 s18 wr => ∃ k : Nat, k ≤ 64 ∧ s6 = .int .i64 0 ∧ s7 = .bool false ∧ s18 = .int .i64 k ∧ (∀ q, q < k → id ∉ R q) ∧ wr = w) (fun _ _ i _ => 64 - (intOf i).toNat)
  case atStart => exact ⟨0, by omega, rfl, rfl, rfl, fun q hq => absurd hq (Nat.not_lt_zero _), rfl⟩
  case round =>
    obtain ⟨k, hk, rfl, rfl, rfl, hno, rfl⟩ := hrel
    have HNO := Lib.hid hno
    clear hno
    by_cases hlt : k < 64
    · have hown := HR.out.rows k hlt
      obtain ⟨a, n, c, hV, hn, hc⟩ : ∃ a n c, V k = .slice a n c ∧ (n = (R k).length ∧ n ≤ 9223372036854775807) ∧ ∀ (j : Nat) (x : Int), (R k)[j]? = some x → ∃ g, a = some ⟨g, 0, none⟩ ∧ g < wr.heap.size ∧ wr.cell? ⟨g, j, none⟩ = some (.int .i64 x) := by
        rcases hown.shape with ⟨h1, h2⟩ | ⟨g, c, cur, h1, h2, h3, h4, h5, h6⟩
        · exact ⟨none, 0, 0, h1, ⟨by rw [h2]; rfl, by omega⟩, fun j x hx => by rw [h2] at hx; simp at hx⟩
        · refine ⟨_, _, _, h1, ⟨rfl, by unfold maxLen at h5; omega⟩, fun j x hx => ⟨g, rfl, (Array.getElem?_eq_some_iff.1 h2).1, ?_⟩⟩
          rw [cell_of_row wr g j cur 3 (0, 0) h2]
          exact h6 j x hx
      have hget : AL.toArray[k]? = some (.slice a n c) := by
        rw [List.getElem?_toArray, HAT.out k hlt, hV]
      have hidx := fun W => index_rows hget hlt W
      obtain ⟨hn, hnm⟩ := hn
      have HN := Lib.hid hn
      have HC := Lib.hid hc
      clear hown hn hc hV hget
      go_wp2_with fail
      go_loopw [6, 7, 24] (fun s6 s7 s24 wx => ∃ j : Nat, j ≤ n ∧ s6 = .int .i64 0 ∧ s7 = .bool false ∧ s24 = .int .i64 j ∧ (∀ (i : Nat) (x : Int), i < j → (R k)[i]? = some x → x ≠ id) ∧ wx = wr) (fun _ _ i _ => n - (intOf i).toNat)
      case atStart => exact ⟨0, by omega, rfl, rfl, rfl, fun q _ hq => absurd hq (Nat.not_lt_zero _), rfl⟩
      case round =>
        obtain ⟨j, hj, rfl, rfl, rfl, hno, rfl⟩ := hrel
        have HNI := Lib.hid hno
        clear hno
        by_cases hjn : j < n
        · obtain ⟨x, hx⟩ : ∃ x, (R k)[j]? = some x := ⟨_, List.getElem?_eq_getElem (by have := HN.out; omega)⟩
          obtain ⟨g, rfl, hgl, hcell⟩ := HC.out j x hx
          have HX := Lib.hid hx
          clear hx
          by_cases hxe : x = id
          · have hxb : (x == id) = true := by simpa using hxe
            go_wp2_with fail
            rw [Exit.noGoto_ret]
            go_ret2
            have hfound : prio R id = some k := prio_first hlt (by rw [← hxe]; exact List.mem_of_getElem? HX.out) HNO.out
            rw [hfound]
            exact ⟨rfl, rfl⟩
          · have hxb : (x == id) = false := by simpa using hxe
            go_wp2_with fail
            go_roundw
            case rel =>
              refine ⟨j + 1, by omega, rfl, rfl, by go_num, fun i y hi hy => ?_, by first | rfl | trivial⟩
              by_cases e : i = j
              · subst e
                have := HX.out.symm.trans hy
                injection this with this
                rw [← this]
                exact hxe
              · exact HNI.out i y (by omega) hy
            case measure => simp [intOf]; omega
        · go_wp2_with fail
          go_roundw
          case rel =>
            refine ⟨k + 1, by omega, rfl, rfl, by go_num, fun q hq => ?_, by first | rfl | trivial⟩
            by_cases e : q = k
            · subst e
              intro hm
              obtain ⟨i, hi⟩ := List.getElem?_of_mem hm
              exact HNI.out i id (by have := (List.getElem?_eq_some_iff.1 hi).1; have := HN.out; omega) hi rfl
            · exact HNO.out q (by omega)
          case measure => simp [intOf]; omega
    · have hnone : prio R id = none := prio_not (fun q hq => HNO.out q (by omega))
      go_wp2_with fail
      rw [Exit.noGoto_ret]
      go_ret2
      rw [hnone]
      exact ⟨rfl, rfl⟩
end Go.Proofs.YtgnjenmicojgnaaGreat

namespace Go.Proofs.YtgnjenmicojgnaaGreat
set_option linter.unusedVariables false
set_option linter.unusedSimpArgs false
open Go.RowKit

theorem Own.sl {w : World} {v : Value} {xs : List Int} (h : Own w v xs) : ∃ a c, v = .slice a xs.length c := by
  rcases h.shape with ⟨h1, rfl⟩ | ⟨g, c, cur, h1, _⟩
  · exact ⟨none, 0, h1⟩
  · exact ⟨_, _, h1⟩

theorem Own.alloc {w : World} {v : Value} {xs : List Int} (h : Own w v xs) (o : Obj) : Own (w.alloc o) v xs := h.keep (fun k hk => Below.heap_alloc w o k (h.lt k hk))

/-- What an operation on a list leaves. -/
def LPost (w : World) (l : Nat) (V : Nat → Value) (R' : Nat → List Int) (v : Value) (e : Ending) (w' : World) : Prop :=
  e = .returned v ∧ ∃ V', Rdy w' l V' R' ∧ Kept w w' (inL l V) ∧ (∀ i, inL l V' i → inL l V i ∨ w.heap.size ≤ i)

theorem prio_is {l : Nat} {V : Nat → Value} {R : Nat → List Int} {id : Int} {w : World} {k : Nat} {b : Bool} (h : Rdy w l V R) (hk : (prio R id).getD 0 = k) (hb : (prio R id).isSome = b) :
    Calls Tryz.prog 109 #[.pointer (some ⟨l, 0, none⟩), .int .i64 id] w fun e w' => e = .returned (.tuple #[.int .i64 k, .bool b]) ∧ w' = w := by
  have := prio_any l V R id w h
  rw [hk, hb] at this
  exact this

set_option maxRecDepth 100000 in
set_option maxHeartbeats 1000000 in
theorem check_any (l p : Nat) (V : Nat → Value) (R : Nat → List Int) (id : Int) (w : World) (h : Rdy w l V R) (hid : 0 ≤ id) (hp : p < 64) (hno : prio R id = none) :
    Calls Tryz.prog 127 #[.pointer (some ⟨l, 0, none⟩), .int .i64 id, .int .i64 p] w fun e w' => e = .returned (.int .i64 0) ∧ w' = w := by
  have HR := Lib.hid h
  have HNO := Lib.hid hno
  clear h hno
  go_enter Tryz.func127, Tryz.ntmps127
  go_wp2_with fail
  refine (prio_is (k := 0) (b := false) HR.out (by rw [HNO.out]; rfl) (by rw [HNO.out]; rfl)).mono ?_
  rintro e w1 ⟨rfl, rfl⟩
  go_wp2
  go_ret
  exact ⟨rfl, rfl⟩

set_option maxRecDepth 100000 in
set_option maxHeartbeats 1000000 in
theorem put_any (l p : Nat) (V : Nat → Value) (R : Nat → List Int) (id : Int) (w : World) (h : Rdy w l V R) (hid : 0 ≤ id) (hp : p < 64) (hno : prio R id = none) (hl : (R p).length ≤ 1000) :
    Calls Tryz.prog 79 #[.pointer (some ⟨l, 0, none⟩), .int .i64 id, .int .i64 p] w (LPost w l V (upd R p (R p ++ [id])) (.int .i64 0)) := by
  have HR := Lib.hid h
  have HNO := Lib.hid hno
  clear h hno
  go_enter Tryz.func79, Tryz.ntmps79
  go_wp2_with fail
  refine (check_any l p V R id w HR.out hid hp HNO.out).mono ?_
  rintro e w1 ⟨rfl, rfl⟩
  obtain ⟨s, hh, hw⟩ := HR.out.hdr
  have hrow := hh.row hp
  have hll := hh.lt
  have HH := Lib.hid hh
  have HW := Lib.hid hw
  obtain ⟨a, c, hV⟩ := (HR.out.rows p hp).sl
  obtain ⟨v', w2, hrun, ho, hg, hf⟩ := own_append (t := 121) (tx := 121) (ty := 121) Tryz.underlying121 Tryz.underlying121 ((HR.out.rows p hp).alloc (.cells #[.int .i64 id] 3)) (x := .slice (some ⟨w1.heap.size, 0, none⟩) 1 1) (ys := [id]) ⟨_, _, rfl, fun _ => ⟨_, rfl, fun j u hu => by
    match j, hu with
    | 0, hu =>
      simp [iv] at hu
      subst hu
      simp [Addr.add]
    | j + 1, hu => simp [iv] at hu⟩⟩ (by simp; omega)
  rw [hV] at hrow hrun hg hf
  obtain ⟨a', c', rfl⟩ := ho.sl
  have hk : Kept w1 w2 (fun i => (V p).ownBlock = some i) := by
    rw [hV]
    exact (Kept.of_below ((Below.refl _ _).alloc (Nat.le_refl _) _)).trans (Kept.of_grown hg (S := fun i => (Value.slice a (R p).length c).ownBlock = some i) (fun i hi => hi)) (fun _ _ hi => hi)
  have hh2 : Hdr w2 l V s := hh.keep (hk.block l hll (HR.out.lne p hp))
  have HH2 := Lib.hid hh2
  have HO := Lib.hid ho
  have HK := Lib.hid hk
  have HF : Hid (∀ k, (Value.slice a' (R p ++ [id]).length c').ownBlock = some k → (V p).ownBlock = some k ∨ w1.heap.size ≤ k) := by
    intro k hk'
    rw [hV]
    rcases hf k hk' with h1 | h1
    · exact .inl h1
    · exact .inr (by simp at h1; omega)
  clear hh hw hV ho hg hf hk hh2
  obtain ⟨n', hn'⟩ : ∃ n', (R p ++ [id]).length = n' := ⟨_, rfl⟩
  rw [hn'] at hrun HO HF
  have HN := Lib.hid hn'
  clear hn'
  go_wp2_with (first | (at_builtin; refine Lib.wpList_append_run _ rfl _ _ _ _ rfl _ _ rfl rfl _ _ hrun ?_))
  refine (note_any l p V s _ a' n' c' w2 HH2.out hp HW.out).mono ?_
  rintro e w3 ⟨rfl, s', hh3, hw3, hk3⟩
  obtain ⟨h1, h2, h3⟩ := HR.out.step hp HK.out HO.out HN.out.symm HF.out hh3 hw3 hk3
  have HP : Hid (LPost w1 l V (upd R p (R p ++ [id])) (.int .i64 0) (.returned (.int .i64 0)) w3) := ⟨rfl, _, h1, h2, h3⟩
  clear hh3 hw3 hk3 h1 h2 h3
  go_wp2
  go_ret
  exact HP.out

end Go.Proofs.YtgnjenmicojgnaaGreat

namespace Go.Proofs.YtgnjenmicojgnaaGreat
set_option linter.unusedVariables false
set_option linter.unusedSimpArgs false
open Go.RowKit

set_option maxRecDepth 100000 in
set_option maxHeartbeats 1000000 in
theorem index_any (a : Option Addr) (n c k : Nat) (xs : List Int) (id : Int) (w : World) (h : Own w (.slice a n c) xs) (hk : xs[k]? = some id) (h0 : ∀ (j : Nat) (x : Int), j < k → xs[j]? = some x → x ≠ id) :
    Calls Tryz.prog 124 #[.slice a n c, .int .i64 id] w fun e w' => e = .returned (.int .i64 k) ∧ w' = w := by
  rcases h.shape with ⟨_, rfl⟩ | ⟨g, c', cur, hv, hg, hs, hn, hm, hc⟩
  · simp at hk
  injection hv with e1 e2 e3
  subst e1 e2 e3
  have hgl : g < w.heap.size := (Array.getElem?_eq_some_iff.1 hg).1
  have hkl : k < xs.length := (List.getElem?_eq_some_iff.1 hk).1
  have HC : Hid (∀ (j : Nat) (x : Int), xs[j]? = some x → w.cell? ⟨g, j, none⟩ = some (.int .i64 x)) := fun j x hx => by
    rw [cell_of_row w g j cur 3 (0, 0) hg]
    exact hc j x hx
  have HK := Lib.hid hk
  have H0 := Lib.hid h0
  have hnm : xs.length ≤ 9223372036854775807 := by unfold maxLen at hm; omega
  obtain ⟨n, hn'⟩ : ∃ n, xs.length = n := ⟨_, rfl⟩
  rw [hn'] at hnm hkl ⊢
  have HN := Lib.hid hn'
  clear h hk h0 hg hs hn hm hc hn'
  go_enter Tryz.func124, Tryz.ntmps124
  go_wp2_with fail
  go_loopw [8] (fun s8 wr => ∃ j : Nat, j ≤ k ∧ s8 = .int .i64 j ∧ wr = w) (fun i _ => n - (intOf i).toNat)
  case atStart => exact ⟨0, by omega, rfl, rfl⟩
  case round =>
    obtain ⟨j, hj, rfl, rfl⟩ := hrel
    have hjn : j < n := by omega
    obtain ⟨x, hx⟩ : ∃ x, xs[j]? = some x := ⟨_, List.getElem?_eq_getElem (by have := HN.out; omega)⟩
    have hcell := HC.out j x hx
    by_cases hjk : j = k
    · subst hjk
      have hxe : x = id := by
        have := hx.symm.trans HK.out
        injection this
      subst hxe
      clear hx
      go_wp2_with fail
      go_ret
      exact ⟨rfl, rfl⟩
    · have hxe : x ≠ id := H0.out j x (by omega) hx
      have hxb : (id == x) = false := by simpa using Ne.symm hxe
      have hxe' : ¬ id = x := Ne.symm hxe
      clear hx
      go_wp2_with fail
      go_roundw
      case rel => exact ⟨j + 1, by omega, by go_num, trivial⟩
      case measure => simp [intOf]; omega

theorem heap_setCells {g : Nat} {T : TypeId} : ∀ (vs : List Value) (o : Nat) (w : World) (cur : Array Value), w.heap[g]? = some (.cells cur T (0, 0)) → ∃ cur', (w.setCells g o vs).heap[g]? = some (.cells cur' T (0, 0)) ∧ cur'.size = cur.size ∧ ∀ j, j < cur.size → cur'[j]? = if o ≤ j ∧ j < o + vs.length then vs[j - o]? else cur[j]?
  | [], o, w, cur, h => ⟨cur, h, rfl, fun j hj => by rw [if_neg (by rintro ⟨h1, h2⟩; simp at h2; omega)]⟩
  | v :: r, o, w, cur, h => by
    obtain ⟨cur', h1, h2, h3⟩ := heap_setCells r (o + 1) (w.setCell ⟨g, o, none⟩ v) _ (heap_setCell h)
    refine ⟨cur', h1, by rw [h2]; simp, fun j hj => ?_⟩
    rw [h3 j (by simpa using hj), Array.getElem?_setIfInBounds]
    by_cases e : o = j
    · subst e
      rw [if_neg (by omega), if_pos rfl, if_pos hj, if_pos (by simp)]
      simp
    · by_cases e2 : o + 1 ≤ j ∧ j < o + 1 + r.length
      · rw [if_pos e2, if_pos (by simp; omega)]
        rw [show j - o = (j - (o + 1)) + 1 by omega]
        simp
      · rw [if_neg e2, if_neg e, if_neg (by simp; omega)]

theorem heap_setCells_other' (g i : Nat) (h : i ≠ g) : ∀ (vs : List Value) (o : Nat) (w : World), (w.setCells g o vs).heap[i]? = w.heap[i]?
  | [], _, _ => rfl
  | v :: r, o, w => by rw [World.setCells, heap_setCells_other' g i h r, heap_setCell_other h]

theorem size_setCells (g : Nat) : ∀ (vs : List Value) (o : Nat) (w : World), (w.setCells g o vs).heap.size = w.heap.size
  | [], _, _ => rfl
  | v :: r, o, w => by rw [World.setCells, size_setCells g r]; simp
theorem os_setCells (g : Nat) : ∀ (vs : List Value) (o : Nat) (w : World), (w.setCells g o vs).os = w.os ∧ (w.setCells g o vs).tape = w.tape ∧ (w.setCells g o vs).output = w.output
  | [], _, _ => ⟨rfl, rfl, rfl⟩
  | v :: r, o, w => by rw [World.setCells]; exact os_setCells g r (o + 1) _
theorem Kept.setCells (w : World) (g o : Nat) (vs : List Value) : Kept w (w.setCells g o vs) (fun i => i = g) :=
  ⟨(os_setCells g vs o w).1, (os_setCells g vs o w).2.1, (os_setCells g vs o w).2.2, Nat.le_of_eq (size_setCells g vs o w).symm, fun i _ hn => heap_setCells_other' g i hn vs o w⟩

set_option maxRecDepth 100000 in
set_option maxHeartbeats 4000000 in
theorem delete_any (g n c k j : Nat) (xs : List Int) (w : World) (h : Own w (.slice (some ⟨g, 0, none⟩) n c) xs) (hn : n = xs.length) (hk : k < n) (hj : j = k + 1) :
    Calls Tryz.prog 125 #[.slice (some ⟨g, 0, none⟩) n c, .int .i64 k, .int .i64 j] w fun e w' => e = .returned (.slice (some ⟨g, 0, none⟩) (n - 1) c) ∧ Own w' (.slice (some ⟨g, 0, none⟩) (n - 1) c) (xs.eraseIdx k) ∧ Kept w w' (fun i => i = g) := by
  obtain ⟨i0, hi0, hz0, hz1, hz2⟩ := info_parts infoInt
  rcases h.shape with ⟨hv, _⟩ | ⟨g', c', cur, hv, hg, hs, hnc, hm, hc⟩
  · cases hv
  injection hv with e1 e2 e3
  injection e1 with e1
  injection e1 with e1
  subst e1 e3
  subst hs
  have hnews : ∀ (t : Nat) (u : Value), (iv (xs.drop j))[t]? = some u → w.drew.cell? ⟨g, j + t, none⟩ = some u := fun t u hu => by
    show w.cell? _ = _
    rw [cell_of_row w g _ cur 3 (0, 0) hg]
    unfold iv at hu
    rw [List.getElem?_map, List.getElem?_drop] at hu
    cases hx : xs[j + t]? with
    | none => rw [hx] at hu; cases hu
    | some x =>
      rw [hx] at hu
      simp at hu
      subst hu
      exact hc _ x hx
  have hlen : (iv (xs.drop j)).length = n - j := by rw [iv_length, List.length_drop, hn]
  obtain ⟨A, hA, hsrc⟩ : ∃ A : Addr, (if cur.size = j then some (⟨g, 0, none⟩ : Addr) else some ⟨g, j, none⟩) = some A ∧ Hid (∀ t u, (iv (xs.drop j))[t]? = some u → w.drew.cell? (A.add t) = some u) := by
    by_cases h : cur.size = j
    · refine ⟨⟨g, 0, none⟩, by simp [h], fun t u hu => ?_⟩
      have ht := (List.getElem?_eq_some_iff.1 hu).1
      rw [hlen] at ht
      omega
    · refine ⟨⟨g, j, none⟩, by simp [h], fun t u hu => ?_⟩
      rw [Addr.add_lit]
      exact hnews t u hu
  have hspare : Hid (∀ t, t < (iv (xs.drop j)).length → (w.drew.cell? ⟨g, 0 + k * 1 + t, none⟩).isSome = true ∧ w.drew.frozen? ⟨g, 0 + k * 1 + t, none⟩ = false) := by
    intro t ht
    rw [hlen] at ht
    refine ⟨?_, ?_⟩
    · show (w.cell? _).isSome = true
      rw [cell_of_row w g _ cur 3 (0, 0) hg, Array.getElem?_eq_getElem (by omega)]
      rfl
    · show w.frozen? _ = false
      simp [World.frozen?, hg]
  obtain ⟨W1, hW1⟩ : ∃ W1, W1 = w.drew.setCells g (0 + k * 1) (iv (xs.drop j)) := ⟨_, rfl⟩
  obtain ⟨cur1, hg1, hs1, hc1⟩ := heap_setCells (iv (xs.drop j)) (0 + k * 1) w.drew cur hg
  rw [← hW1] at hg1
  have hcl : ∀ ty c', (Builtin.clear_ #[121] ty #[.slice (some ⟨g, k + (n - j), none⟩) (n - (k + (n - j))) c']).run Tryz.prog W1 = .ok (.tuple #[]) (W1.setCells g (k + (n - j)) (List.replicate (n - (k + (n - j))) (.int .i64 0))) :=
    fun ty c' => Lib.run_clear_slice W1 121 3 ty (.int .i64 0) Tryz.underlying121 Tryz.zeroValue3 rfl rfl g (k + (n - j)) _ _ (by omega) (fun t ht => by rw [cell_of_row W1 g _ cur1 3 (0, 0) hg1, Array.getElem?_eq_getElem (by omega)]; rfl) (fun t ht => by simp [World.frozen?, hg1])
  have HC1 := Lib.hid hc1
  have HG := Lib.hid hg
  have HS1 := Lib.hid hs1
  have HG1 := Lib.hid hg1
  have HN := Lib.hid hn
  have HW := Lib.hid hW1
  have HC := Lib.hid hc
  have HJ := Lib.hid hj
  have HLEN : Hid ((iv (xs.drop j)).length = (n - j) * 1) := by unfold Hid; rw [hlen, Nat.mul_one]
  have HM := Lib.hid hm
  have hkc : k ≤ cur.size := by omega
  have hkc1 : j ≤ cur.size := by omega
  have hnc1 : n ≤ cur.size := by omega
  have hcm : cur.size ≤ 9223372036854775807 := by unfold maxLen at hm; omega
  have hkj : k ≤ j := by omega
  have hjn : j ≤ n := by omega
  have hne : ¬ (k : Int) = (j : Int) := by omega
  have hneb : ((k : Int) == (j : Int)) = false := by simp; omega
  obtain ⟨C, hC⟩ : ∃ C, cur.size = C := ⟨_, rfl⟩
  rw [hC] at hA hkc hkc1 hnc1 hcm ⊢
  have HCC := Lib.hid hC
  clear hj hc1 hg hs1 hg1 hn hW1 hc h hnc hm hlen hnews hC e2
  have mixed : Tryz.prog.follows Departure.mixedOrders = true := by kernel_rfl
  go_enter Tryz.func125, Tryz.ntmps125
  go_wp2_with fail
  go_region_law_o (refine step_append_room rfl (.tmp 22) (.tmp 25) 121 rfl 3 i0 1 Tryz.underlying121 hi0 hz1 g 0 k C (by simp [Act.eval, Act.put]) A (n - j) (C - j) (iv (xs.drop j)) (by simp [Act.eval, Act.put]) HLEN.out hsrc.out (iv_one _) (by omega) hspare.out ?_; rw [← HW.out])
  go_wp2
  go_ret
  obtain ⟨cur2, hg2, hs2, hc2⟩ := heap_setCells (List.replicate (n - (k + (n - j))) (.int .i64 0)) (k + (n - j)) W1 cur1 HG1.out
  have hn := HN.out
  have hj := HJ.out
  have hll : (xs.eraseIdx k).length = n - 1 := by rw [List.length_eraseIdx]; rw [if_pos (by omega)]; omega
  have hcc := HCC.out
  have hs1 := HS1.out
  have hm := HM.out
  refine ⟨by simp; omega, ?_, ?_⟩
  · have := Own.make (xs := xs.eraseIdx k) (c := C) hg2 (by omega) (by omega) (by omega) (fun i x hx => ?_)
    · rw [hll] at this
      exact this
    · have hil := (List.getElem?_eq_some_iff.1 hx).1
      rw [hll] at hil
      rw [hc2 i (by omega), if_neg (by simp; omega), HC1.out i (by omega)]
      have hlen := HLEN.out
      rw [List.getElem?_eraseIdx] at hx
      by_cases hik : i < k
      · rw [if_pos hik] at hx
        rw [if_neg (by omega)]
        exact HC.out i x hx
      · rw [if_neg hik] at hx
        rw [if_pos (by omega)]
        unfold iv
        rw [List.getElem?_map, List.getElem?_drop, show j + (i - (0 + k * 1)) = i + 1 by omega, hx]
        rfl
  · have h1 : Kept w W1 (fun i => i = g) := by
      have := Kept.setCells w.drew g (0 + k * 1) (iv (xs.drop j))
      rw [← HW.out] at this
      exact ⟨this.os, this.tape, this.output, this.size, this.block⟩
    exact h1.trans (Kept.setCells W1 g _ _) (fun _ _ h => h)

end Go.Proofs.YtgnjenmicojgnaaGreat

namespace Go.Proofs.YtgnjenmicojgnaaGreat
set_option linter.unusedVariables false
set_option linter.unusedSimpArgs false
open Go.RowKit

theorem mixed : Tryz.prog.follows Departure.mixedOrders = true := by kernel_rfl

set_option maxHeartbeats 4000000 in
set_option maxRecDepth 100000 in
theorem insert_shift (b off n c i vb voff m vc : Nat) (cs vs : List Value) (w : World) (hi : i < n) (hm : 0 < m) (hroom : n + m ≤ c) (hc63 : c ≤ 9223372036854775807) (hvb : vb ≠ b)
    (hcl : cs.length = n) (hvl : vs.length = m)
    (hcs : ∀ j v, cs[j]? = some v → w.cell? ⟨b, off + j, none⟩ = some v) (hsp : ∀ j, j < n + m → (w.cell? ⟨b, off + j, none⟩).isSome = true) (hfz : ∀ j, j < n + m → w.frozen? ⟨b, off + j, none⟩ = false)
    (hvs : ∀ j v, vs[j]? = some v → w.cell? ⟨vb, voff + j, none⟩ = some v) (h1c : ∀ v ∈ cs, v.oneCell' = true) (h1v : ∀ v ∈ vs, v.oneCell' = true)
    (tA tB : TypeId) (kA kB : Nat) (hsa : w.shape? vb = some (tA, kA)) (hsb : w.shape? b = some (tB, kB)) (hkB : kB ≠ 0) (hfa : w.frozen? ⟨vb, voff, none⟩ = false) (hfe : w.frozen? ⟨vb, kA, none⟩ = false) :
    Calls Tryz.prog 130 #[.slice (some ⟨b, off, none⟩) n c, .int .i64 i, .slice (some ⟨vb, voff, none⟩) m vc] w fun e w' =>
      e = .returned (.slice (some ⟨b, off, none⟩) (n + m) c) ∧ w' = (w.drew.setCells b (off + (i + m)) (cs.drop i)).setCells b (off + i) vs := by
  have hz1 : ¬ ((m : Int) = 0) := by omega
  have hz2 : ¬ ((i : Int) = (n : Int)) := by omega
  have hsz : (Tryz.prog.info? 3).map (·.size) = some 1 := by
    obtain ⟨i0, hi0, h0, h1, h2⟩ := info_parts infoInt
    rw [hi0]; simp [h1]
  have hov : ∀ lb cb, (callFunc 135 #[.slice (some ⟨vb, voff, none⟩) m vc, .slice (some ⟨b, off + (i + m), none⟩) lb cb]).run Tryz.prog w = .ok (.value (.bool false)) w := fun lb cb => by
    rw [run_callFunc_extern Tryz.func135 (by kernel_rfl) (by kernel_rfl) (by kernel_rfl) (e := Extern.SlicesOverlaps.overlaps #[39, 39] #[4]) (by kernel_rfl),
      Lib.run_overlaps_apart w 39 4 3 Tryz.underlying39 1 Tryz.sizeOf3 ⟨vb, voff, none⟩ ⟨b, off + (i + m), none⟩ m vc lb cb hvb tA tB kA kB hsa hsb hkB hfa hfe]
    rfl
  have hdl : (cs.drop i).length = n - i := by rw [List.length_drop, hcl]
  have mixed := mixed
  have hw1 : IntKind.i64.wrap ((i : Int) + (m : Int)) = (i : Int) + (m : Int) := by rw [IntKind.wrap_i64]; omega
  have hb1 : (0 : Int) ≤ (i : Int) + (m : Int) := by omega
  have hin : i ≤ n := by omega
  have htn : ((i : Int) + (m : Int)).toNat = i + m := by omega
  have hb2 : ¬ (c = i + m) := by omega
  have hb3 : (i : Int) ≤ (n : Int) + (m : Int) := by omega
  have hb4 : ¬ (c = i) := by omega
  have hcp1 : ∀ ty dc sc, (Builtin.copy_ #[121, 121] ty #[.slice (some ⟨b, off + (i + m), none⟩) (n + m - (i + m)) dc, .slice (some ⟨b, off + i, none⟩) (n + m - i) sc]).run Tryz.prog w.drew = .ok (goInt (cs.drop i).length) (w.drew.setCells b (off + (i + m)) (cs.drop i)) := fun ty dc sc =>
    run_copy_cells w.drew _ _ ty 3 b (off + (i + m)) (n + m - (i + m)) dc ⟨b, off + i, none⟩ (n + m - i) sc (cs.drop i) Tryz.underlying121 hsz (by rw [hdl]; simp only [Nat.min_def]; split <;> omega)
      (fun j v hj => by rw [Addr.add_lit, Nat.add_assoc]; exact hcs (i + j) v (by rwa [List.getElem?_drop] at hj))
      (fun j hj => by rw [Nat.add_assoc]; exact hsp _ (by omega)) (fun j hj => by rw [Nat.add_assoc]; exact hfz _ (by omega)) (fun v hv => h1c v (List.mem_of_mem_drop hv))
  obtain ⟨W1, hW1⟩ : ∃ W1, W1 = w.drew.setCells b (off + (i + m)) (cs.drop i) := ⟨_, rfl⟩
  have hsp1 : ∀ k, k < n + m → (W1.cell? ⟨b, off + k, none⟩).isSome = true := fun k hk => by
    rw [hW1]
    exact isSome_setCells b _ _ _ (fun j hj => by rw [Nat.add_assoc]; exact hsp _ (by omega)) _ (hsp k hk)
  have hcp2 : ∀ (W : World), (∀ x, W.cell? x = W1.cell? x) → (∀ x, W.frozen? x = W1.frozen? x) → ∀ ty dc, (Builtin.copy_ #[121, 39] ty #[.slice (some ⟨b, off + i, none⟩) (n + m - i) dc, .slice (some ⟨vb, voff, none⟩) m vc]).run Tryz.prog W = .ok (goInt vs.length) (W.setCells b (off + i) vs) := fun W hWc hWf ty dc =>
    run_copy_cells W _ _ ty 3 b (off + i) (n + m - i) dc ⟨vb, voff, none⟩ m vc vs Tryz.underlying121 hsz (by rw [hvl]; simp only [Nat.min_def]; split <;> omega)
      (fun j v hj => by
        rw [Addr.add_lit, hWc, hW1, World.cell?_setCells_out b _ _ _ _ (fun h _ => absurd h hvb)]
        exact hvs j v hj)
      (fun j hj => by rw [hWc, Nat.add_assoc]; exact hsp1 _ (by omega)) (fun j hj => by rw [hWf, hW1, World.frozen?_setCells, Nat.add_assoc]; exact hfz _ (by omega)) h1v
  rw [← hW1] at hcp1
  go_enter Tryz.func130, Tryz.ntmps130
  go_wp2_with (simp only [hov])
  go_region_law_o (refine step_copy_runI rfl _ _ 121 121 rfl _ _ (by simp [Act.eval, Act.put]) (by simp [Act.eval, Act.put]) (hcp1 _ _ _) ?_)
  go_wp2_with (at_builtin; refine wpList_copy_runI _ rfl _ _ 121 39 rfl _ _ rfl rfl (hcp2 _ (fun _ => rfl) (fun _ => rfl) _ _) ?_)
  go_ret
  first | exact ⟨rfl, rfl⟩ | exact ⟨rfl, by rw [hW1]⟩

set_option maxHeartbeats 4000000 in
set_option maxRecDepth 100000 in
theorem insert_grow (b off n c i vb voff m vc : Nat) (cs vs : List Value) (w : World) (hi : i < n) (hm : 0 < m) (hnc : n ≤ c) (hroom : c < n + m) (hbig : (n + m) * 8 ≤ 140737488355328)
    (hcl : cs.length = n) (hvl : vs.length = m)
    (hcs : ∀ j v, cs[j]? = some v → w.cell? ⟨b, off + j, none⟩ = some v)
    (hvs : ∀ j v, vs[j]? = some v → w.cell? ⟨vb, voff + j, none⟩ = some v) (h1c : ∀ v ∈ cs, v.oneCell' = true) (h1v : ∀ v ∈ vs, v.oneCell' = true) :
    Calls Tryz.prog 130 #[.slice (some ⟨b, off, none⟩) n c, .int .i64 i, .slice (some ⟨vb, voff, none⟩) m vc] w fun e w' =>
      e = .returned (.slice (some ⟨w.heap.size, 0, none⟩) (n + m) (grownCap w (n + m) c 3)) ∧
      w' = (((w.alloc (.cells ((cs.take i).toArray ++ Builtin.zeroCells (Value.int .i64 0).cells (n + m - i) ++ Builtin.zeroCells (Value.int .i64 0).cells (grownCap w (n + m) c 3 - (n + m))) 3)).drew.setCells w.heap.size i vs).drew).setCells w.heap.size (i + m) (cs.drop i) := by
  have mixed := mixed
  obtain ⟨i0, hi0, hz0, hzs, hzb⟩ := info_parts infoInt
  have hz1 : ¬ ((m : Int) = 0) := by omega
  have hz2 : ¬ ((i : Int) = (n : Int)) := by omega
  have hz3 : (c : Int) < (n : Int) + (m : Int) := by omega
  have hsz : (Tryz.prog.info? 3).map (·.size) = some 1 := by rw [hi0]; simp [hzs]
  have hbw : b < w.heap.size := block_lt_of_cell (hcs 0 _ (List.getElem?_eq_getElem (by omega)))
  have hvw : vb < w.heap.size := block_lt_of_cell (hvs 0 _ (List.getElem?_eq_getElem (by omega)))
  have hkk : (n : Int) + (m : Int) - (i : Int) = ((n + m - i : Nat) : Int) := by omega
  have hik : i + (n + m - i) = n + m := by omega
  have hold : (Builtin.firstCells i0.size i (.slice (some ⟨b, off, none⟩) i c)).run Tryz.prog w.drew = .ok (cs.take i).toArray w.drew := by
    rw [hzs]
    exact run_firstCells_some w.drew 1 i ⟨b, off, none⟩ i c (cs.take i) (by rw [List.length_take]; omega) (fun j v hj => by
      rw [Addr.add_lit]
      rw [List.getElem?_take] at hj
      split at hj
      · exact hcs j v hj
      · cases hj)
  have hrz : ∀ ty, (Builtin.append_ #[121, 3] ty #[.slice (some ⟨b, off, none⟩) i c, .int .i64 ((n : Int) + (m : Int) - (i : Int))]).run Tryz.prog w =
      .ok (.slice (some ⟨w.heap.size, 0, none⟩) (n + m) (grownCap w (n + m) c 3)) (w.drew.alloc (.cells ((cs.take i).toArray ++ Builtin.zeroCells (Value.int .i64 0).cells (n + m - i) ++ Builtin.zeroCells (Value.int .i64 0).cells (grownCap w (n + m) c 3 - (n + m))) 3)) := fun ty => by
    have h := Lib.run_append_grow_zeros w 121 3 ty 3 i0 _ .i64 .i64 Tryz.underlying121 Tryz.underlying3 hi0 hz0 (some ⟨b, off, none⟩) i c (cs.take i) hold (n + m - i) (by omega) (by omega) (by omega) (by omega) (by rw [hzb]; omega) (by rw [hzb, hik]; exact growslice_fits hroom hbig)
    rw [hik] at h
    rw [hkk]
    exact h
  obtain ⟨G, hG⟩ : ∃ G, G = grownCap w (n + m) c 3 := ⟨_, rfl⟩
  obtain ⟨ROW, hROW⟩ : ∃ ROW : Array Value, ROW = (cs.take i).toArray ++ Builtin.zeroCells (Value.int .i64 0).cells (n + m - i) ++ Builtin.zeroCells (Value.int .i64 0).cells (G - (n + m)) := ⟨_, rfl⟩
  rw [← hG] at hrz ⊢
  rw [← hROW] at hrz ⊢
  have hRl : n + m ≤ ROW.size := by
    rw [hROW]
    simp [Builtin.zeroCells, Value.cells]
    omega
  obtain ⟨W1, hW1⟩ : ∃ W1, W1 = w.drew.alloc (.cells ROW 3) := ⟨_, rfl⟩
  rw [← hW1] at hrz
  have hN : ∀ j, j < n + m → (W1.cell? ⟨w.heap.size, j, none⟩).isSome = true := fun j hj => by
    rw [hW1, World.cell?_alloc_at (w := w.drew) ROW _ w.heap.size j rfl, Array.getElem?_eq_getElem (by omega)]; rfl
  have hNf : ∀ j, W1.frozen? ⟨w.heap.size, j, none⟩ = false := fun j => by rw [hW1]; exact World.frozen?_alloc_at (w := w.drew) ROW _ w.heap.size j rfl
  have hOb : ∀ j v, w.cell? ⟨b, j, none⟩ = some v → W1.cell? ⟨b, j, none⟩ = some v := fun j v h => by rw [hW1, World.cell?_alloc_past (w := w.drew) _ b j hbw]; exact h
  have hOv : ∀ j v, w.cell? ⟨vb, j, none⟩ = some v → W1.cell? ⟨vb, j, none⟩ = some v := fun j v h => by rw [hW1, World.cell?_alloc_past (w := w.drew) _ vb j hvw]; exact h
  have hcpA : ∀ (W : World), (∀ x, W.cell? x = W1.cell? x) → (∀ x, W.frozen? x = W1.frozen? x) → ∀ ty dc, (Builtin.copy_ #[121, 39] ty #[.slice (some ⟨w.heap.size, i, none⟩) (n + m - i) dc, .slice (some ⟨vb, voff, none⟩) m vc]).run Tryz.prog W = .ok (goInt vs.length) (W.setCells w.heap.size i vs) := fun W hWc hWf ty dc =>
    run_copy_cells W _ _ ty 3 w.heap.size i (n + m - i) dc ⟨vb, voff, none⟩ m vc vs Tryz.underlying121 hsz (by rw [hvl]; simp only [Nat.min_def]; split <;> omega)
      (fun j v hj => by rw [Addr.add_lit, hWc]; exact hOv _ v (hvs j v hj))
      (fun j hj => by rw [hWc]; exact hN _ (by omega)) (fun j hj => by rw [hWf]; exact hNf _) h1v
  have hGn : n + m ≤ G := by rw [hG]; exact grownCap_ge w _ _ _
  have hG63 : G ≤ 9223372036854775807 := by
    have := grownCap_le_maxLen w (n + m) c 3 (by unfold maxLen; omega)
    rw [← hG] at this
    unfold maxLen at this
    omega
  have hGi : ¬ (G = i) := by omega
  have hGim : ¬ (G = i + m) := by omega
  have hci : ¬ (c = i) := by omega
  have hbN : b ≠ w.heap.size := by omega
  have hdl : (cs.drop i).length = n - i := by rw [List.length_drop, hcl]
  have hcpB : ∀ (W : World), (∀ x, W.cell? x = (W1.setCells w.heap.size i vs).cell? x) → (∀ x, W.frozen? x = (W1.setCells w.heap.size i vs).frozen? x) → ∀ ty dc sc, (Builtin.copy_ #[121, 121] ty #[.slice (some ⟨w.heap.size, i + m, none⟩) (n + m - (i + m)) dc, .slice (some ⟨b, off + i, none⟩) (n - i) sc]).run Tryz.prog W = .ok (goInt (cs.drop i).length) (W.setCells w.heap.size (i + m) (cs.drop i)) := fun W hWc hWf ty dc sc =>
    run_copy_cells W _ _ ty 3 w.heap.size (i + m) (n + m - (i + m)) dc ⟨b, off + i, none⟩ (n - i) sc (cs.drop i) Tryz.underlying121 hsz (by rw [hdl]; simp only [Nat.min_def]; split <;> omega)
      (fun j v hj => by
        rw [Addr.add_lit, hWc, World.cell?_setCells_out _ _ _ _ _ (fun h _ => absurd h hbN), Nat.add_assoc]
        exact hOb _ v (hcs (i + j) v (by rwa [List.getElem?_drop] at hj)))
      (fun j hj => by rw [hWc]; exact isSome_setCells _ _ _ _ (fun t ht => hN _ (by omega)) _ (hN _ (by omega)))
      (fun j hj => by rw [hWf, World.frozen?_setCells]; exact hNf _) (fun v hv => h1c v (List.mem_of_mem_drop hv))
  subst hW1
  have hE1 : ∀ x, ((w.alloc (.cells ROW 3)).drew).cell? x = (w.drew.alloc (.cells ROW 3)).cell? x := fun x => rfl
  have hE2 : ∀ x, ((w.alloc (.cells ROW 3)).drew).frozen? x = (w.drew.alloc (.cells ROW 3)).frozen? x := fun x => rfl
  have hF1 : ∀ x, (((w.alloc (.cells ROW 3)).drew.setCells w.heap.size i vs).drew).cell? x = ((w.drew.alloc (.cells ROW 3)).setCells w.heap.size i vs).cell? x := fun x => rfl
  have hF2 : ∀ x, (((w.alloc (.cells ROW 3)).drew.setCells w.heap.size i vs).drew).frozen? x = ((w.drew.alloc (.cells ROW 3)).setCells w.heap.size i vs).frozen? x := fun x => rfl
  have hw1 : IntKind.i64.wrap ((i : Int) + (m : Int)) = (i : Int) + (m : Int) := by rw [IntKind.wrap_i64]; omega
  have hb1 : (0 : Int) ≤ (i : Int) + (m : Int) := by omega
  have hin : i ≤ n := by omega
  have htn : ((i : Int) + (m : Int)).toNat = i + m := by omega
  have hb3 : (i : Int) ≤ (n : Int) := by omega
  clear hkk hik hold hROW hG hRl
  go_enter Tryz.func130, Tryz.ntmps130
  go_wp2_with (first
    | (at_builtin; refine Lib.wpList_append_run _ rfl _ _ _ _ rfl _ _ rfl rfl _ _ (hrz _) ?_)
    | (at_builtin; refine wpList_copy_runI _ rfl _ _ 121 39 rfl _ _ rfl rfl (hcpA _ hE1 hE2 _ _) ?_)
    | (at_builtin; refine wpList_copy_runI _ rfl _ _ 121 121 rfl _ _ rfl rfl (hcpB _ (fun _ => rfl) (fun _ => rfl) _ _ _) ?_))
  go_region_law_o (refine step_copy_runI rfl _ _ 121 121 rfl (.slice (some ⟨w.heap.size, i + m, none⟩) (n + m - (i + m)) (G - (i + m))) (.slice (some ⟨b, off + i, none⟩) (n - i) (c - i)) (by simp [Act.eval, Act.put]) (by simp [Act.eval, Act.put]) (hcpB _ hF1 hF2 3 (G - (i + m)) (c - i)) ?_)
  go_wp2
  go_ret
  exact ⟨rfl, rfl⟩

end Go.Proofs.YtgnjenmicojgnaaGreat

namespace Go.Proofs.YtgnjenmicojgnaaGreat
set_option linter.unusedVariables false
set_option linter.unusedSimpArgs false
open Go.RowKit

set_option maxRecDepth 100000 in
set_option maxHeartbeats 1000000 in
theorem drop_none (l : Nat) (V : Nat → Value) (R : Nat → List Int) (id : Int) (w : World) (h : Rdy w l V R) (hno : prio R id = none) :
    Calls Tryz.prog 77 #[.pointer (some ⟨l, 0, none⟩), .int .i64 id] w fun e w' => e = .returned (.bool false) ∧ w' = w := by
  have HR := Lib.hid h
  have HNO := Lib.hid hno
  clear h hno
  go_enter Tryz.func77, Tryz.ntmps77
  go_wp2_with fail
  refine (prio_is (k := 0) (b := false) HR.out (by rw [HNO.out]; rfl) (by rw [HNO.out]; rfl)).mono ?_
  rintro e w1 ⟨rfl, rfl⟩
  go_wp2
  go_ret
  exact ⟨rfl, rfl⟩

theorem idx_first {xs : List Int} {id : Int} (h : id ∈ xs) : xs[xs.idxOf id]? = some id ∧ ∀ (j : Nat) (x : Int), j < xs.idxOf id → xs[j]? = some x → x ≠ id := by
  have hl := List.idxOf_lt_length_of_mem h
  refine ⟨by rw [List.getElem?_eq_getElem hl]; simp, fun j x hj hx => ?_⟩
  have hjl : j < xs.length := by omega
  rw [List.getElem?_eq_getElem hjl] at hx
  injection hx with hx
  subst hx
  intro e
  have := List.not_of_lt_findIdx (p := (· == id)) (xs := xs) (i := j) hj
  simp [e] at this

set_option maxRecDepth 100000 in
set_option maxHeartbeats 1000000 in
theorem drop_some (l p : Nat) (V : Nat → Value) (R : Nat → List Int) (id : Int) (w : World) (h : Rdy w l V R) (hpr : prio R id = some p) :
    Calls Tryz.prog 77 #[.pointer (some ⟨l, 0, none⟩), .int .i64 id] w (LPost w l V (upd R p ((R p).erase id)) (.bool true)) := by
  obtain ⟨hp, hmem⟩ := prio_some hpr
  obtain ⟨s, hh, hw⟩ := h.hdr
  have hrow := hh.row hp
  have hll := hh.lt
  obtain ⟨hi1, hi2⟩ := idx_first hmem
  obtain ⟨k, hk⟩ : ∃ k, (R p).idxOf id = k := ⟨_, rfl⟩
  rw [hk] at hi1 hi2
  have her : (R p).eraseIdx k = (R p).erase id := (List.erase_eq_eraseIdx_of_idxOf hk).symm
  have hkl : k < (R p).length := (List.getElem?_eq_some_iff.1 hi1).1
  have hown := h.rows p hp
  rcases hown.shape with ⟨_, h0⟩ | ⟨g, c, cur, hV, _, _, hnc, hm, _⟩
  · rw [h0] at hkl
    simp at hkl
  have hkb : k < 9223372036854775807 := by unfold maxLen at hm; omega
  obtain ⟨n, hn⟩ : ∃ n, (R p).length = n := ⟨_, rfl⟩
  rw [hn] at hV hkl
  rw [hV] at hrow hown
  have HR := Lib.hid h
  have HPR := Lib.hid hpr
  have HH := Lib.hid hh
  have HW := Lib.hid hw
  have HI1 := Lib.hid hi1
  have HI2 := Lib.hid hi2
  have HO := Lib.hid hown
  have HN := Lib.hid hn
  have HE := Lib.hid her
  have HV := Lib.hid hV
  clear h hpr hh hw hi1 hi2 hown hn her hV hmem hk hm hnc
  go_enter Tryz.func77, Tryz.ntmps77
  go_wp2_with fail
  refine (prio_is (k := p) (b := true) HR.out (by rw [HPR.out]; rfl) (by rw [HPR.out]; rfl)).mono ?_
  rintro e w1 ⟨rfl, rfl⟩
  go_wp2_with fail
  refine (index_any _ n c k (R p) id w1 HO.out HI1.out HI2.out).mono ?_
  rintro e w2 ⟨rfl, rfl⟩
  go_wp2_with fail
  refine (delete_any g n c k (k + 1) (R p) w2 HO.out HN.out.symm hkl rfl).mono ?_
  rintro e w3 ⟨rfl, ho3, hk3⟩
  rw [HE.out] at ho3
  have HO3 := Lib.hid ho3
  have HK3 : Hid (Kept w2 w3 (fun i => (V p).ownBlock = some i)) := hk3.mono (fun i _ e => by rw [HV.out, e]; rfl)
  have HH3 : Hid (Hdr w3 l V s) := HH.out.keep (hk3.block l hll (fun e => HR.out.lne p hp (by rw [HV.out, e]; rfl)))
  clear ho3 hk3
  obtain ⟨m, hm⟩ : ∃ m, n - 1 = m := ⟨_, rfl⟩
  rw [hm]
  rw [hm] at HO3
  have HM := Lib.hid hm
  clear hm
  go_wp2_with fail
  refine (note_any l p V s _ (some ⟨g, 0, none⟩) m c w3 HH3.out hp HW.out).mono ?_
  rintro e w4 ⟨rfl, s', hh4, hw4, hk4⟩
  have hml : m = ((R p).erase id).length := by rw [← HE.out, List.length_eraseIdx, if_pos (by have := HN.out; omega)]; have := HN.out; have := HM.out; omega
  obtain ⟨h1, h2, h3⟩ := HR.out.step hp HK3.out HO3.out hml (fun k hk' => .inl (by rw [HV.out]; exact hk')) hh4 hw4 hk4
  have HP : Hid (LPost w2 l V (upd R p ((R p).erase id)) (.bool true) (.returned (.bool true)) w4) := ⟨rfl, _, h1, h2, h3⟩
  clear hh4 hw4 hk4 h1 h2 h3
  go_wp2
  go_ret
  exact HP.out

end Go.Proofs.YtgnjenmicojgnaaGreat

namespace Go.Proofs.YtgnjenmicojgnaaGreat
set_option linter.unusedVariables false
set_option linter.unusedSimpArgs false
open Go.RowKit

def InsPost (w : World) (v : Value) (xs : List Int) (e : Ending) (w' : World) : Prop :=
  ∃ a c, e = .returned (.slice a xs.length c) ∧ Own w' (.slice a xs.length c) xs ∧ Kept w w' (fun i => v.ownBlock = some i) ∧ (∀ k, (Value.slice a xs.length c).ownBlock = some k → v.ownBlock = some k ∨ w.heap.size ≤ k)

set_option maxRecDepth 100000 in
set_option maxHeartbeats 1000000 in
theorem insert_none (a : Option Addr) (c vb : Nat) (id : Int) (w : World) (h : Own w (.slice a 0 c) []) (hv : w.heap[vb]? = some (.cells #[.int .i64 id] 3 (0, 0))) :
    Calls Tryz.prog 130 #[.slice a 0 c, .int .i64 0, .slice (some ⟨vb, 0, none⟩) 1 1] w (InsPost w (.slice a 0 c) [id]) := by
  obtain ⟨v', w2, hrun, ho, hg, hf⟩ := own_append (t := 121) (tx := 39) (ty := 121) Tryz.underlying121 Tryz.underlying39 h (x := .slice (some ⟨vb, 0, none⟩) 1 1) (ys := [id]) ⟨_, _, rfl, fun _ => ⟨_, rfl, fun j u hu => by
    match j, hu with
    | 0, hu =>
      simp [iv] at hu
      subst hu
      have : (⟨vb, 0, none⟩ : Addr).add 0 = ⟨vb, 0, none⟩ := by simp [Addr.add]
      rw [this, cell_of_row w vb 0 _ 3 (0, 0) hv]
      rfl
    | j + 1, hu => simp [iv] at hu⟩⟩ (by simp)
  rw [List.nil_append] at ho
  obtain ⟨a', c', rfl⟩ := ho.sl
  have HP : Hid (InsPost w (.slice a 0 c) [id] (.returned (.slice a' 1 c')) w2) := ⟨a', c', rfl, ho, Kept.of_grown hg (fun i hi => hi), hf⟩
  clear ho hg hf hv
  cases a with
  | none =>
    clear h
    go_enter Tryz.func130, Tryz.ntmps130
    go_wp2_with (first | (at_builtin; refine Lib.wpList_append_run _ rfl _ _ _ _ rfl _ _ rfl rfl _ _ hrun ?_))
    go_ret
    exact HP.out
  | some ad =>
    obtain ⟨ab, ao, asp⟩ := ad
    rcases h.shape with ⟨h0, _⟩ | ⟨g, c0, cur, h0, _⟩
    · cases h0
    injection h0 with e1 e2 e3
    injection e1 with e1
    injection e1 with e1 e4 e5
    subst e1 e4 e5
    clear h e2
    go_enter Tryz.func130, Tryz.ntmps130
    go_wp2_with (first | (at_builtin; refine Lib.wpList_append_run _ rfl _ _ _ _ rfl _ _ rfl rfl _ _ hrun ?_))
    all_goals (go_ret; exact HP.out)

set_option maxRecDepth 100000 in
set_option maxHeartbeats 1000000 in
theorem insert_any (v : Value) (xs : List Int) (vb : Nat) (id : Int) (w : World) (h : Own w v xs) (hv : w.heap[vb]? = some (.cells #[.int .i64 id] 3 (0, 0))) (hne : v.ownBlock ≠ some vb) (hl : xs.length ≤ 1000) :
    Calls Tryz.prog 130 #[v, .int .i64 0, .slice (some ⟨vb, 0, none⟩) 1 1] w (InsPost w v (id :: xs)) := by
  obtain ⟨a, c, rfl⟩ := h.sl
  by_cases hx : xs = []
  · subst hx
    exact insert_none a c vb id w h hv
  rcases h.shape with ⟨_, h0⟩ | ⟨g, c0, cur, h0, hg, hs, hn, hm, hc⟩
  · exact absurd h0 hx
  injection h0 with e1 e2 e3
  subst e1 e3
  have hx0 : 0 < xs.length := Nat.pos_of_ne_zero (fun e => hx (List.eq_nil_of_length_eq_zero e))
  have hcs : ∀ (j : Nat) (u : Value), (iv xs)[j]? = some u → w.cell? ⟨g, 0 + j, none⟩ = some u := fun j u hu => by
    unfold iv at hu
    rw [List.getElem?_map] at hu
    cases hx : xs[j]? with
    | none => rw [hx] at hu; cases hu
    | some x =>
      rw [hx] at hu
      simp at hu
      subst hu
      rw [Nat.zero_add, cell_of_row w g j cur 3 (0, 0) hg]
      exact hc j x hx
  have hvs : ∀ (j : Nat) (u : Value), (iv [id])[j]? = some u → w.cell? ⟨vb, 0 + j, none⟩ = some u := fun j u hu => by
    match j, hu with
    | 0, hu =>
      simp [iv] at hu
      subst hu
      rw [cell_of_row w vb _ _ 3 (0, 0) hv]
      rfl
    | j + 1, hu => simp [iv] at hu
  have hvg : vb ≠ g := fun e => hne (by rw [e]; rfl)
  have hgl : g < w.heap.size := (Array.getElem?_eq_some_iff.1 hg).1
  by_cases hroom : xs.length + 1 ≤ c
  · refine (insert_shift g 0 xs.length c 0 vb 0 1 1 (iv xs) (iv [id]) w hx0 (by omega) hroom (by unfold maxLen at hm; omega) hvg (iv_length xs) rfl hcs (fun j hj => by rw [cell_of_row w g _ cur 3 (0, 0) hg, Array.getElem?_eq_getElem (by omega)]; rfl) (fun j hj => by simp [World.frozen?, hg]) hvs (iv_one _) (iv_one _) 3 3 1 c (by simp [World.shape?, hv]) (by simp [World.shape?, hg, hs]) (by omega) (by simp [World.frozen?, hv]) (by simp [World.frozen?, hv])).mono ?_
    rintro e w' ⟨rfl, hw'⟩
    obtain ⟨cur1, hg1, hs1, hc1⟩ := heap_setCells (iv xs) 1 w.drew cur hg
    obtain ⟨cur2, hg2, hs2, hc2⟩ := heap_setCells (iv [id]) 0 _ cur1 hg1
    have hww : w' = (w.drew.setCells g 1 (iv xs)).setCells g 0 (iv [id]) := hw'
    rw [← hww] at hg2
    refine ⟨some ⟨g, 0, none⟩, c, rfl, Own.make hg2 (by omega) (by simpa using hroom) hm (fun i x hi => ?_), ?_, fun k hk => .inl hk⟩
    · have hil := (List.getElem?_eq_some_iff.1 hi).1
      rw [List.length_cons] at hil
      rw [hc2 i (by omega)]
      by_cases h0 : i = 0
      · subst h0
        simp at hi
        subst hi
        rw [if_pos (by simp [iv])]
        rfl
      · rw [if_neg (by simp [iv]; omega), hc1 i (by omega), if_pos (by rw [iv_length]; omega)]
        unfold iv
        rw [List.getElem?_map]
        obtain ⟨j, rfl⟩ : ∃ j, i = j + 1 := ⟨i - 1, by omega⟩
        rw [show j + 1 - 1 = j by omega]
        simp at hi
        rw [hi]
        rfl
    · have k1 : Kept w (w.drew.setCells g 1 (iv xs)) (fun i => i = g) := by
        have := Kept.setCells w.drew g 1 (iv xs)
        exact ⟨this.os, this.tape, this.output, this.size, this.block⟩
      rw [hww]
      exact (k1.trans (Kept.setCells _ g _ _) (fun _ _ h => h)).mono (fun i _ e => by rw [e]; rfl)
  · refine (insert_grow g 0 xs.length c 0 vb 0 1 1 (iv xs) (iv [id]) w hx0 (by omega) hn (by omega) (by omega) (iv_length xs) rfl hcs hvs (iv_one _) (iv_one _)).mono ?_
    rintro e w' ⟨rfl, hw'⟩
    obtain ⟨G, hG⟩ : ∃ G, grownCap w (xs.length + 1) c 3 = G := ⟨_, rfl⟩
    have hge := grownCap_ge w (xs.length + 1) c 3
    have hle := grownCap_le_maxLen w (xs.length + 1) c 3 (by unfold maxLen; omega)
    rw [hG] at hw' hge hle ⊢
    obtain ⟨ROW, hROW⟩ : ∃ ROW : Array Value, ROW = ((iv xs).take 0).toArray ++ Builtin.zeroCells (Value.int .i64 0).cells (xs.length + 1 - 0) ++ Builtin.zeroCells (Value.int .i64 0).cells (G - (xs.length + 1)) := ⟨_, rfl⟩
    rw [← hROW] at hw'
    have hRs : ROW.size = G := by
      rw [hROW]
      simp [Builtin.zeroCells, Value.cells]
      omega
    have hg0 : (w.alloc (.cells ROW 3)).drew.heap[w.heap.size]? = some (.cells ROW 3 (0, 0)) := heap_alloc_new w _
    obtain ⟨cur1, hg1, hs1, hc1⟩ := heap_setCells (iv [id]) 0 _ ROW hg0
    have hg1' : ((w.alloc (.cells ROW 3)).drew.setCells w.heap.size 0 (iv [id])).drew.heap[w.heap.size]? = some (.cells cur1 3 (0, 0)) := hg1
    obtain ⟨cur2, hg2, hs2, hc2⟩ := heap_setCells (iv xs) 1 _ cur1 hg1'
    have hww : w' = (((w.alloc (.cells ROW 3)).drew.setCells w.heap.size 0 (iv [id])).drew).setCells w.heap.size 1 (iv xs) := hw'
    rw [← hww] at hg2
    refine ⟨some ⟨w.heap.size, 0, none⟩, G, rfl, Own.make hg2 (by omega) (by simpa using hge) hle (fun i x hi => ?_), ?_, fun k hk => .inr ?_⟩
    · have hil := (List.getElem?_eq_some_iff.1 hi).1
      rw [List.length_cons] at hil
      rw [hc2 i (by omega)]
      by_cases h0 : i = 0
      · subst h0
        simp at hi
        subst hi
        rw [if_neg (by omega), hc1 0 (by omega), if_pos (by simp [iv])]
        rfl
      · rw [if_pos (by rw [iv_length]; omega)]
        unfold iv
        rw [List.getElem?_map]
        obtain ⟨j, rfl⟩ : ∃ j, i = j + 1 := ⟨i - 1, by omega⟩
        rw [show j + 1 - 1 = j by omega]
        simp at hi
        rw [hi]
        rfl
    · have k0 : Kept w (w.alloc (.cells ROW 3)) (fun i => i = w.heap.size) := Kept.of_below ((Below.refl _ _).alloc (Nat.le_refl _) _)
      have k1 := Kept.setCells (w.alloc (.cells ROW 3)).drew w.heap.size 0 (iv [id])
      have k2 := Kept.setCells ((w.alloc (.cells ROW 3)).drew.setCells w.heap.size 0 (iv [id])).drew w.heap.size 1 (iv xs)
      rw [hww]
      have k01 : Kept w ((w.alloc (.cells ROW 3)).drew.setCells w.heap.size 0 (iv [id])).drew (fun i => i = w.heap.size) := (k0.drew.trans k1 (fun _ _ h => h)).drew
      exact (k01.trans k2 (fun _ _ h => h)).mono (fun i hi e => by omega)
    · simp only [Value.ownBlock] at hk
      injection hk with hk
      omega

end Go.Proofs.YtgnjenmicojgnaaGreat

namespace Go.Proofs.YtgnjenmicojgnaaGreat
set_option linter.unusedVariables false
set_option linter.unusedSimpArgs false
open Go.RowKit

set_option maxRecDepth 100000 in
set_option maxHeartbeats 1000000 in
theorem front_any (l p : Nat) (V : Nat → Value) (R : Nat → List Int) (id : Int) (w : World) (h : Rdy w l V R) (hid : 0 ≤ id) (hp : p < 64) (hno : prio R id = none) (hl : (R p).length ≤ 1000) :
    Calls Tryz.prog 126 #[.pointer (some ⟨l, 0, none⟩), .int .i64 id, .int .i64 p] w (LPost w l V (upd R p (id :: R p)) (.int .i64 0)) := by
  have HR := Lib.hid h
  have HNO := Lib.hid hno
  clear h hno
  go_enter Tryz.func126, Tryz.ntmps126
  go_wp2_with fail
  refine (check_any l p V R id w HR.out hid hp HNO.out).mono ?_
  rintro e w1 ⟨rfl, rfl⟩
  obtain ⟨s, hh, hw⟩ := HR.out.hdr
  have hrow := hh.row hp
  have hll := hh.lt
  have HH := Lib.hid hh
  have HW := Lib.hid hw
  have hown := (HR.out.rows p hp)
  obtain ⟨a, c, hV⟩ := hown.sl
  have hins := insert_any (V p) (R p) w1.heap.size id (w1.alloc (.cells #[.int .i64 id] 3)) (hown.alloc _) (heap_alloc_new w1 _) (fun e => by have := hown.lt _ e; omega) hl
  rw [hV] at hrow hins
  have HV := Lib.hid hV
  have HINS := Lib.hid hins
  clear hh hw hown hV hins
  go_wp2_with fail
  refine HINS.out.mono ?_
  rintro e w2 ⟨a', c', rfl, ho, hk, hf⟩
  have HK : Hid (Kept w1 w2 (fun i => (V p).ownBlock = some i)) := by
    rw [HV.out]
    exact (Kept.of_below ((Below.refl _ _).alloc (Nat.le_refl _) _)).trans hk (fun _ _ hi => hi)
  have HH2 : Hid (Hdr w2 l V s) := HH.out.keep (HK.out.block l hll (HR.out.lne p hp))
  have HO := Lib.hid ho
  have HF : Hid (∀ k, (Value.slice a' (id :: R p).length c').ownBlock = some k → (V p).ownBlock = some k ∨ w1.heap.size ≤ k) := by
    intro k hk'
    rw [HV.out]
    rcases hf k hk' with h1 | h1
    · exact .inl h1
    · exact .inr (by simp at h1; omega)
  clear ho hk hf
  obtain ⟨n', hn'⟩ : ∃ n', (id :: R p).length = n' := ⟨_, rfl⟩
  rw [hn'] at HO HF ⊢
  have HN := Lib.hid hn'
  clear hn'
  go_wp2_with fail
  refine (note_any l p V s _ a' n' c' w2 HH2.out hp HW.out).mono ?_
  rintro e w3 ⟨rfl, s', hh3, hw3, hk3⟩
  obtain ⟨h1, h2, h3⟩ := HR.out.step hp HK.out HO.out HN.out.symm HF.out hh3 hw3 hk3
  have HP : Hid (LPost w1 l V (upd R p (id :: R p)) (.int .i64 0) (.returned (.int .i64 0)) w3) := ⟨rfl, _, h1, h2, h3⟩
  clear hh3 hw3 hk3 h1 h2 h3
  go_wp2
  go_ret
  exact HP.out

/-! ## Timers -/
def tmC (q : Int × Int) : List Value := [.int .i64 q.1, .int .i64 q.2]
theorem tmC_length (q : Int × Int) : (tmC q).length = 2 := rfl

/-- The timers at m hold Q: v is their slice. -/
structure Tms (w : World) (m : Nat) (v : Value) (Q : List (Int × Int)) : Prop where
  hdr : w.heap[m]? = some (.cells #[v] 133 (0, 0))
  row : w.ownsRow 0 131 2 v Q.length (flatG tmC Q)
  ne : v.ownBlock ≠ some m

def inT (m : Nat) (v : Value) (i : Nat) : Prop := i = m ∨ v.ownBlock = some i

theorem Tms.lt {w : World} {m : Nat} {v : Value} {Q : List (Int × Int)} (h : Tms w m v Q) {i : Nat} (hi : inT m v i) : i < w.heap.size := by
  rcases hi with rfl | hi
  · exact (Array.getElem?_eq_some_iff.1 h.hdr).1
  · exact (World.ownsRow.lt h.row i hi).2
theorem Tms.keep {w w' : World} {m : Nat} {v : Value} {Q : List (Int × Int)} (h : Tms w m v Q) (hb : ∀ i, inT m v i → w'.heap[i]? = w.heap[i]?) : Tms w' m v Q := by
  refine ⟨(hb m (.inl rfl)).trans h.hdr, ⟨h.row.1, ?_⟩, h.ne⟩
  rcases h.row.2 with hn | ⟨g, cap, cur, hv, hb0, hg, rest⟩
  · exact .inl hn
  · exact .inr ⟨g, cap, cur, hv, hb0, (hb g (.inr (by rw [hv]; rfl))).trans hg, rest⟩
theorem Tms.below {w w' : World} {m : Nat} {v : Value} {Q : List (Int × Int)} (h : Tms w m v Q) (hb : Below w.heap.size w w') : Tms w' m v Q := h.keep (fun i hi => hb.block i (h.lt hi))
theorem Tms.kept {w w' : World} {m : Nat} {v : Value} {Q : List (Int × Int)} {S : Nat → Prop} (h : Tms w m v Q) (hk : Kept w w' S) (hs : ∀ i, inT m v i → ¬ S i) : Tms w' m v Q :=
  h.keep (fun i hi => hk.block i (h.lt hi) (hs i hi))
theorem Tms.cell {w : World} {m : Nat} {v : Value} {Q : List (Int × Int)} (h : Tms w m v Q) : w.cell? ⟨m, 0, none⟩ = some v := by
  rw [cell_of_row w m 0 _ 133 (0, 0) h.hdr]
  rfl
/-- The cells of the k-th one. -/
theorem Tms.at {w : World} {m : Nat} {v : Value} {Q : List (Int × Int)} (h : Tms w m v Q) {k : Nat} {q : Int × Int} (hk : Q[k]? = some q) : ∃ g c, v = .slice (some ⟨g, 0, none⟩) Q.length c ∧ g < w.heap.size ∧ w.cell? ⟨g, k * 2, none⟩ = some (.int .i64 q.1) ∧ w.cell? ⟨g, k * 2 + 1, none⟩ = some (.int .i64 q.2) := by
  have hkl : k < Q.length := (List.getElem?_eq_some_iff.1 hk).1
  rcases h.row.2 with ⟨_, h0⟩ | ⟨g, cap, cur, hv, hb0, hg, hn, hm, hs, ht⟩
  · omega
  have hget : ∀ j, j < 2 → w.cell? ⟨g, k * 2 + j, none⟩ = (tmC q)[j]? := fun j hj => by
    rw [cell_of_row w g _ cur 131 (0, 0) hg]
    rw [← flatG_get tmC_length Q k j q hk hj, ← ht, List.getElem?_take, if_pos (by omega), Array.getElem?_toList]
  exact ⟨g, cap, hv, (Array.getElem?_eq_some_iff.1 hg).1, hget 0 (by omega), hget 1 (by omega)⟩
theorem Tms.sl {w : World} {m : Nat} {v : Value} {Q : List (Int × Int)} (h : Tms w m v Q) : ∃ a c, v = .slice a Q.length c := by
  rcases h.row.2 with ⟨h1, h0⟩ | ⟨g, cap, cur, hv, _⟩
  · exact ⟨none, 0, by rw [h1, h0]⟩
  · exact ⟨_, _, hv⟩

/-- Where an id's timer is. -/
def idxQ (Q : List (Int × Int)) (id : Int) : Int := match Q.findIdx? (fun q => q.1 == id) with | some k => (k : Int) | none => -1

set_option maxRecDepth 100000 in
set_option maxHeartbeats 1000000 in
theorem pred_any (q : Int × Int) (B : Nat) (id : Int) (w : World) (hB : B < w.heap.size) (hb : w.cell? ⟨B, 0, none⟩ = some (.int .i64 id)) :
    Calls Tryz.prog 132 #[.agg #[.int .i64 q.1, .int .i64 q.2], .pointer (some ⟨B, 0, none⟩)] w fun e w' => e = .returned (.bool (q.1 == id)) ∧ Below w.heap.size w w' := by
  have hne : B ≠ w.heap.size := by omega
  have HE : Hid (∀ o, Below w.heap.size w (w.alloc o)) := fun o => (Below.refl _ _).alloc (Nat.le_refl _) o
  go_enter Tryz.func132, Tryz.ntmps132
  go_wp2
  all_goals (go_ret; exact ⟨by simp_all, HE.out _⟩)

set_option maxRecDepth 100000 in
set_option maxHeartbeats 1000000 in
theorem idxf_any (m : Nat) (v : Value) (Q : List (Int × Int)) (B : Nat) (id : Int) (w : World) (h : Tms w m v Q) (hl : Q.length ≤ 1000) (hB : B < w.heap.size) (hb : w.cell? ⟨B, 0, none⟩ = some (.int .i64 id)) :
    Calls Tryz.prog 131 #[v, .func (.func 132) #[] #[.pointer (some ⟨B, 0, none⟩)]] w fun e w' => e = .returned (.int .i64 (idxQ Q id)) ∧ Below w.heap.size w w' := by
  obtain ⟨a, c, rfl⟩ := h.sl
  have H := Lib.hid h
  have HB0 := Lib.hid hb
  obtain ⟨n, hn⟩ : ∃ n, Q.length = n := ⟨_, rfl⟩
  rw [hn] at hl ⊢
  rw [hn] at H
  have HN := Lib.hid hn
  clear h hb hn
  go_enter Tryz.func131, Tryz.ntmps131
  go_wp2_with fail
  go_loopw [8] (fun s8 wr => ∃ j : Nat, j ≤ n ∧ s8 = .int .i64 j ∧ (∀ (i : Nat) (q : Int × Int), i < j → Q[i]? = some q → q.1 ≠ id) ∧ Below w.heap.size w wr) (fun i _ => n - (intOf i).toNat)
  case atStart => exact ⟨0, by omega, rfl, fun _ _ hi => absurd hi (Nat.not_lt_zero _), Below.refl _ _⟩
  case round =>
    obtain ⟨j, hj, rfl, hno, hbr⟩ := hrel
    have HNO := Lib.hid hno
    have HB := Lib.hid hbr
    have hbs := hbr.size
    clear hno hbr
    by_cases hjn : j < n
    · obtain ⟨q, hq⟩ : ∃ q, Q[j]? = some q := ⟨_, List.getElem?_eq_getElem (by have := HN.out; omega)⟩
      obtain ⟨g, c1, hv, hgl, h0, h1⟩ := H.out.at hq
      injection hv with e1 e2 e3
      subst e1 e3
      have c0' := (HB.out.cell (p := ⟨g, j * 2, none⟩) hgl).trans h0
      have c1' := (HB.out.cell (p := ⟨g, j * 2 + 1, none⟩) hgl).trans h1
      have hgr : g < wr.heap.size := by omega
      have HQ := Lib.hid hq
      clear hq h0 h1 e2
      go_wp2_with fail
      refine (pred_any q B id wr (by omega) ((HB.out.cell (p := ⟨B, 0, none⟩) hB).trans HB0.out)).mono ?_
      rintro e w1 ⟨rfl, hb1⟩
      have HB1 : Hid (Below w.heap.size w w1) := HB.out.trans (hb1.mono HB.out.size)
      clear hb1 c0' c1'
      by_cases hqe : q.1 = id
      · have hqb : (q.1 == id) = true := by simpa using hqe
        have HI : Hid (idxQ Q id = j) := by
          unfold Hid idxQ
          have : Q.findIdx? (fun q => q.1 == id) = some j := by
            rw [List.findIdx?_eq_some_iff_getElem]
            obtain ⟨hjl, hje⟩ := List.getElem?_eq_some_iff.1 HQ.out
            refine ⟨hjl, by rw [hje]; exact hqb, fun i hi => ?_⟩
            have := HNO.out i _ hi (List.getElem?_eq_getElem (by omega))
            simpa using this
          rw [this]
        rw [hqb]
        go_wp2
        go_ret
        exact ⟨by rw [HI.out]; rfl, HB1.out⟩
      · have hqb : (q.1 == id) = false := by simpa using hqe
        rw [hqb]
        go_wp2_with fail
        go_roundw
        case rel =>
          refine ⟨j + 1, by omega, by go_num, fun i y hi hy => ?_, HB1.out⟩
          by_cases e : i = j
          · subst e
            have := HQ.out.symm.trans hy
            injection this with this
            rw [← this]
            exact hqe
          · exact HNO.out i y (by omega) hy
        case measure => simp [intOf]; omega
    · have HI : Hid (idxQ Q id = -1) := by
        unfold Hid idxQ
        have : Q.findIdx? (fun q => q.1 == id) = none := by
          rw [List.findIdx?_eq_none_iff]
          intro q hq
          obtain ⟨i, hi⟩ := List.getElem?_of_mem hq
          have := HNO.out i q (by have := (List.getElem?_eq_some_iff.1 hi).1; have := HN.out; omega) hi
          simpa using this
        rw [this]
      go_wp2_with fail
      go_ret
      exact ⟨by rw [HI.out]; rfl, HB.out⟩

set_option maxRecDepth 100000 in
set_option maxHeartbeats 1000000 in
theorem find_any (m : Nat) (v : Value) (Q : List (Int × Int)) (id : Int) (w : World) (h : Tms w m v Q) (hl : Q.length ≤ 1000) :
    Calls Tryz.prog 128 #[.pointer (some ⟨m, 0, none⟩), .int .i64 id] w fun e w' => e = .returned (.int .i64 (idxQ Q id)) ∧ Below w.heap.size w w' := by
  have hc := h.cell
  have hm := h.lt (.inl rfl)
  have H := Lib.hid (h.below ((Below.refl _ _).alloc (Nat.le_refl _) (.cells #[.int .i64 id] 3)))
  clear h
  go_enter Tryz.func128, Tryz.ntmps128
  go_wp2_with fail
  refine (idxf_any m v Q w.heap.size id _ H.out hl (by simp) (by simp)).mono ?_
  rintro e w1 ⟨rfl, hb1⟩
  have HB1 : Hid (Below w.heap.size w w1) := ((Below.refl _ _).alloc (Nat.le_refl _) _).trans (hb1.mono (by simp))
  clear hb1
  go_wp2
  go_ret
  exact ⟨rfl, HB1.out⟩

end Go.Proofs.YtgnjenmicojgnaaGreat

namespace Go.Proofs.YtgnjenmicojgnaaGreat
set_option linter.unusedVariables false
set_option linter.unusedSimpArgs false
open Go.RowKit

def lays129_ren : Go.Shelf.Ren := ⟨fun | 129 => 95 | n => n, fun | 53 => 66 | 3 => 3 | 4 => 4 | 46 => 140 | 5 => 5 | 9 => 9 | n => n, fun | n => n⟩
theorem lays129 : Go.Proofs.Lays.n129 Tryz.prog lays129_ren := {
  mixed := by kernel_rfl
  f129 := Tryz.func95.trans (congrArg some (by kernel_rfl))
  t3 := Tryz.underlying3
  a3 := Tryz.isAgg3
  z3 := Tryz.sizeOf3
  v3 := Tryz.zeroValue3
  t4 := Tryz.underlying4
  a4 := Tryz.isAgg4
  z4 := Tryz.sizeOf4
  v4 := Tryz.zeroValue4
  t5 := Tryz.underlying5
  a5 := Tryz.isAgg5
  z5 := Tryz.sizeOf5
  v5 := Tryz.zeroValue5
  t9 := Tryz.underlying9
  a9 := Tryz.isAgg9
  z9 := Tryz.sizeOf9
  v9 := Tryz.zeroValue9
  t46 := Tryz.underlying140
  a46 := Tryz.isAgg140
  z46 := Tryz.sizeOf140
  v46 := Tryz.zeroValue140
  t53 := Tryz.underlying66
  a53 := Tryz.isAgg66
  z53 := Tryz.sizeOf66
  v53 := Tryz.zeroValue66 }
theorem len64_any (x : Int) (w : World) (h0 : 0 ≤ x) (h1 : x ≤ 18446744073709551615) :
    Calls Tryz.prog 95 #[.int .u64 x] w fun e w' => e = .returned (.int .i64 (Lib.bitLen x.toNat)) ∧ w' = w := Any.bits_Len64 lays129 x w h0 h1

theorem bitLenAux_zero' : ∀ f, Lib.bitLenAux f 0 = 0
  | 0 => rfl
  | f + 1 => by simp [Lib.bitLenAux]
theorem bitLenAux_log2 : ∀ (f x : Nat), x ≠ 0 → x < 2 ^ f → Lib.bitLenAux f x = x.log2 + 1
  | 0, x, h, hl => by simp at hl; omega
  | f + 1, x, h, hl => by
    unfold Lib.bitLenAux
    rw [if_neg h]
    by_cases h2 : 2 ≤ x
    · rw [bitLenAux_log2 f (x / 2) (by omega) (by rw [Nat.pow_succ] at hl; omega), Nat.log2_def x, if_pos h2]
      omega
    · have : x = 1 := by omega
      subst this
      rw [show 1 / 2 = 0 by rfl, bitLenAux_zero']
      decide

theorem len64_top {x : Int} {f : Nat → Bool} {p : Nat} (w : World) (h : WordOk x f) (hx : x ≠ 0) (hp : Nat.log2 x.toNat = p) : Calls Tryz.prog 95 #[.int .u64 x] w fun e w' => e = .returned (.int .i64 ((p : Int) + 1)) ∧ Below w.heap.size w w' := by
  obtain ⟨h0, h1⟩ := h.range
  refine (len64_any x w h0 (by omega)).mono ?_
  rintro e w' ⟨rfl, rfl⟩
  refine ⟨?_, Below.refl _ _⟩
  have hn : x.toNat ≠ 0 := by omega
  have : Lib.bitLen x.toNat = p + 1 := by
    have h64 : x.toNat < 2 ^ 64 := by omega
    rw [← hp]
    exact bitLenAux_log2 64 _ hn h64
  rw [this]
  simp

/-- All ids, the most urgent row first. -/
def dn (R : Nat → List Int) (k : Nat) : List Int := (List.range k).flatMap (fun i => R (63 - i))
def allR (R : Nat → List Int) : List Int := dn R 64
theorem dn_succ (R : Nat → List Int) (k : Nat) : dn R (k + 1) = dn R k ++ R (63 - k) := by
  unfold dn
  rw [List.range_succ, List.flatMap_append]
  simp
theorem dn_empty {R : Nat → List Int} : ∀ {k : Nat}, (∀ i, i < k → R (63 - i) = []) → dn R k = []
  | 0, _ => rfl
  | k + 1, h => by rw [dn_succ, dn_empty (fun i hi => h i (by omega)), h k (by omega)]; rfl
theorem dn_head {R : Nat → List Int} {k : Nat} (h : ∀ i, i < k → R (63 - i) = []) : ∀ (m : Nat), ∃ r, dn R (k + 1 + m) = R (63 - k) ++ r
  | 0 => ⟨[], by rw [Nat.add_zero, dn_succ, dn_empty h]; simp⟩
  | m + 1 => by
    obtain ⟨r, hr⟩ := dn_head h m
    exact ⟨r ++ R (63 - (k + 1 + m)), by rw [← Nat.add_assoc, dn_succ, hr, List.append_assoc]⟩
theorem dn_length {R : Nat → List Int} (h : ∀ p, (R p).length ≤ 1000) : ∀ (k : Nat), (dn R k).length ≤ k * 1000
  | 0 => by simp [dn]
  | k + 1 => by
    rw [dn_succ, List.length_append]
    have := dn_length h k
    have := h (63 - k)
    omega

theorem all_top {R : Nat → List Int} {p : Nat} (hp : p < 64) (hq : ∀ q, p < q → q < 64 → R q = []) : ∃ r, allR R = R p ++ r := by
  obtain ⟨r, hr⟩ := dn_head (R := R) (k := 63 - p) (fun i hi => hq _ (by omega) (by omega)) p
  refine ⟨r, ?_⟩
  unfold allR
  rw [show 64 = 63 - p + 1 + p by omega, hr, show 63 - (63 - p) = p by omega]
theorem all_none {R : Nat → List Int} (h : ∀ q, q < 64 → R q = []) : allR R = [] := dn_empty (fun i hi => h _ (by omega))


def first (R : Nat → List Int) : Int := ((allR R).head?).getD 0
def some1 (R : Nat → List Int) : Bool := ((allR R).head?).isSome

set_option maxRecDepth 100000 in
set_option maxHeartbeats 1000000 in
theorem peek_any (l : Nat) (V : Nat → Value) (R : Nat → List Int) (w : World) (h : Rdy w l V R) :
    Calls Tryz.prog 48 #[.pointer (some ⟨l, 0, none⟩)] w fun e w' => e = .returned (.tuple #[.int .i64 (first R), .bool (some1 R)]) ∧ Below w.heap.size w w' := by
  obtain ⟨s, hh, hw⟩ := h.hdr
  have hword := hh.word
  have hl := hh.lt
  by_cases hs : s = 0
  · have hall : allR R = [] := all_none (fun q hq => by have := (word_zero hw).1 hs q hq; simpa using this)
    have h1 : Hid (first R = 0) := by unfold Hid first; rw [hall]; rfl
    have h2 : Hid (some1 R = false) := by unfold Hid some1; rw [hall]; rfl
    subst hs
    clear h hh hw hall
    go_enter Tryz.func48, Tryz.ntmps48
    go_wp2
    go_ret2
    rw [h1.out, h2.out]
    exact ⟨rfl, Below.refl _ _⟩
  · obtain ⟨p, hp, hlog, hf, hq⟩ := word_top hw hs
    have hlen : 0 < (R p).length := of_decide_eq_true hf
    obtain ⟨x, xs, hx⟩ : ∃ x xs, R p = x :: xs := by
      cases hR : R p with
      | nil => rw [hR] at hlen; simp at hlen
      | cons a b => exact ⟨a, b, rfl⟩
    obtain ⟨r, hr⟩ := all_top hp (fun q h1 h2 => by have := hq q h1 h2; simpa using this)
    rw [hx] at hr
    have h1 : Hid (first R = x) := by unfold Hid first; rw [hr]; rfl
    have h2 : Hid (some1 R = true) := by unfold Hid some1; rw [hr]; rfl
    have hown := h.rows p hp
    rcases hown.shape with ⟨_, h0⟩ | ⟨g, c, cur, hV, hg, hsz, hnc, hm, hc⟩
    · rw [h0] at hlen
      simp at hlen
    have hcell : w.cell? ⟨g, 0, none⟩ = some (.int .i64 x) := by
      rw [cell_of_row w g 0 cur 3 (0, 0) hg]
      exact hc 0 x (by rw [hx]; rfl)
    have hgl : g < w.heap.size := (Array.getElem?_eq_some_iff.1 hg).1
    have hrow := hh.row hp
    rw [hV] at hrow
    obtain ⟨n, hn⟩ : ∃ n, (R p).length = n := ⟨_, rfl⟩
    rw [hn] at hrow hlen
    have HW := Lib.hid hw
    have HS := Lib.hid hs
    have HLOG := Lib.hid hlog
    have hsb : (s == 0) = false := by simpa using hs
    have hwr : wrap64 ((p : Int) + 1 - 1) = p := by unfold wrap64; omega
    clear h hh hw hlog hf hq hx hr hown hV hg hsz hnc hm hc hn
    go_enter Tryz.func48, Tryz.ntmps48
    go_wp2_with fail
    have hx1 := fun (x : BW w) => (x.cell l 64 hl).trans hword
    have hx2 := fun (x : BW w) => (x.cell l p hl).trans hrow
    have hx3 := fun (x : BW w) => (x.cell g 0 hgl).trans hcell
    refine wp_region_bw (by kernel_rfl) (by kernel_rfl) ?_
    repeat (go_big_quiet_step ((go_at_call 95; exact Calls.bw (len64_top _ HW.out HS.out HLOG.out))))
    refine wpQuiet_nil ?_
    rintro w2 ⟨x2, hx2'⟩
    have HB : Hid (Below w.heap.size w w2) := show Below w.heap.size w w2 by rw [hx2']; exact x2.property
    clear hx2' x2 hx1 hx2 hx3
    go_wp2
    go_ret2
    rw [h1.out, h2.out]
    exact ⟨rfl, HB.out⟩

def AllPost (w : World) (xs : List Int) (e : Ending) (w' : World) : Prop :=
  ∃ v, e = .returned v ∧ Own w' v xs ∧ (∀ k, v.ownBlock = some k → w.heap.size ≤ k) ∧ Below w.heap.size w w'

theorem grown_below {w wr w' : World} {v : Value} (hb : Below w.heap.size w wr) (hg : wr.grownBy w' v.ownBlock) (hf : ∀ k, v.ownBlock = some k → w.heap.size ≤ k) : Below w.heap.size w w' :=
  hb.grown hg hb.size (fun k hk => hf k hk)

set_option maxRecDepth 100000 in
set_option maxHeartbeats 1000000 in
theorem all_any (l : Nat) (V : Nat → Value) (R : Nat → List Int) (w : World) (h : Rdy w l V R) (hlen : ∀ p, (R p).length ≤ 1000) :
    Calls Tryz.prog 51 #[.pointer (some ⟨l, 0, none⟩)] w (AllPost w (allR R)) := by
  have hl := h.lt (.inl rfl)
  have HR := Lib.hid h
  have HLEN := Lib.hid hlen
  clear h hlen
  go_enter Tryz.func51, Tryz.ntmps51
  go_wp2_with fail
  go_loopw [3, 4] (fun s3 s4 wr => ∃ k : Nat, k ≤ 64 ∧ s4 = .int .i64 (63 - (k : Int)) ∧ Own wr s3 (dn R k) ∧ (∀ b, s3.ownBlock = some b → w.heap.size ≤ b) ∧ Below w.heap.size w wr) (fun _ i _ => (intOf i + 1).toNat)
  case atStart => exact ⟨0, by omega, rfl, Own.nil w, fun b hb => by simp [Value.ownBlock] at hb, Below.refl _ _⟩
  case round =>
    obtain ⟨k, hk, rfl, ho, hf, hb⟩ := hrel
    have HO := Lib.hid ho
    have HF := Lib.hid hf
    have HB := Lib.hid hb
    by_cases hlt : k < 64
    · have hRr := HR.out.below HB.out
      obtain ⟨s, hh, hw⟩ := hRr.hdr
      have hrow := hh.row (p := 63 - k) (by omega)
      have hll := hh.lt
      obtain ⟨v', w2, hrun, ho2, hg2, hf2⟩ := own_append (t := 39) (tx := 121) (ty := 39) Tryz.underlying39 Tryz.underlying121 ho (hRr.rows (63 - k) (by omega)).reads (by have := dn_length HLEN.out k; have := HLEN.out (63 - k); omega)
      rw [← dn_succ] at ho2
      have HO2 := Lib.hid ho2
      have HB2 : Hid (Below w.heap.size w w2) := grown_below HB.out hg2 HF.out
      have HF2 : Hid (∀ b, v'.ownBlock = some b → w.heap.size ≤ b) := fun b hb' => by
        rcases hf2 b hb' with h1 | h1
        · exact HF.out b h1
        · have := HB.out.size
          omega
      have h63 : (63 - (k : Int)).toNat = 63 - k := by omega
      have h63' : (63 : Int) - k = ((63 - k : Nat) : Int) := by omega
      rw [h63']
      have hp64 : 63 - k < 64 := by omega
      obtain ⟨p, hp⟩ : ∃ p, 63 - k = p := ⟨_, rfl⟩
      rw [hp] at hrow hrun hp64 ⊢
      have HP := Lib.hid hp
      clear ho hf hb hRr hh hw ho2 hg2 hf2 h63 h63' hp
      go_wp2_with (first | (at_builtin; refine Lib.wpList_append_run _ rfl _ _ _ _ rfl _ _ rfl rfl _ _ hrun ?_))
      have hp := HP.out
      refine ⟨⟨k + 1, by omega, by rw [show (p : Int) - 1 = 63 - ((k + 1 : Nat) : Int) by omega], HO2.out, HF2.out, HB2.out⟩, ?_⟩
      simp [intOf]
    · obtain rfl : k = 64 := by omega
      clear ho hf hb hlt
      rw [show (63 : Int) - ((64 : Nat) : Int) = -1 by rfl]
      go_wp2_with fail
      go_ret
      exact ⟨_, rfl, HO.out, HF.out, HB.out⟩

end Go.Proofs.YtgnjenmicojgnaaGreat
