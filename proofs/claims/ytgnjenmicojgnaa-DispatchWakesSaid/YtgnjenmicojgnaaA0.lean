/-
  The cells of a process of package proc in memory, and what it means that nothing else has turned. No condition.
-/
import Derived.Test.YtgnjenmicojgnaaRows
import Derived.WalkKit
import Derived.WalkSpells
import Derived.WalkLawsBesides
import Derived.Lib.Hide
namespace Go.Proofs.Ytgnjenmicojgnaa
set_option linter.unusedVariables false
set_option linter.unusedSimpArgs false
open Go.RowKit

/-- A process of the program, cell by cell. -/
structure Pr where
  pri : Int
  per : Int
  cap : Int
  dl : Int
  off : Int
  st : Int
  held : Bool
  base : Int
  raised : Int
  til : Int
  beg : Int
  used : Int
  missed : Bool

def Pr.cells (p : Pr) : Array Value := #[.int .i64 p.pri, .int .i64 p.per, .int .i64 p.cap, .int .i64 p.dl, .int .i64 p.off, .int .i64 p.st, .bool p.held, .int .i64 p.base, .int .i64 p.raised, .int .i64 p.til, .int .i64 p.beg, .int .i64 p.used, .bool p.missed]

/-- The thirteen cells of a process lie in block g from o on. -/
structure PrAt (w : World) (g o : Nat) (p : Pr) : Prop where
  c0 : w.cell? ⟨g, o, none⟩ = some (.int .i64 p.pri)
  c1 : w.cell? ⟨g, o + 1, none⟩ = some (.int .i64 p.per)
  c2 : w.cell? ⟨g, o + 2, none⟩ = some (.int .i64 p.cap)
  c3 : w.cell? ⟨g, o + 3, none⟩ = some (.int .i64 p.dl)
  c4 : w.cell? ⟨g, o + 4, none⟩ = some (.int .i64 p.off)
  c5 : w.cell? ⟨g, o + 5, none⟩ = some (.int .i64 p.st)
  c6 : w.cell? ⟨g, o + 6, none⟩ = some (.bool p.held)
  c7 : w.cell? ⟨g, o + 7, none⟩ = some (.int .i64 p.base)
  c8 : w.cell? ⟨g, o + 8, none⟩ = some (.int .i64 p.raised)
  c9 : w.cell? ⟨g, o + 9, none⟩ = some (.int .i64 p.til)
  c10 : w.cell? ⟨g, o + 10, none⟩ = some (.int .i64 p.beg)
  c11 : w.cell? ⟨g, o + 11, none⟩ = some (.int .i64 p.used)
  c12 : w.cell? ⟨g, o + 12, none⟩ = some (.bool p.missed)

/-- Block g is a row of cells of type T, none frozen. -/
def Row (w : World) (g : Nat) (T : TypeId) : Prop := ∃ C, w.heap[g]? = some (.cells C T (0, 0))

theorem Row.lt {w : World} {g : Nat} {T : TypeId} (h : Row w g T) : g < w.heap.size := by
  obtain ⟨C, h⟩ := h
  rcases Nat.lt_or_ge g w.heap.size with hlt | hge
  · exact hlt
  · rw [Array.getElem?_eq_none hge] at h; cases h

theorem Row.fz {w : World} {g : Nat} {T : TypeId} (h : Row w g T) (q : Nat) : w.frozen? ⟨g, q, none⟩ = false := by
  obtain ⟨C, h⟩ := h
  simp [World.frozen?, h]

theorem Row.alloc {w : World} {g : Nat} {T : TypeId} (h : Row w g T) (o : Obj) : Row (w.alloc o) g T := by
  have hl := h.lt
  obtain ⟨C, h⟩ := h
  exact ⟨C, (Below.heap_alloc w o g hl).trans h⟩

theorem Row.setCell {w : World} {g : Nat} {T : TypeId} (h : Row w g T) (a : Addr) (v : Value) : Row (w.setCell a v) g T := by
  obtain ⟨C, h⟩ := h
  unfold Row
  simp only [World.setCell, Array.getElem?_modify, h]
  by_cases e : a.block = g
  · simp [e]
  · simp [e]

/-- From w to w' nothing below B has turned but the thirteen cells from o on in block g; new blocks may have come. -/
structure Near (B : Nat) (w w' : World) (g o : Nat) : Prop where
  os : w'.os = w.os
  tape : w'.tape = w.tape
  output : w'.output = w.output
  size : w.heap.size ≤ w'.heap.size
  block : ∀ i, i < B → i ≠ g → w'.heap[i]? = w.heap[i]?
  row : ∀ b T, Row w b T → Row w' b T
  out : ∀ j, (j < o ∨ o + 12 < j) → w'.cell? ⟨g, j, none⟩ = w.cell? ⟨g, j, none⟩
  lt : g < w.heap.size

section
variable {B : Nat} {w w' w'' : World} {g o : Nat} {T : TypeId}
theorem Near.refl (B : Nat) (o : Nat) (h : g < w.heap.size) : Near B w w g o := ⟨rfl, rfl, rfl, Nat.le_refl _, fun _ _ _ => rfl, fun _ _ h => h, fun _ _ => rfl, h⟩

theorem Near.trans (h : Near B w w' g o) (k : Near B w' w'' g o) : Near B w w'' g o :=
  ⟨k.os.trans h.os, k.tape.trans h.tape, k.output.trans h.output, Nat.le_trans h.size k.size, fun i hi hn => (k.block i hi hn).trans (h.block i hi hn), fun b T hT => k.row b T (h.row b T hT), fun j hj => (k.out j hj).trans (h.out j hj), h.lt⟩

theorem Row.below (h : Row w g T) (hb : Below w.heap.size w w') : Row w' g T := by
  have hl := h.lt
  obtain ⟨C, h⟩ := h
  exact ⟨C, (hb.block g hl).trans h⟩

theorem Near.of_below (o : Nat) (h : Below w.heap.size w w') (hg : g < w.heap.size) (hB : B ≤ w.heap.size) : Near B w w' g o where
  os := h.os
  tape := h.tape
  output := h.output
  size := h.size
  block := fun i hi _ => h.block i (by omega)
  row := fun b T hT => hT.below h
  out := fun j _ => h.cell (p := ⟨g, j, none⟩) hg
  lt := hg

theorem Near.alloc (h : Near B w w' g o) (hB : B ≤ w.heap.size) (b : Obj) : Near B w (w'.alloc b) g o where
  os := h.os
  tape := h.tape
  output := h.output
  size := Nat.le_trans h.size (by simp)
  block := fun i hi hne => (Below.heap_alloc w' b i (by have := h.size; omega)).trans (h.block i hi hne)
  row := fun r T hT => (h.row r T hT).alloc b
  out := fun j hj => (World.cell?_alloc_lt w' b ⟨g, j, none⟩ (Nat.lt_of_lt_of_le h.lt h.size)).trans (h.out j hj)
  lt := h.lt

theorem Near.set (h : Near B w w' g o) (j : Nat) (hj : o ≤ j ∧ j ≤ o + 12) (v : Value) : Near B w (w'.setCell ⟨g, j, none⟩ v) g o where
  os := h.os
  tape := h.tape
  output := h.output
  size := by simpa [World.setCell] using h.size
  block := fun i hi hne => (Below.heap_setCell w' _ v i hne).trans (h.block i hi hne)
  row := fun b T hT => (h.row b T hT).setCell _ _
  out := fun k hk => (World.cell?_setCell_other w' _ _ v (by
    intro e
    injection e with _ e
    omega)).trans (h.out k hk)
  lt := h.lt

/-- A store into a block from B on (a captured variable). -/
theorem Near.far (h : Near B w w' g o) {a : Addr} (ha : B ≤ a.block) (hg : a.block ≠ g) (v : Value) : Near B w (w'.setCell a v) g o where
  os := h.os
  tape := h.tape
  output := h.output
  size := by simpa [World.setCell] using h.size
  block := fun i hi hne => (Below.heap_setCell w' _ v i (by omega)).trans (h.block i hi hne)
  row := fun b T hT => (h.row b T hT).setCell _ _
  out := fun k hk => (World.cell?_setCell_other w' _ _ v (by
    rintro rfl
    exact hg rfl)).trans (h.out k hk)
  lt := h.lt

theorem Near.drew (h : Near B w w' g o) : Near B w w'.drew g o := ⟨h.os, h.tape, h.output, h.size, h.block, h.row, h.out, h.lt⟩
theorem Near.drewN (h : Near B w w' g o) (n : Nat) : Near B w (w'.drewN n) g o := ⟨h.os, h.tape, h.output, h.size, h.block, h.row, h.out, h.lt⟩
theorem Row.drew (h : Row w g T) : Row w.drew g T := h
theorem Row.drewN (h : Row w g T) (n : Nat) : Row (w.drewN n) g T := h
end

end Go.Proofs.Ytgnjenmicojgnaa
