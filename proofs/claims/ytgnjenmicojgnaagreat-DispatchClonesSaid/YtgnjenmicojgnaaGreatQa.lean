/-
  The cells of a process of package proc in memory, and what it means that nothing else has turned. No condition.
  What the small functions of package proc that write one process do to its cells, under their tests.
  What the functions handed to change (Done, Wait, Charge) do to one process, under their tests.
  What the functions that ask about one process answer. No condition.
  What change does, for whatever functions it is handed, under its tests.
  A table of processes in memory, and what change does to it. No condition beside the two functions' contracts.
  What Start, Stop, Suspend, Resume, Wait, Wake, Release, SetPriority, Raise do to a table, for every index and number.
  What Done and Charge do to a table, for every index and number.
  What look answers, for every index.
  What State, Until, Base, Current, Attr, Left answer, for every index.
-/
import Derived.Test.YtgnjenmicojgnaaGreatRows
import Derived.WalkKit
import Derived.WalkSpells
import Derived.WalkLawsBesides
import Derived.Lib.Hide
import Derived.StillTailTactics
import Derived.IntWalk
import Derived.RegionTactic
import Derived.BigRegion
import Derived.Deep.QuietTactic
import Derived.BigQuiet
import Derived.Deep.RegionWith
namespace Go.Proofs.YtgnjenmicojgnaaGreat
set_option linter.unusedVariables false
set_option linter.unusedSimpArgs false
open Go.RowKit

/-- A process of the program, cell by cell. -/
structure Pr where
  pri : Int
  per : Int
  cap : Int
  dl : Int
  off : Int
  st : Int
  held : Bool
  base : Int
  raised : Int
  til : Int
  beg : Int
  used : Int
  missed : Bool

def Pr.cells (p : Pr) : Array Value := #[.int .i64 p.pri, .int .i64 p.per, .int .i64 p.cap, .int .i64 p.dl, .int .i64 p.off, .int .i64 p.st, .bool p.held, .int .i64 p.base, .int .i64 p.raised, .int .i64 p.til, .int .i64 p.beg, .int .i64 p.used, .bool p.missed]

/-- The thirteen cells of a process lie in block g from o on. -/
structure PrAt (w : World) (g o : Nat) (p : Pr) : Prop where
  c0 : w.cell? ⟨g, o, none⟩ = some (.int .i64 p.pri)
  c1 : w.cell? ⟨g, o + 1, none⟩ = some (.int .i64 p.per)
  c2 : w.cell? ⟨g, o + 2, none⟩ = some (.int .i64 p.cap)
  c3 : w.cell? ⟨g, o + 3, none⟩ = some (.int .i64 p.dl)
  c4 : w.cell? ⟨g, o + 4, none⟩ = some (.int .i64 p.off)
  c5 : w.cell? ⟨g, o + 5, none⟩ = some (.int .i64 p.st)
  c6 : w.cell? ⟨g, o + 6, none⟩ = some (.bool p.held)
  c7 : w.cell? ⟨g, o + 7, none⟩ = some (.int .i64 p.base)
  c8 : w.cell? ⟨g, o + 8, none⟩ = some (.int .i64 p.raised)
  c9 : w.cell? ⟨g, o + 9, none⟩ = some (.int .i64 p.til)
  c10 : w.cell? ⟨g, o + 10, none⟩ = some (.int .i64 p.beg)
  c11 : w.cell? ⟨g, o + 11, none⟩ = some (.int .i64 p.used)
  c12 : w.cell? ⟨g, o + 12, none⟩ = some (.bool p.missed)

/-- Block g is a row of cells of type T, none frozen. -/
def Row (w : World) (g : Nat) (T : TypeId) : Prop := ∃ C, w.heap[g]? = some (.cells C T (0, 0))

theorem Row.lt {w : World} {g : Nat} {T : TypeId} (h : Row w g T) : g < w.heap.size := by
  obtain ⟨C, h⟩ := h
  rcases Nat.lt_or_ge g w.heap.size with hlt | hge
  · exact hlt
  · rw [Array.getElem?_eq_none hge] at h; cases h

theorem Row.fz {w : World} {g : Nat} {T : TypeId} (h : Row w g T) (q : Nat) : w.frozen? ⟨g, q, none⟩ = false := by
  obtain ⟨C, h⟩ := h
  simp [World.frozen?, h]

theorem Row.alloc {w : World} {g : Nat} {T : TypeId} (h : Row w g T) (o : Obj) : Row (w.alloc o) g T := by
  have hl := h.lt
  obtain ⟨C, h⟩ := h
  exact ⟨C, (Below.heap_alloc w o g hl).trans h⟩

theorem Row.setCell {w : World} {g : Nat} {T : TypeId} (h : Row w g T) (a : Addr) (v : Value) : Row (w.setCell a v) g T := by
  obtain ⟨C, h⟩ := h
  unfold Row
  simp only [World.setCell, Array.getElem?_modify, h]
  by_cases e : a.block = g
  · simp [e]
  · simp [e]

/-- From w to w' nothing below B has turned but the thirteen cells from o on in block g; new blocks may have come. -/
structure Near (B : Nat) (w w' : World) (g o : Nat) : Prop where
  os : w'.os = w.os
  tape : w'.tape = w.tape
  output : w'.output = w.output
  size : w.heap.size ≤ w'.heap.size
  block : ∀ i, i < B → i ≠ g → w'.heap[i]? = w.heap[i]?
  row : ∀ b T, Row w b T → Row w' b T
  out : ∀ j, (j < o ∨ o + 12 < j) → w'.cell? ⟨g, j, none⟩ = w.cell? ⟨g, j, none⟩
  lt : g < w.heap.size

section
variable {B : Nat} {w w' w'' : World} {g o : Nat} {T : TypeId}
theorem Near.refl (B : Nat) (o : Nat) (h : g < w.heap.size) : Near B w w g o := ⟨rfl, rfl, rfl, Nat.le_refl _, fun _ _ _ => rfl, fun _ _ h => h, fun _ _ => rfl, h⟩

theorem Near.trans (h : Near B w w' g o) (k : Near B w' w'' g o) : Near B w w'' g o :=
  ⟨k.os.trans h.os, k.tape.trans h.tape, k.output.trans h.output, Nat.le_trans h.size k.size, fun i hi hn => (k.block i hi hn).trans (h.block i hi hn), fun b T hT => k.row b T (h.row b T hT), fun j hj => (k.out j hj).trans (h.out j hj), h.lt⟩

theorem Row.below (h : Row w g T) (hb : Below w.heap.size w w') : Row w' g T := by
  have hl := h.lt
  obtain ⟨C, h⟩ := h
  exact ⟨C, (hb.block g hl).trans h⟩

theorem Near.of_below (o : Nat) (h : Below w.heap.size w w') (hg : g < w.heap.size) (hB : B ≤ w.heap.size) : Near B w w' g o where
  os := h.os
  tape := h.tape
  output := h.output
  size := h.size
  block := fun i hi _ => h.block i (by omega)
  row := fun b T hT => hT.below h
  out := fun j _ => h.cell (p := ⟨g, j, none⟩) hg
  lt := hg

theorem Near.alloc (h : Near B w w' g o) (hB : B ≤ w.heap.size) (b : Obj) : Near B w (w'.alloc b) g o where
  os := h.os
  tape := h.tape
  output := h.output
  size := Nat.le_trans h.size (by simp)
  block := fun i hi hne => (Below.heap_alloc w' b i (by have := h.size; omega)).trans (h.block i hi hne)
  row := fun r T hT => (h.row r T hT).alloc b
  out := fun j hj => (World.cell?_alloc_lt w' b ⟨g, j, none⟩ (Nat.lt_of_lt_of_le h.lt h.size)).trans (h.out j hj)
  lt := h.lt

theorem Near.set (h : Near B w w' g o) (j : Nat) (hj : o ≤ j ∧ j ≤ o + 12) (v : Value) : Near B w (w'.setCell ⟨g, j, none⟩ v) g o where
  os := h.os
  tape := h.tape
  output := h.output
  size := by simpa [World.setCell] using h.size
  block := fun i hi hne => (Below.heap_setCell w' _ v i hne).trans (h.block i hi hne)
  row := fun b T hT => (h.row b T hT).setCell _ _
  out := fun k hk => (World.cell?_setCell_other w' _ _ v (by
    intro e
    injection e with _ e
    omega)).trans (h.out k hk)
  lt := h.lt

/-- A store into a block from B on (a captured variable). -/
theorem Near.far (h : Near B w w' g o) {a : Addr} (ha : B ≤ a.block) (hg : a.block ≠ g) (v : Value) : Near B w (w'.setCell a v) g o where
  os := h.os
  tape := h.tape
  output := h.output
  size := by simpa [World.setCell] using h.size
  block := fun i hi hne => (Below.heap_setCell w' _ v i (by omega)).trans (h.block i hi hne)
  row := fun b T hT => (h.row b T hT).setCell _ _
  out := fun k hk => (World.cell?_setCell_other w' _ _ v (by
    rintro rfl
    exact hg rfl)).trans (h.out k hk)
  lt := h.lt

theorem Near.drew (h : Near B w w' g o) : Near B w w'.drew g o := ⟨h.os, h.tape, h.output, h.size, h.block, h.row, h.out, h.lt⟩
theorem Near.drewN (h : Near B w w' g o) (n : Nat) : Near B w (w'.drewN n) g o := ⟨h.os, h.tape, h.output, h.size, h.block, h.row, h.out, h.lt⟩
theorem Row.drew (h : Row w g T) : Row w.drew g T := h
theorem Row.drewN (h : Row w g T) (n : Nat) : Row (w.drewN n) g T := h
end

end Go.Proofs.YtgnjenmicojgnaaGreat

namespace Go.Proofs.YtgnjenmicojgnaaGreat
set_option linter.unusedVariables false
set_option linter.unusedSimpArgs false
open Go.RowKit

set_option maxRecDepth 100000 in
set_option maxHeartbeats 400000 in
theorem at_any (B g o : Nat) (now : Int) (p : Pr) (w : World) (hr : Row w g 82) (hB : B ≤ w.heap.size) (hp : PrAt w g o p) :
    Calls Tryz.prog 106 #[.pointer (some ⟨g, o, none⟩), .int .i64 now] w fun e w' => e = .returned (.tuple #[]) ∧ Near B w w' g o ∧ PrAt w' g o { p with st := 1, beg := now, used := 0, missed := false } := by
  obtain ⟨c0, c1, c2, c3, c4, c5, c6, c7, c8, c9, c10, c11, c12⟩ := hp
  have hfz := hr.fz
  have hlt := hr.lt
  go_enter Tryz.func106, Tryz.ntmps106
  go_wp2
  go_end0
  refine ⟨rfl, ?_, ?_⟩
  · repeat first | with_reducible exact Near.refl _ _ hlt | with_reducible refine Near.drew ?_ | with_reducible refine Near.drewN ?_ _ | with_reducible refine Near.set ?_ _ (by omega) _ | with_reducible refine Near.far ?_ (by assumption) (by assumption) _ | with_reducible refine Near.alloc ?_ hB _
  · constructor <;> simp [*, World.cell?_setCell_same', World.cell?_setCell_other]

set_option maxRecDepth 100000 in
set_option maxHeartbeats 400000 in
theorem rest_any (B g o : Nat) (til : Int) (p : Pr) (w : World) (hr : Row w g 82) (hB : B ≤ w.heap.size) (hp : PrAt w g o p) :
    Calls Tryz.prog 115 #[.pointer (some ⟨g, o, none⟩), .int .i64 til] w fun e w' => e = .returned (.tuple #[]) ∧ Near B w w' g o ∧ PrAt w' g o { p with st := 3, til := til, beg := 0, used := 0, missed := false } := by
  obtain ⟨c0, c1, c2, c3, c4, c5, c6, c7, c8, c9, c10, c11, c12⟩ := hp
  have hfz := hr.fz
  have hlt := hr.lt
  go_enter Tryz.func115, Tryz.ntmps115
  go_wp2
  go_end0
  refine ⟨rfl, ?_, ?_⟩
  · repeat first | with_reducible exact Near.refl _ _ hlt | with_reducible refine Near.drew ?_ | with_reducible refine Near.drewN ?_ _ | with_reducible refine Near.set ?_ _ (by omega) _ | with_reducible refine Near.far ?_ (by assumption) (by assumption) _ | with_reducible refine Near.alloc ?_ hB _
  · constructor <;> simp [*, World.cell?_setCell_same', World.cell?_setCell_other]

set_option maxRecDepth 100000 in
set_option maxHeartbeats 400000 in
theorem sleep_any (B g o : Nat) (p : Pr) (w : World) (hr : Row w g 82) (hB : B ≤ w.heap.size) (hp : PrAt w g o p) :
    Calls Tryz.prog 116 #[.pointer (some ⟨g, o, none⟩)] w fun e w' => e = .returned (.tuple #[]) ∧ Near B w w' g o ∧ PrAt w' g o { p with st := 0, held := false, base := 0, raised := 0, til := 0, beg := 0, used := 0, missed := false } := by
  obtain ⟨c0, c1, c2, c3, c4, c5, c6, c7, c8, c9, c10, c11, c12⟩ := hp
  have hfz := hr.fz
  have hlt := hr.lt
  go_enter Tryz.func116, Tryz.ntmps116
  go_wp2
  go_end0
  refine ⟨rfl, ?_, ?_⟩
  · repeat first | with_reducible exact Near.refl _ _ hlt | with_reducible refine Near.drew ?_ | with_reducible refine Near.drewN ?_ _ | with_reducible refine Near.set ?_ _ (by omega) _ | with_reducible refine Near.far ?_ (by assumption) (by assumption) _ | with_reducible refine Near.alloc ?_ hB _
  · constructor <;> simp [*, World.cell?_setCell_same', World.cell?_setCell_other]

set_option maxRecDepth 100000 in
set_option maxHeartbeats 400000 in
theorem susp2 (B g o : Nat) (p : Pr) (w : World) (hr : Row w g 82) (hB : B ≤ w.heap.size) (hp : PrAt w g o p) :
    Calls Tryz.prog 118 #[.pointer (some ⟨g, o, none⟩)] w fun e w' => e = .returned (.tuple #[]) ∧ Near B w w' g o ∧ PrAt w' g o { p with held := true } := by
  obtain ⟨c0, c1, c2, c3, c4, c5, c6, c7, c8, c9, c10, c11, c12⟩ := hp
  have hfz := hr.fz
  have hlt := hr.lt
  go_enter Tryz.func118, Tryz.ntmps118
  go_wp2
  go_end0
  refine ⟨rfl, ?_, ?_⟩
  · repeat first | with_reducible exact Near.refl _ _ hlt | with_reducible refine Near.drew ?_ | with_reducible refine Near.drewN ?_ _ | with_reducible refine Near.set ?_ _ (by omega) _ | with_reducible refine Near.far ?_ (by assumption) (by assumption) _ | with_reducible refine Near.alloc ?_ hB _
  · constructor <;> simp [*, World.cell?_setCell_same', World.cell?_setCell_other]

set_option maxRecDepth 100000 in
set_option maxHeartbeats 400000 in
theorem resu2 (B g o : Nat) (p : Pr) (w : World) (hr : Row w g 82) (hB : B ≤ w.heap.size) (hp : PrAt w g o p) :
    Calls Tryz.prog 120 #[.pointer (some ⟨g, o, none⟩)] w fun e w' => e = .returned (.tuple #[]) ∧ Near B w w' g o ∧ PrAt w' g o { p with held := false } := by
  obtain ⟨c0, c1, c2, c3, c4, c5, c6, c7, c8, c9, c10, c11, c12⟩ := hp
  have hfz := hr.fz
  have hlt := hr.lt
  go_enter Tryz.func120, Tryz.ntmps120
  go_wp2
  go_end0
  refine ⟨rfl, ?_, ?_⟩
  · repeat first | with_reducible exact Near.refl _ _ hlt | with_reducible refine Near.drew ?_ | with_reducible refine Near.drewN ?_ _ | with_reducible refine Near.set ?_ _ (by omega) _ | with_reducible refine Near.far ?_ (by assumption) (by assumption) _ | with_reducible refine Near.alloc ?_ hB _
  · constructor <;> simp [*, World.cell?_setCell_same', World.cell?_setCell_other]

set_option maxRecDepth 100000 in
set_option maxHeartbeats 400000 in
theorem wake2 (B g o : Nat) (p : Pr) (w : World) (hr : Row w g 82) (hB : B ≤ w.heap.size) (hp : PrAt w g o p) :
    Calls Tryz.prog 108 #[.pointer (some ⟨g, o, none⟩)] w fun e w' => e = .returned (.tuple #[]) ∧ Near B w w' g o ∧ PrAt w' g o { p with st := 1 } := by
  obtain ⟨c0, c1, c2, c3, c4, c5, c6, c7, c8, c9, c10, c11, c12⟩ := hp
  have hfz := hr.fz
  have hlt := hr.lt
  go_enter Tryz.func108, Tryz.ntmps108
  go_wp2
  go_end0
  refine ⟨rfl, ?_, ?_⟩
  · repeat first | with_reducible exact Near.refl _ _ hlt | with_reducible refine Near.drew ?_ | with_reducible refine Near.drewN ?_ _ | with_reducible refine Near.set ?_ _ (by omega) _ | with_reducible refine Near.far ?_ (by assumption) (by assumption) _ | with_reducible refine Near.alloc ?_ hB _
  · constructor <;> simp [*, World.cell?_setCell_same', World.cell?_setCell_other]

set_option maxRecDepth 100000 in
set_option maxHeartbeats 400000 in
theorem rele2 (B g o : Nat) (p : Pr) (w : World) (hr : Row w g 82) (hB : B ≤ w.heap.size) (hp : PrAt w g o p) :
    Calls Tryz.prog 105 #[.pointer (some ⟨g, o, none⟩)] w fun e w' => e = .returned (.tuple #[]) ∧ Near B w w' g o ∧ PrAt w' g o { p with st := 1, beg := p.til, used := 0, missed := false } := by
  obtain ⟨c0, c1, c2, c3, c4, c5, c6, c7, c8, c9, c10, c11, c12⟩ := hp
  have hfz := hr.fz
  have hlt := hr.lt
  go_enter Tryz.func105, Tryz.ntmps105
  go_wp2
  go_end0
  go_wp2
  go_end0
  refine ⟨rfl, ?_, ?_⟩
  · repeat first | with_reducible exact Near.refl _ _ hlt | with_reducible refine Near.drew ?_ | with_reducible refine Near.drewN ?_ _ | with_reducible refine Near.set ?_ _ (by omega) _ | with_reducible refine Near.far ?_ (by assumption) (by assumption) _ | with_reducible refine Near.alloc ?_ hB _
  · constructor <;> simp [*, World.cell?_setCell_same', World.cell?_setCell_other]

set_option maxRecDepth 100000 in
set_option maxHeartbeats 400000 in
theorem setp1 (B g o : Nat) (n : Int) (b : Nat) (p : Pr) (w : World) (hr : Row w g 82) (hB : B ≤ w.heap.size) (hb : w.cell? ⟨b, 0, none⟩ = some (.int .i64 n)) (hbg : b ≠ g) (hgb : g ≠ b) (hp : PrAt w g o p) :
    Calls Tryz.prog 83 #[.pointer (some ⟨g, o, none⟩), .pointer (some ⟨b, 0, none⟩)] w fun e w' => e = .returned (.tuple #[]) ∧ Near B w w' g o ∧ PrAt w' g o { p with base := n } := by
  obtain ⟨c0, c1, c2, c3, c4, c5, c6, c7, c8, c9, c10, c11, c12⟩ := hp
  have hfz := hr.fz
  have hlt := hr.lt
  go_enter Tryz.func83, Tryz.ntmps83
  go_wp2
  go_end0
  refine ⟨rfl, ?_, ?_⟩
  · repeat first | with_reducible exact Near.refl _ _ hlt | with_reducible refine Near.drew ?_ | with_reducible refine Near.drewN ?_ _ | with_reducible refine Near.set ?_ _ (by omega) _ | with_reducible refine Near.far ?_ (by assumption) (by assumption) _ | with_reducible refine Near.alloc ?_ hB _
  · constructor <;> simp [*, World.cell?_setCell_same', World.cell?_setCell_other]

set_option maxRecDepth 100000 in
set_option maxHeartbeats 400000 in
theorem rais1 (B g o : Nat) (n : Int) (b : Nat) (p : Pr) (w : World) (hr : Row w g 82) (hB : B ≤ w.heap.size) (hb : w.cell? ⟨b, 0, none⟩ = some (.int .i64 n)) (hbg : b ≠ g) (hgb : g ≠ b) (hp : PrAt w g o p) :
    Calls Tryz.prog 84 #[.pointer (some ⟨g, o, none⟩), .pointer (some ⟨b, 0, none⟩)] w fun e w' => e = .returned (.tuple #[]) ∧ Near B w w' g o ∧ PrAt w' g o { p with raised := n } := by
  obtain ⟨c0, c1, c2, c3, c4, c5, c6, c7, c8, c9, c10, c11, c12⟩ := hp
  have hfz := hr.fz
  have hlt := hr.lt
  go_enter Tryz.func84, Tryz.ntmps84
  go_wp2
  go_end0
  refine ⟨rfl, ?_, ?_⟩
  · repeat first | with_reducible exact Near.refl _ _ hlt | with_reducible refine Near.drew ?_ | with_reducible refine Near.drewN ?_ _ | with_reducible refine Near.set ?_ _ (by omega) _ | with_reducible refine Near.far ?_ (by assumption) (by assumption) _ | with_reducible refine Near.alloc ?_ hB _
  · constructor <;> simp [*, World.cell?_setCell_same', World.cell?_setCell_other]

set_option maxRecDepth 100000 in
set_option maxHeartbeats 400000 in
theorem start2_now (B g o : Nat) (now : Int) (b : Nat) (p : Pr) (w : World) (hr : Row w g 82) (hB : B ≤ w.heap.size) (hb : w.cell? ⟨b, 0, none⟩ = some (.int .i64 now)) (hbg : b ≠ g) (hgb : g ≠ b) (h0 : p.off = 0) (hp : PrAt w g o p) :
    Calls Tryz.prog 114 #[.pointer (some ⟨g, o, none⟩), .pointer (some ⟨b, 0, none⟩)] w fun e w' => e = .returned (.tuple #[]) ∧ Near B w w' g o ∧ PrAt w' g o { p with st := 1, held := false, base := p.pri, raised := 0, til := 0, beg := now, used := 0, missed := false } := by
  obtain ⟨c0, c1, c2, c3, c4, c5, c6, c7, c8, c9, c10, c11, c12⟩ := hp
  have hfz := hr.fz
  have hlt := hr.lt
  rw [h0] at c4
  go_enter Tryz.func114, Tryz.ntmps114
  go_wp2
  go_end0
  go_wp2
  go_end0
  refine ⟨rfl, ?_, ?_⟩
  · repeat first | with_reducible exact Near.refl _ _ hlt | with_reducible refine Near.drew ?_ | with_reducible refine Near.drewN ?_ _ | with_reducible refine Near.set ?_ _ (by omega) _ | with_reducible refine Near.far ?_ (by assumption) (by assumption) _ | with_reducible refine Near.alloc ?_ hB _
  · constructor <;> simp [*, World.cell?_setCell_same', World.cell?_setCell_other]

set_option maxRecDepth 100000 in
set_option maxHeartbeats 400000 in
theorem start2_later (B g o : Nat) (now : Int) (b : Nat) (p : Pr) (w : World) (hr : Row w g 82) (hB : B ≤ w.heap.size) (hb : w.cell? ⟨b, 0, none⟩ = some (.int .i64 now)) (hbg : b ≠ g) (hgb : g ≠ b) (h0 : p.off ≠ 0) (hn : 0 ≤ now ∧ now ≤ 1099511627776) (ho : 0 ≤ p.off ∧ p.off ≤ 1048576) (hp : PrAt w g o p) :
    Calls Tryz.prog 114 #[.pointer (some ⟨g, o, none⟩), .pointer (some ⟨b, 0, none⟩)] w fun e w' => e = .returned (.tuple #[]) ∧ Near B w w' g o ∧ PrAt w' g o { p with st := 3, held := false, base := p.pri, raised := 0, til := now + p.off, beg := 0, used := 0, missed := false } := by
  obtain ⟨c0, c1, c2, c3, c4, c5, c6, c7, c8, c9, c10, c11, c12⟩ := hp
  have hfz := hr.fz
  have hlt := hr.lt
  obtain ⟨hn1, hn2⟩ := hn
  obtain ⟨ho1, ho2⟩ := ho
  have h0b : (p.off == 0) = false := by simpa using h0
  go_enter Tryz.func114, Tryz.ntmps114
  go_wp2
  have k1 : Near B w ((((w.setCell ⟨g, o + 6, none⟩ (.bool false)).setCell ⟨g, o + 6 + 1, none⟩ (.int .i64 p.pri)).setCell ⟨g, o + 6 + 2, none⟩ (.int .i64 0)).setCell ⟨g, o + 6 + 3, none⟩ (.int .i64 0)) g o := by repeat first | with_reducible exact Near.refl _ _ hlt | with_reducible refine Near.drew ?_ | with_reducible refine Near.drewN ?_ _ | with_reducible refine Near.set ?_ _ (by omega) _ | with_reducible refine Near.far ?_ (by assumption) (by assumption) _ | with_reducible refine Near.alloc ?_ hB _
  have k2 : PrAt ((((w.setCell ⟨g, o + 6, none⟩ (.bool false)).setCell ⟨g, o + 6 + 1, none⟩ (.int .i64 p.pri)).setCell ⟨g, o + 6 + 2, none⟩ (.int .i64 0)).setCell ⟨g, o + 6 + 3, none⟩ (.int .i64 0)) g o { p with held := false, base := p.pri, raised := 0, til := 0 } := by constructor <;> simp [*, World.cell?_setCell_same', World.cell?_setCell_other]
  have k3 : ((((w.setCell ⟨g, o + 6, none⟩ (.bool false)).setCell ⟨g, o + 6 + 1, none⟩ (.int .i64 p.pri)).setCell ⟨g, o + 6 + 2, none⟩ (.int .i64 0)).setCell ⟨g, o + 6 + 3, none⟩ (.int .i64 0)).cell? ⟨b, 0, none⟩ = some (.int .i64 now) := by simp [*, World.cell?_setCell_other]
  clear c0 c1 c2 c3 c4 c5 c6 c7 c8 c9 c10 c11 c12 hb hfz
  generalize ((((w.setCell ⟨g, o + 6, none⟩ (.bool false)).setCell ⟨g, o + 6 + 1, none⟩ (.int .i64 p.pri)).setCell ⟨g, o + 6 + 2, none⟩ (.int .i64 0)).setCell ⟨g, o + 6 + 3, none⟩ (.int .i64 0)) = w1 at *
  obtain ⟨c0, c1, c2, c3, c4, c5, c6, c7, c8, c9, c10, c11, c12⟩ := k2
  dsimp only at c0 c1 c2 c3 c4 c5 c6 c7 c8 c9 c10 c11 c12
  have hfz := (k1.row _ _ hr).fz
  have hl1 : g < w1.heap.size := (k1.row _ _ hr).lt
  go_still_tail 8, (by kernel_rfl)
  change wpList _ _ _ _ _ w1.drew
  go_wp2
  go_end0
  go_wp2
  go_end0
  refine ⟨rfl, ?_, ?_⟩
  · refine Near.trans k1 ?_
    repeat first | with_reducible exact Near.refl _ _ hl1 | with_reducible refine Near.drew ?_ | with_reducible refine Near.drewN ?_ _ | with_reducible refine Near.set ?_ _ (by omega) _ | with_reducible refine Near.far ?_ (by assumption) (by assumption) _ | with_reducible refine Near.alloc ?_ hB _
  · constructor <;> simp [*, World.cell?_setCell_same', World.cell?_setCell_other]

end Go.Proofs.YtgnjenmicojgnaaGreat

namespace Go.Proofs.YtgnjenmicojgnaaGreat
set_option linter.unusedVariables false
set_option linter.unusedSimpArgs false
open Go.RowKit

set_option maxRecDepth 100000 in
set_option maxHeartbeats 400000 in
theorem done1_once (B g o : Nat) (now x : Int) (bx b : Nat) (p : Pr) (w : World) (hr : Row w g 82) (hB : B ≤ w.heap.size) (hb : w.cell? ⟨b, 0, none⟩ = some (.int .i64 now)) (hbg : b ≠ g) (hgb : g ≠ b) (hx : w.cell? ⟨bx, 0, none⟩ = some (.int .i64 x)) (hfx : w.frozen? ⟨bx, 0, none⟩ = false) (hBx : B ≤ bx) (hxg : bx ≠ g) (hgx : g ≠ bx) (hxy : bx ≠ b) (hyx : b ≠ bx) (h0 : p.per = 0) (hp : PrAt w g o p) :
    Calls Tryz.prog 123 #[.pointer (some ⟨g, o, none⟩), .pointer (some ⟨bx, 0, none⟩), .pointer (some ⟨b, 0, none⟩)] w fun e w' => e = .returned (.tuple #[]) ∧ Near B w w' g o ∧ PrAt w' g o { p with st := 0, held := false, base := 0, raised := 0, til := 0, beg := 0, used := 0, missed := false } ∧ w'.cell? ⟨bx, 0, none⟩ = some (.int .i64 (-1)) := by
  obtain ⟨c0, c1, c2, c3, c4, c5, c6, c7, c8, c9, c10, c11, c12⟩ := hp
  have hfz := hr.fz
  have hlt := hr.lt
  rw [h0] at c1
  go_enter Tryz.func123, Tryz.ntmps123
  go_wp2
  go_end0
  go_wp2
  first | go_end0 | refine bodyPost_ret (results_none rfl _ _ _) rfl ?_
  refine ⟨rfl, ?_, ?_, ?_⟩
  · repeat first | with_reducible exact Near.refl _ _ hlt | with_reducible refine Near.drew ?_ | with_reducible refine Near.drewN ?_ _ | with_reducible refine Near.set ?_ _ (by omega) _ | with_reducible refine Near.far ?_ (by assumption) (by assumption) _ | with_reducible refine Near.alloc ?_ hB _
  · constructor <;> simp [*, World.cell?_setCell_same', World.cell?_setCell_other]
  · simp [*, World.cell?_setCell_same', World.cell?_setCell_other]

set_option maxRecDepth 100000 in
set_option maxHeartbeats 400000 in
theorem done1_late (B g o : Nat) (now x : Int) (bx b : Nat) (p : Pr) (w : World) (hr : Row w g 82) (hB : B ≤ w.heap.size) (hb : w.cell? ⟨b, 0, none⟩ = some (.int .i64 now)) (hbg : b ≠ g) (hgb : g ≠ b) (hx : w.cell? ⟨bx, 0, none⟩ = some (.int .i64 x)) (hfx : w.frozen? ⟨bx, 0, none⟩ = false) (hBx : B ≤ bx) (hxg : bx ≠ g) (hgx : g ≠ bx) (hxy : bx ≠ b) (hyx : b ≠ bx) (h0 : p.per ≠ 0) (h1 : p.beg + p.per ≤ now) (hb1 : 0 ≤ p.beg ∧ p.beg ≤ 1099512676352) (hp1 : 0 ≤ p.per ∧ p.per ≤ 1048576) (hp : PrAt w g o p) :
    Calls Tryz.prog 123 #[.pointer (some ⟨g, o, none⟩), .pointer (some ⟨bx, 0, none⟩), .pointer (some ⟨b, 0, none⟩)] w fun e w' => e = .returned (.tuple #[]) ∧ Near B w w' g o ∧ PrAt w' g o { p with st := 1, beg := p.beg + p.per, used := 0, missed := false } ∧ w'.cell? ⟨bx, 0, none⟩ = some (.int .i64 (p.beg + p.per)) := by
  obtain ⟨c0, c1, c2, c3, c4, c5, c6, c7, c8, c9, c10, c11, c12⟩ := hp
  have hfz := hr.fz
  have hlt := hr.lt
  have h0b : (p.per == 0) = false := by simpa using h0
  obtain ⟨hb1, hb2⟩ := hb1
  obtain ⟨hp1, hp2⟩ := hp1
  go_enter Tryz.func123, Tryz.ntmps123
  go_wp2
  go_still_tail 11, (by kernel_rfl)
  change wpList _ _ _ _ _ w.drew
  go_wp2
  first | go_end0 | refine bodyPost_ret (results_none rfl _ _ _) rfl ?_
  go_wp2
  first | go_end0 | refine bodyPost_ret (results_none rfl _ _ _) rfl ?_
  refine ⟨rfl, ?_, ?_, ?_⟩
  · repeat first | with_reducible exact Near.refl _ _ hlt | with_reducible refine Near.drew ?_ | with_reducible refine Near.drewN ?_ _ | with_reducible refine Near.set ?_ _ (by omega) _ | with_reducible refine Near.far ?_ (by assumption) (by assumption) _ | with_reducible refine Near.alloc ?_ hB _
  · constructor <;> simp [*, World.cell?_setCell_same', World.cell?_setCell_other]
  · simp [*, World.cell?_setCell_same', World.cell?_setCell_other]

set_option maxRecDepth 100000 in
set_option maxHeartbeats 400000 in
theorem done1_rest (B g o : Nat) (now x : Int) (bx b : Nat) (p : Pr) (w : World) (hr : Row w g 82) (hB : B ≤ w.heap.size) (hb : w.cell? ⟨b, 0, none⟩ = some (.int .i64 now)) (hbg : b ≠ g) (hgb : g ≠ b) (hx : w.cell? ⟨bx, 0, none⟩ = some (.int .i64 x)) (hfx : w.frozen? ⟨bx, 0, none⟩ = false) (hBx : B ≤ bx) (hxg : bx ≠ g) (hgx : g ≠ bx) (hxy : bx ≠ b) (hyx : b ≠ bx) (h0 : p.per ≠ 0) (h1 : now < p.beg + p.per) (hb1 : 0 ≤ p.beg ∧ p.beg ≤ 1099512676352) (hp1 : 0 ≤ p.per ∧ p.per ≤ 1048576) (hp : PrAt w g o p) :
    Calls Tryz.prog 123 #[.pointer (some ⟨g, o, none⟩), .pointer (some ⟨bx, 0, none⟩), .pointer (some ⟨b, 0, none⟩)] w fun e w' => e = .returned (.tuple #[]) ∧ Near B w w' g o ∧ PrAt w' g o { p with st := 3, til := p.beg + p.per, beg := 0, used := 0, missed := false } ∧ w'.cell? ⟨bx, 0, none⟩ = some (.int .i64 (p.beg + p.per)) := by
  obtain ⟨c0, c1, c2, c3, c4, c5, c6, c7, c8, c9, c10, c11, c12⟩ := hp
  have hfz := hr.fz
  have hlt := hr.lt
  have h0b : (p.per == 0) = false := by simpa using h0
  obtain ⟨hb1, hb2⟩ := hb1
  obtain ⟨hp1, hp2⟩ := hp1
  go_enter Tryz.func123, Tryz.ntmps123
  go_wp2
  go_still_tail 11, (by kernel_rfl)
  change wpList _ _ _ _ _ w.drew
  go_wp2
  first | go_end0 | refine bodyPost_ret (results_none rfl _ _ _) rfl ?_
  go_wp2
  first | go_end0 | refine bodyPost_ret (results_none rfl _ _ _) rfl ?_
  refine ⟨rfl, ?_, ?_, ?_⟩
  · repeat first | with_reducible exact Near.refl _ _ hlt | with_reducible refine Near.drew ?_ | with_reducible refine Near.drewN ?_ _ | with_reducible refine Near.set ?_ _ (by omega) _ | with_reducible refine Near.far ?_ (by assumption) (by assumption) _ | with_reducible refine Near.alloc ?_ hB _
  · constructor <;> simp [*, World.cell?_setCell_same', World.cell?_setCell_other]
  · simp [*, World.cell?_setCell_same', World.cell?_setCell_other]

set_option maxRecDepth 100000 in
set_option maxHeartbeats 400000 in
theorem wait1 (B g o : Nat) (til : Int) (b : Nat) (p : Pr) (w : World) (hr : Row w g 82) (hB : B ≤ w.heap.size) (hb : w.cell? ⟨b, 0, none⟩ = some (.int .i64 til)) (hbg : b ≠ g) (hgb : g ≠ b) (hp : PrAt w g o p) :
    Calls Tryz.prog 122 #[.pointer (some ⟨g, o, none⟩), .pointer (some ⟨b, 0, none⟩)] w fun e w' => e = .returned (.tuple #[]) ∧ Near B w w' g o ∧ PrAt w' g o { p with st := 2, til := if til < -1 then -1 else til } := by
  obtain ⟨c0, c1, c2, c3, c4, c5, c6, c7, c8, c9, c10, c11, c12⟩ := hp
  have hfz := hr.fz
  have hlt := hr.lt
  go_enter Tryz.func122, Tryz.ntmps122
  go_wp2
  go_region
  go_end0
  refine ⟨rfl, ?_, ?_⟩
  · repeat first | with_reducible exact Near.refl _ _ hlt | with_reducible refine Near.drew ?_ | with_reducible refine Near.drewN ?_ _ | with_reducible refine Near.set ?_ _ (by omega) _ | with_reducible refine Near.far ?_ (by assumption) (by assumption) _ | with_reducible refine Near.alloc ?_ hB _
  · constructor <;> simp [*, World.cell?_setCell_same', World.cell?_setCell_other]

set_option maxRecDepth 100000 in
set_option maxHeartbeats 400000 in
theorem charge1_free_in (B g o : Nat) (n : Int) (x : Bool) (b bx : Nat) (p : Pr) (w : World) (hr : Row w g 82) (hB : B ≤ w.heap.size) (hb : w.cell? ⟨b, 0, none⟩ = some (.int .i64 n)) (hbg : b ≠ g) (hgb : g ≠ b) (hx : w.cell? ⟨bx, 0, none⟩ = some (.bool x)) (hfx : w.frozen? ⟨bx, 0, none⟩ = false) (hBx : B ≤ bx) (hxg : bx ≠ g) (hgx : g ≠ bx) (hxy : bx ≠ b) (hyx : b ≠ bx) (hn : 0 ≤ n ∧ n ≤ 1099511627776) (hu : 0 ≤ p.used ∧ p.used ≤ 1099511627776) (h0 : ¬ 0 < p.cap) (h1 : p.used + n ≤ 1099511627776) (hp : PrAt w g o p) :
    Calls Tryz.prog 89 #[.pointer (some ⟨g, o, none⟩), .pointer (some ⟨b, 0, none⟩), .pointer (some ⟨bx, 0, none⟩)] w fun e w' => e = .returned (.tuple #[]) ∧ Near B w w' g o ∧ PrAt w' g o { p with used := (p.used + n) } ∧ w'.cell? ⟨bx, 0, none⟩ = some (.bool false) := by
  obtain ⟨c0, c1, c2, c3, c4, c5, c6, c7, c8, c9, c10, c11, c12⟩ := hp
  have hfz := hr.fz
  have hlt := hr.lt
  obtain ⟨hn1, hn2⟩ := hn
  obtain ⟨hu1, hu2⟩ := hu
  have hw64 : IntKind.i64.wrap (p.used + n) = p.used + n := IntWalk.i64_in _ (by omega)
  have h0b : decide (0 < p.cap) = false := by simpa using h0
  go_enter Tryz.func89, Tryz.ntmps89
  go_wp2
  go_still_tail 12, (by kernel_rfl)
  change wpList _ _ _ _ _ w.drew
  go_wp2
  have k1 : Near B w ((w.setCell ⟨g, o + 10 + 1, none⟩ (.int .i64 (p.used + n))).drew) g o := by repeat first | with_reducible exact Near.refl _ _ hlt | with_reducible refine Near.drew ?_ | with_reducible refine Near.drewN ?_ _ | with_reducible refine Near.set ?_ _ (by omega) _ | with_reducible refine Near.far ?_ (by assumption) (by assumption) _ | with_reducible refine Near.alloc ?_ hB _
  have k2 : PrAt ((w.setCell ⟨g, o + 10 + 1, none⟩ (.int .i64 (p.used + n))).drew) g o { p with used := (p.used + n) } := by constructor <;> simp [*, World.cell?_setCell_same', World.cell?_setCell_other]
  have k3 : ((w.setCell ⟨g, o + 10 + 1, none⟩ (.int .i64 (p.used + n))).drew).cell? ⟨bx, 0, none⟩ = some (.bool x) := by simp [*, World.cell?_setCell_other]
  have k4 : ((w.setCell ⟨g, o + 10 + 1, none⟩ (.int .i64 (p.used + n))).drew).frozen? ⟨bx, 0, none⟩ = false := by simp [*]
  clear hw64 c0 c1 c2 c3 c4 c5 c6 c7 c8 c9 c10 c11 c12 hb hfz hx hfx
  generalize (w.setCell ⟨g, o + 10 + 1, none⟩ (.int .i64 (p.used + n))).drew = w1 at *
  obtain ⟨c0, c1, c2, c3, c4, c5, c6, c7, c8, c9, c10, c11, c12⟩ := k2
  dsimp only at c0 c1 c2 c3 c4 c5 c6 c7 c8 c9 c10 c11 c12
  have hfz := (k1.row _ _ hr).fz
  have hl1 : g < w1.heap.size := (k1.row _ _ hr).lt
  go_region
  first | go_end0 | refine bodyPost_ret (results_none rfl _ _ _) rfl ?_
  refine ⟨rfl, ?_, ?_, ?_⟩
  · refine Near.trans k1 ?_
    repeat first | with_reducible exact Near.refl _ _ hl1 | with_reducible refine Near.drew ?_ | with_reducible refine Near.drewN ?_ _ | with_reducible refine Near.set ?_ _ (by omega) _ | with_reducible refine Near.far ?_ (by assumption) (by assumption) _ | with_reducible refine Near.alloc ?_ (Nat.le_trans hB k1.size) _
  · constructor <;> simp [*, World.cell?_setCell_same', World.cell?_setCell_other]
  · simp [*, World.cell?_setCell_same', World.cell?_setCell_other]

set_option maxRecDepth 100000 in
set_option maxHeartbeats 400000 in
theorem charge1_free_out (B g o : Nat) (n : Int) (x : Bool) (b bx : Nat) (p : Pr) (w : World) (hr : Row w g 82) (hB : B ≤ w.heap.size) (hb : w.cell? ⟨b, 0, none⟩ = some (.int .i64 n)) (hbg : b ≠ g) (hgb : g ≠ b) (hx : w.cell? ⟨bx, 0, none⟩ = some (.bool x)) (hfx : w.frozen? ⟨bx, 0, none⟩ = false) (hBx : B ≤ bx) (hxg : bx ≠ g) (hgx : g ≠ bx) (hxy : bx ≠ b) (hyx : b ≠ bx) (hn : 0 ≤ n ∧ n ≤ 1099511627776) (hu : 0 ≤ p.used ∧ p.used ≤ 1099511627776) (h0 : ¬ 0 < p.cap) (h1 : 1099511627776 < p.used + n) (hp : PrAt w g o p) :
    Calls Tryz.prog 89 #[.pointer (some ⟨g, o, none⟩), .pointer (some ⟨b, 0, none⟩), .pointer (some ⟨bx, 0, none⟩)] w fun e w' => e = .returned (.tuple #[]) ∧ Near B w w' g o ∧ PrAt w' g o { p with used := 1099511627776 } ∧ w'.cell? ⟨bx, 0, none⟩ = some (.bool false) := by
  obtain ⟨c0, c1, c2, c3, c4, c5, c6, c7, c8, c9, c10, c11, c12⟩ := hp
  have hfz := hr.fz
  have hlt := hr.lt
  obtain ⟨hn1, hn2⟩ := hn
  obtain ⟨hu1, hu2⟩ := hu
  have hw64 : IntKind.i64.wrap (p.used + n) = p.used + n := IntWalk.i64_in _ (by omega)
  have h0b : decide (0 < p.cap) = false := by simpa using h0
  go_enter Tryz.func89, Tryz.ntmps89
  go_wp2
  go_still_tail 12, (by kernel_rfl)
  change wpList _ _ _ _ _ w.drew
  go_wp2
  have k1 : Near B w ((w.setCell ⟨g, o + 10 + 1, none⟩ (.int .i64 1099511627776)).drew) g o := by repeat first | with_reducible exact Near.refl _ _ hlt | with_reducible refine Near.drew ?_ | with_reducible refine Near.drewN ?_ _ | with_reducible refine Near.set ?_ _ (by omega) _ | with_reducible refine Near.far ?_ (by assumption) (by assumption) _ | with_reducible refine Near.alloc ?_ hB _
  have k2 : PrAt ((w.setCell ⟨g, o + 10 + 1, none⟩ (.int .i64 1099511627776)).drew) g o { p with used := 1099511627776 } := by constructor <;> simp [*, World.cell?_setCell_same', World.cell?_setCell_other]
  have k3 : ((w.setCell ⟨g, o + 10 + 1, none⟩ (.int .i64 1099511627776)).drew).cell? ⟨bx, 0, none⟩ = some (.bool x) := by simp [*, World.cell?_setCell_other]
  have k4 : ((w.setCell ⟨g, o + 10 + 1, none⟩ (.int .i64 1099511627776)).drew).frozen? ⟨bx, 0, none⟩ = false := by simp [*]
  clear hw64 c0 c1 c2 c3 c4 c5 c6 c7 c8 c9 c10 c11 c12 hb hfz hx hfx
  generalize (w.setCell ⟨g, o + 10 + 1, none⟩ (.int .i64 1099511627776)).drew = w1 at *
  obtain ⟨c0, c1, c2, c3, c4, c5, c6, c7, c8, c9, c10, c11, c12⟩ := k2
  dsimp only at c0 c1 c2 c3 c4 c5 c6 c7 c8 c9 c10 c11 c12
  have hfz := (k1.row _ _ hr).fz
  have hl1 : g < w1.heap.size := (k1.row _ _ hr).lt
  go_region
  first | go_end0 | refine bodyPost_ret (results_none rfl _ _ _) rfl ?_
  refine ⟨rfl, ?_, ?_, ?_⟩
  · refine Near.trans k1 ?_
    repeat first | with_reducible exact Near.refl _ _ hl1 | with_reducible refine Near.drew ?_ | with_reducible refine Near.drewN ?_ _ | with_reducible refine Near.set ?_ _ (by omega) _ | with_reducible refine Near.far ?_ (by assumption) (by assumption) _ | with_reducible refine Near.alloc ?_ (Nat.le_trans hB k1.size) _
  · constructor <;> simp [*, World.cell?_setCell_same', World.cell?_setCell_other]
  · simp [*, World.cell?_setCell_same', World.cell?_setCell_other]

set_option maxRecDepth 100000 in
set_option maxHeartbeats 400000 in
theorem charge1_cap_in (B g o : Nat) (n : Int) (x : Bool) (b bx : Nat) (p : Pr) (w : World) (hr : Row w g 82) (hB : B ≤ w.heap.size) (hb : w.cell? ⟨b, 0, none⟩ = some (.int .i64 n)) (hbg : b ≠ g) (hgb : g ≠ b) (hx : w.cell? ⟨bx, 0, none⟩ = some (.bool x)) (hfx : w.frozen? ⟨bx, 0, none⟩ = false) (hBx : B ≤ bx) (hxg : bx ≠ g) (hgx : g ≠ bx) (hxy : bx ≠ b) (hyx : b ≠ bx) (hn : 0 ≤ n ∧ n ≤ 1099511627776) (hu : 0 ≤ p.used ∧ p.used ≤ 1099511627776) (h0 : 0 < p.cap) (h1 : p.used + n ≤ 1099511627776) (hp : PrAt w g o p) :
    Calls Tryz.prog 89 #[.pointer (some ⟨g, o, none⟩), .pointer (some ⟨b, 0, none⟩), .pointer (some ⟨bx, 0, none⟩)] w fun e w' => e = .returned (.tuple #[]) ∧ Near B w w' g o ∧ PrAt w' g o { p with used := (p.used + n) } ∧ w'.cell? ⟨bx, 0, none⟩ = some (.bool (decide (p.cap < p.used + n))) := by
  obtain ⟨c0, c1, c2, c3, c4, c5, c6, c7, c8, c9, c10, c11, c12⟩ := hp
  have hfz := hr.fz
  have hlt := hr.lt
  obtain ⟨hn1, hn2⟩ := hn
  obtain ⟨hu1, hu2⟩ := hu
  have hw64 : IntKind.i64.wrap (p.used + n) = p.used + n := IntWalk.i64_in _ (by omega)
  go_enter Tryz.func89, Tryz.ntmps89
  go_wp2
  go_still_tail 12, (by kernel_rfl)
  change wpList _ _ _ _ _ w.drew
  go_wp2
  have k1 : Near B w ((w.setCell ⟨g, o + 10 + 1, none⟩ (.int .i64 (p.used + n))).drew) g o := by repeat first | with_reducible exact Near.refl _ _ hlt | with_reducible refine Near.drew ?_ | with_reducible refine Near.drewN ?_ _ | with_reducible refine Near.set ?_ _ (by omega) _ | with_reducible refine Near.far ?_ (by assumption) (by assumption) _ | with_reducible refine Near.alloc ?_ hB _
  have k2 : PrAt ((w.setCell ⟨g, o + 10 + 1, none⟩ (.int .i64 (p.used + n))).drew) g o { p with used := (p.used + n) } := by constructor <;> simp [*, World.cell?_setCell_same', World.cell?_setCell_other]
  have k3 : ((w.setCell ⟨g, o + 10 + 1, none⟩ (.int .i64 (p.used + n))).drew).cell? ⟨bx, 0, none⟩ = some (.bool x) := by simp [*, World.cell?_setCell_other]
  have k4 : ((w.setCell ⟨g, o + 10 + 1, none⟩ (.int .i64 (p.used + n))).drew).frozen? ⟨bx, 0, none⟩ = false := by simp [*]
  clear hw64 c0 c1 c2 c3 c4 c5 c6 c7 c8 c9 c10 c11 c12 hb hfz hx hfx
  generalize (w.setCell ⟨g, o + 10 + 1, none⟩ (.int .i64 (p.used + n))).drew = w1 at *
  obtain ⟨c0, c1, c2, c3, c4, c5, c6, c7, c8, c9, c10, c11, c12⟩ := k2
  dsimp only at c0 c1 c2 c3 c4 c5 c6 c7 c8 c9 c10 c11 c12
  have hfz := (k1.row _ _ hr).fz
  have hl1 : g < w1.heap.size := (k1.row _ _ hr).lt
  go_still_tail 19, (by kernel_rfl)
  change wpList _ _ _ _ _ w1.drew
  go_wp2
  first | go_end0 | refine bodyPost_ret (results_none rfl _ _ _) rfl ?_
  refine ⟨rfl, ?_, ?_, ?_⟩
  · refine Near.trans k1 ?_
    repeat first | with_reducible exact Near.refl _ _ hl1 | with_reducible refine Near.drew ?_ | with_reducible refine Near.drewN ?_ _ | with_reducible refine Near.set ?_ _ (by omega) _ | with_reducible refine Near.far ?_ (by assumption) (by assumption) _ | with_reducible refine Near.alloc ?_ (Nat.le_trans hB k1.size) _
  · constructor <;> simp [*, World.cell?_setCell_same', World.cell?_setCell_other]
  · simp [*, World.cell?_setCell_same', World.cell?_setCell_other]

set_option maxRecDepth 100000 in
set_option maxHeartbeats 400000 in
theorem charge1_cap_out (B g o : Nat) (n : Int) (x : Bool) (b bx : Nat) (p : Pr) (w : World) (hr : Row w g 82) (hB : B ≤ w.heap.size) (hb : w.cell? ⟨b, 0, none⟩ = some (.int .i64 n)) (hbg : b ≠ g) (hgb : g ≠ b) (hx : w.cell? ⟨bx, 0, none⟩ = some (.bool x)) (hfx : w.frozen? ⟨bx, 0, none⟩ = false) (hBx : B ≤ bx) (hxg : bx ≠ g) (hgx : g ≠ bx) (hxy : bx ≠ b) (hyx : b ≠ bx) (hn : 0 ≤ n ∧ n ≤ 1099511627776) (hu : 0 ≤ p.used ∧ p.used ≤ 1099511627776) (h0 : 0 < p.cap) (h1 : 1099511627776 < p.used + n) (hp : PrAt w g o p) :
    Calls Tryz.prog 89 #[.pointer (some ⟨g, o, none⟩), .pointer (some ⟨b, 0, none⟩), .pointer (some ⟨bx, 0, none⟩)] w fun e w' => e = .returned (.tuple #[]) ∧ Near B w w' g o ∧ PrAt w' g o { p with used := 1099511627776 } ∧ w'.cell? ⟨bx, 0, none⟩ = some (.bool (decide (p.cap < 1099511627776))) := by
  obtain ⟨c0, c1, c2, c3, c4, c5, c6, c7, c8, c9, c10, c11, c12⟩ := hp
  have hfz := hr.fz
  have hlt := hr.lt
  obtain ⟨hn1, hn2⟩ := hn
  obtain ⟨hu1, hu2⟩ := hu
  have hw64 : IntKind.i64.wrap (p.used + n) = p.used + n := IntWalk.i64_in _ (by omega)
  go_enter Tryz.func89, Tryz.ntmps89
  go_wp2
  go_still_tail 12, (by kernel_rfl)
  change wpList _ _ _ _ _ w.drew
  go_wp2
  have k1 : Near B w ((w.setCell ⟨g, o + 10 + 1, none⟩ (.int .i64 1099511627776)).drew) g o := by repeat first | with_reducible exact Near.refl _ _ hlt | with_reducible refine Near.drew ?_ | with_reducible refine Near.drewN ?_ _ | with_reducible refine Near.set ?_ _ (by omega) _ | with_reducible refine Near.far ?_ (by assumption) (by assumption) _ | with_reducible refine Near.alloc ?_ hB _
  have k2 : PrAt ((w.setCell ⟨g, o + 10 + 1, none⟩ (.int .i64 1099511627776)).drew) g o { p with used := 1099511627776 } := by constructor <;> simp [*, World.cell?_setCell_same', World.cell?_setCell_other]
  have k3 : ((w.setCell ⟨g, o + 10 + 1, none⟩ (.int .i64 1099511627776)).drew).cell? ⟨bx, 0, none⟩ = some (.bool x) := by simp [*, World.cell?_setCell_other]
  have k4 : ((w.setCell ⟨g, o + 10 + 1, none⟩ (.int .i64 1099511627776)).drew).frozen? ⟨bx, 0, none⟩ = false := by simp [*]
  clear hw64 c0 c1 c2 c3 c4 c5 c6 c7 c8 c9 c10 c11 c12 hb hfz hx hfx
  generalize (w.setCell ⟨g, o + 10 + 1, none⟩ (.int .i64 1099511627776)).drew = w1 at *
  obtain ⟨c0, c1, c2, c3, c4, c5, c6, c7, c8, c9, c10, c11, c12⟩ := k2
  dsimp only at c0 c1 c2 c3 c4 c5 c6 c7 c8 c9 c10 c11 c12
  have hfz := (k1.row _ _ hr).fz
  have hl1 : g < w1.heap.size := (k1.row _ _ hr).lt
  go_still_tail 19, (by kernel_rfl)
  change wpList _ _ _ _ _ w1.drew
  go_wp2
  first | go_end0 | refine bodyPost_ret (results_none rfl _ _ _) rfl ?_
  refine ⟨rfl, ?_, ?_, ?_⟩
  · refine Near.trans k1 ?_
    repeat first | with_reducible exact Near.refl _ _ hl1 | with_reducible refine Near.drew ?_ | with_reducible refine Near.drewN ?_ _ | with_reducible refine Near.set ?_ _ (by omega) _ | with_reducible refine Near.far ?_ (by assumption) (by assumption) _ | with_reducible refine Near.alloc ?_ (Nat.le_trans hB k1.size) _
  · constructor <;> simp [*, World.cell?_setCell_same', World.cell?_setCell_other]
  · simp [*, World.cell?_setCell_same', World.cell?_setCell_other]

end Go.Proofs.YtgnjenmicojgnaaGreat

namespace Go.Proofs.YtgnjenmicojgnaaGreat
set_option linter.unusedVariables false
set_option linter.unusedSimpArgs false
open Go.RowKit

theorem ret_bool {a b : Bool} (h : a = b) : Ending.returned (.bool a) = .returned (.bool b) := by rw [h]

set_option maxRecDepth 100000 in
set_option maxHeartbeats 400000 in
theorem awake_any (p : Pr) (w : World) :
    Calls Tryz.prog 82 #[.agg p.cells] w fun e w' => e = .returned (.bool (p.st != 0)) ∧ Below w.heap.size w w' := by
  unfold Pr.cells
  go_enter Tryz.func82, Tryz.ntmps82
  go_wp2
  go_ret
  exact ⟨ret_bool (by simp [*]), by repeat first | with_reducible exact Below.refl _ _ | with_reducible refine Below.drew ?_ | (with_reducible refine Below.alloc ?_ (by simp; try omega) _)⟩

set_option maxRecDepth 100000 in
set_option maxHeartbeats 400000 in
theorem start1_any (p : Pr) (w : World) :
    Calls Tryz.prog 113 #[.agg p.cells] w fun e w' => e = .returned (.bool (!(p.st != 0))) ∧ Below w.heap.size w w' := by
  unfold Pr.cells
  go_enter Tryz.func113, Tryz.ntmps113
  go_wp2
  go_ret
  exact ⟨ret_bool (by simp [*]), by repeat first | with_reducible exact Below.refl _ _ | with_reducible refine Below.drew ?_ | (with_reducible refine Below.alloc ?_ (by simp; try omega) _)⟩

set_option maxRecDepth 100000 in
set_option maxHeartbeats 400000 in
theorem wake1_any (p : Pr) (w : World) :
    Calls Tryz.prog 107 #[.agg p.cells] w fun e w' => e = .returned (.bool (p.st == 2)) ∧ Below w.heap.size w w' := by
  unfold Pr.cells
  go_enter Tryz.func107, Tryz.ntmps107
  go_wp2
  go_ret
  exact ⟨ret_bool (by simp [*]), by repeat first | with_reducible exact Below.refl _ _ | with_reducible refine Below.drew ?_ | (with_reducible refine Below.alloc ?_ (by simp; try omega) _)⟩

set_option maxRecDepth 100000 in
set_option maxHeartbeats 400000 in
theorem free_any (p : Pr) (w : World) :
    Calls Tryz.prog 121 #[.agg p.cells] w fun e w' => e = .returned (.bool (p.st == 1 && !p.held)) ∧ Below w.heap.size w w' := by
  unfold Pr.cells
  by_cases h0 : p.st = 1
  · have h1 : (p.st == 1) = true := by simpa using h0
    go_enter Tryz.func121, Tryz.ntmps121
    go_wp2
    go_ret
    exact ⟨ret_bool (by simp [*]), by repeat first | with_reducible exact Below.refl _ _ | with_reducible refine Below.drew ?_ | (with_reducible refine Below.alloc ?_ (by simp; try omega) _)⟩
  · have h1 : (p.st == 1) = false := by simpa using h0
    go_enter Tryz.func121, Tryz.ntmps121
    go_wp2
    go_ret
    exact ⟨ret_bool (by simp [*]), by repeat first | with_reducible exact Below.refl _ _ | with_reducible refine Below.drew ?_ | (with_reducible refine Below.alloc ?_ (by simp; try omega) _)⟩

set_option maxRecDepth 100000 in
set_option maxHeartbeats 400000 in
theorem busy_any (p : Pr) (w : World) :
    Calls Tryz.prog 88 #[.agg p.cells] w fun e w' => e = .returned (.bool (p.st == 1 || p.st == 2)) ∧ Below w.heap.size w w' := by
  unfold Pr.cells
  by_cases h0 : p.st = 1
  · have h1 : (p.st == 1) = true := by simpa using h0
    go_enter Tryz.func88, Tryz.ntmps88
    go_wp2
    go_ret
    exact ⟨ret_bool (by simp [*]), by repeat first | with_reducible exact Below.refl _ _ | with_reducible refine Below.drew ?_ | (with_reducible refine Below.alloc ?_ (by simp; try omega) _)⟩
  · have h1 : (p.st == 1) = false := by simpa using h0
    go_enter Tryz.func88, Tryz.ntmps88
    go_wp2
    go_ret
    exact ⟨ret_bool (by simp [*]), by repeat first | with_reducible exact Below.refl _ _ | with_reducible refine Below.drew ?_ | (with_reducible refine Below.alloc ?_ (by simp; try omega) _)⟩

set_option maxRecDepth 100000 in
set_option maxHeartbeats 400000 in
theorem susp1_any (p : Pr) (w : World) :
    Calls Tryz.prog 117 #[.agg p.cells] w fun e w' => e = .returned (.bool (p.st != 0 && !p.held)) ∧ Below w.heap.size w w' := by
  unfold Pr.cells
  by_cases h0 : p.st = 0
  · have h1 : (p.st != 0) = false := by simpa using h0
    go_enter Tryz.func117, Tryz.ntmps117
    go_wp2
    go_ret
    exact ⟨ret_bool (by simp [*]), by repeat first | with_reducible exact Below.refl _ _ | with_reducible refine Below.drew ?_ | (with_reducible refine Below.alloc ?_ (by simp; try omega) _)⟩
  · have h1 : (p.st != 0) = true := by simpa using h0
    go_enter Tryz.func117, Tryz.ntmps117
    go_wp2
    go_ret
    exact ⟨ret_bool (by simp [*]), by repeat first | with_reducible exact Below.refl _ _ | with_reducible refine Below.drew ?_ | (with_reducible refine Below.alloc ?_ (by simp; try omega) _)⟩

set_option maxRecDepth 100000 in
set_option maxHeartbeats 400000 in
theorem resu1_any (p : Pr) (w : World) :
    Calls Tryz.prog 119 #[.agg p.cells] w fun e w' => e = .returned (.bool (p.st != 0 && p.held)) ∧ Below w.heap.size w w' := by
  unfold Pr.cells
  by_cases h0 : p.st = 0
  · have h1 : (p.st != 0) = false := by simpa using h0
    go_enter Tryz.func119, Tryz.ntmps119
    go_wp2
    go_ret
    exact ⟨ret_bool (by simp [*]), by repeat first | with_reducible exact Below.refl _ _ | with_reducible refine Below.drew ?_ | (with_reducible refine Below.alloc ?_ (by simp; try omega) _)⟩
  · have h1 : (p.st != 0) = true := by simpa using h0
    go_enter Tryz.func119, Tryz.ntmps119
    go_wp2
    go_ret
    exact ⟨ret_bool (by simp [*]), by repeat first | with_reducible exact Below.refl _ _ | with_reducible refine Below.drew ?_ | (with_reducible refine Below.alloc ?_ (by simp; try omega) _)⟩

set_option maxRecDepth 100000 in
set_option maxHeartbeats 400000 in
theorem rele1_any (p : Pr) (now : Int) (b : Nat) (w : World) (hb : w.cell? ⟨b, 0, none⟩ = some (.int .i64 now)) (hlt : b < w.heap.size) :
    Calls Tryz.prog 104 #[.agg p.cells, .pointer (some ⟨b, 0, none⟩)] w fun e w' => e = .returned (.bool (p.st == 3 && decide (p.til ≤ now))) ∧ Below w.heap.size w w' := by
  unfold Pr.cells
  by_cases h0 : p.st = 3
  · have h1 : (p.st == 3) = true := by simpa using h0
    go_enter Tryz.func104, Tryz.ntmps104
    go_wp2
    go_ret
    exact ⟨ret_bool (by simp [*]), by repeat first | with_reducible exact Below.refl _ _ | with_reducible refine Below.drew ?_ | (with_reducible refine Below.alloc ?_ (by simp; try omega) _)⟩
  · have h1 : (p.st == 3) = false := by simpa using h0
    go_enter Tryz.func104, Tryz.ntmps104
    go_wp2
    go_ret
    exact ⟨ret_bool (by simp [*]), by repeat first | with_reducible exact Below.refl _ _ | with_reducible refine Below.drew ?_ | (with_reducible refine Below.alloc ?_ (by simp; try omega) _)⟩

end Go.Proofs.YtgnjenmicojgnaaGreat

namespace Go.Proofs.YtgnjenmicojgnaaGreat
set_option linter.unusedVariables false
set_option linter.unusedSimpArgs false
open Go.RowKit

set_option maxHeartbeats 400000 in
theorem len_any (t : Nat) (a : Option Addr) (n c : Nat) (w : World) (hT : w.cell? ⟨t, 0, none⟩ = some (.slice a n c)) :
    Calls Tryz.prog 14 #[.pointer (some ⟨t, 0, none⟩)] w fun e w' => e = .returned (.int .i64 n) ∧ w = w' := by
  go_enter Tryz.func14, Tryz.ntmps14
  go_wp2
  go_ret
  exact ⟨rfl, rfl⟩

/-- A call through a function value of function k enters function k. -/
def Enters (k : Nat) : Prop := ∀ (a : Array Value) (w : World), (callFunc k a).run Tryz.prog w = .ok (.enter k a) w

theorem enters113 : Enters 113 := fun _ _ => by kernel_rfl
theorem enters82 : Enters 82 := fun _ _ => by kernel_rfl
theorem enters114 : Enters 114 := fun _ _ => by kernel_rfl

set_option maxRecDepth 100000 in
set_option maxHeartbeats 400000 in
theorem change_do (t g n c i ks kd : Nat) (capS capD : Array Value) (p : Pr) (w : World) (Q : World → World → Prop) (eS : Enters ks) (eD : Enters kd)
    (hT : w.cell? ⟨t, 0, none⟩ = some (.slice (some ⟨g, 0, none⟩) n c)) (hn : n < 1000) (hi : i < n) (hp : PrAt w g (i * 13) p) (hr : Row w g 82) (ht : t < w.heap.size)
    (hS : Calls Tryz.prog ks (#[.agg p.cells] ++ capS) w fun e w2 => e = .returned (.bool true) ∧ Below w.heap.size w w2)
    (hD : ∀ w1, Below w.heap.size w w1 → Calls Tryz.prog kd (#[.pointer (some ⟨g, i * 13, none⟩)] ++ capD) w1 fun e w2 => e = .returned (.tuple #[]) ∧ Q w1 w2) :
    Calls Tryz.prog 80 #[.pointer (some ⟨t, 0, none⟩), .int .i64 i, .bool true, .func (.func ks) #[] capS, .func (.func kd) #[] capD] w fun e w' => e = .returned (.int .i64 0) ∧ ∃ w1, Below w.heap.size w w1 ∧ Q w1 w' := by
  have HS := Lib.hid hS
  have HD := Lib.hid hD
  clear hS hD
  unfold Enters at eS eD
  obtain ⟨c0, c1, c2, c3, c4, c5, c6, c7, c8, c9, c10, c11, c12⟩ := hp
  have hfz := hr.fz
  have hlt := hr.lt
  go_enter Tryz.func80, Tryz.ntmps80
  go_wp2_with (go_at_call 14; refine (len_any t (some ⟨g, 0, none⟩) n c _ ?_).mono ?_; exact hT; rintro e w' ⟨rfl, rfl⟩)
  refine Calls.mono HS.out ?_
  rintro e w1 ⟨rfl, hb⟩
  have hT1 : w1.cell? ⟨t, 0, none⟩ = some (.slice (some ⟨g, 0, none⟩) n c) := (hb.cell (p := ⟨t, 0, none⟩) ht).trans hT
  go_wp2
  refine Calls.mono (HD.out w1 hb) ?_
  rintro e w2 ⟨rfl, hq⟩
  have HQ := Lib.hid hq
  clear hq
  go_wp2
  go_ret
  exact ⟨rfl, w1, hb, HQ.out⟩

set_option maxRecDepth 100000 in
set_option maxHeartbeats 400000 in
theorem change_state (t g n c i ks kd : Nat) (capS capD : Array Value) (p : Pr) (w : World) (eS : Enters ks)
    (hT : w.cell? ⟨t, 0, none⟩ = some (.slice (some ⟨g, 0, none⟩) n c)) (hn : n < 1000) (hi : i < n) (hp : PrAt w g (i * 13) p)
    (hS : Calls Tryz.prog ks (#[.agg p.cells] ++ capS) w fun e w2 => e = .returned (.bool false) ∧ Below w.heap.size w w2) :
    Calls Tryz.prog 80 #[.pointer (some ⟨t, 0, none⟩), .int .i64 i, .bool true, .func (.func ks) #[] capS, .func (.func kd) #[] capD] w fun e w' => e = .returned (.int .i64 10) ∧ Below w.heap.size w w' := by
  have HS := Lib.hid hS
  clear hS
  unfold Enters at eS
  obtain ⟨c0, c1, c2, c3, c4, c5, c6, c7, c8, c9, c10, c11, c12⟩ := hp
  go_enter Tryz.func80, Tryz.ntmps80
  go_wp2_with (go_at_call 14; refine (len_any t (some ⟨g, 0, none⟩) n c _ ?_).mono ?_; exact hT; rintro e w' ⟨rfl, rfl⟩)
  refine Calls.mono HS.out ?_
  rintro e w1 ⟨rfl, hb⟩
  go_wp2
  go_ret
  exact ⟨rfl, hb⟩

set_option maxRecDepth 100000 in
set_option maxHeartbeats 400000 in
theorem change_range (t n c i : Nat) (a : Option Addr) (x y : Value) (w : World)
    (hT : w.cell? ⟨t, 0, none⟩ = some (.slice a n c)) (hn : n < 1000) (hi : i < n) :
    Calls Tryz.prog 80 #[.pointer (some ⟨t, 0, none⟩), .int .i64 i, .bool false, x, y] w fun e w' => e = .returned (.int .i64 2) ∧ w = w' := by
  go_enter Tryz.func80, Tryz.ntmps80
  go_wp2_with (go_at_call 14; refine (len_any t a n c _ ?_).mono ?_; exact hT; rintro e w' ⟨rfl, rfl⟩)
  go_ret
  exact ⟨rfl, rfl⟩

set_option maxRecDepth 100000 in
set_option maxHeartbeats 400000 in
theorem change_none (t n c : Nat) (i : Int) (a : Option Addr) (may x y : Value) (w : World)
    (hT : w.cell? ⟨t, 0, none⟩ = some (.slice a n c)) (hn : n < 1000) (hi : i < 0 ∨ (n : Int) ≤ i) :
    Calls Tryz.prog 80 #[.pointer (some ⟨t, 0, none⟩), .int .i64 i, may, x, y] w fun e w' => e = .returned (.int .i64 9) ∧ w = w' := by
  by_cases h0 : i < 0
  · go_enter Tryz.func80, Tryz.ntmps80
    go_wp2
    go_ret
    exact ⟨rfl, rfl⟩
  · obtain ⟨k, rfl⟩ := Int.eq_ofNat_of_zero_le (by omega : 0 ≤ i)
    have hk : n ≤ k := by omega
    clear hi h0
    go_enter Tryz.func80, Tryz.ntmps80
    go_wp2_with (go_at_call 14; refine (len_any t a n c _ ?_).mono ?_; exact hT; rintro e w' ⟨rfl, rfl⟩)
    go_ret
    exact ⟨rfl, rfl⟩

end Go.Proofs.YtgnjenmicojgnaaGreat

namespace Go.Proofs.YtgnjenmicojgnaaGreat
set_option linter.unusedVariables false
set_option linter.unusedSimpArgs false
open Go.RowKit

/-- The value of a table's slice. -/
def slc (g c : Nat) (ps : List Pr) : Value := if ps.length = 0 then .slice none 0 0 else .slice (some ⟨g, 0, none⟩) ps.length c

/-- Block t is a table whose processes are ps; they lie in block g. -/
structure Tab (w : World) (t g c : Nat) (ps : List Pr) : Prop where
  hdr : w.heap[t]? = some (.cells #[slc g c ps] 86 (0, 0))
  rows : ps.length ≠ 0 → Row w g 82 ∧ ∀ i p, ps[i]? = some p → PrAt w g (i * 13) p
  len : ps.length ≤ 16

/-- From w to w' nothing below B has turned but block g; no block has changed its kind. -/
structure Apart (B : Nat) (w w' : World) (g : Nat) : Prop where
  os : w'.os = w.os
  tape : w'.tape = w.tape
  output : w'.output = w.output
  size : w.heap.size ≤ w'.heap.size
  block : ∀ i, i < B → i ≠ g → w'.heap[i]? = w.heap[i]?

section
variable {B : Nat} {w w' w'' : World} {t g c : Nat} {ps : List Pr}

theorem Apart.refl (B g : Nat) (w : World) : Apart B w w g := ⟨rfl, rfl, rfl, Nat.le_refl _, fun _ _ _ => rfl⟩
theorem Apart.trans (h : Apart B w w' g) (k : Apart B w' w'' g) : Apart B w w'' g :=
  ⟨k.os.trans h.os, k.tape.trans h.tape, k.output.trans h.output, Nat.le_trans h.size k.size, fun i hi hn => (k.block i hi hn).trans (h.block i hi hn)⟩
theorem Apart.of_below (h : Below w.heap.size w w') (hB : B ≤ w.heap.size) : Apart B w w' g := ⟨h.os, h.tape, h.output, h.size, fun i hi _ => h.block i (by omega)⟩
theorem Apart.of_near {o : Nat} (h : Near B w w' g o) : Apart B w w' g := ⟨h.os, h.tape, h.output, h.size, h.block⟩
theorem Apart.mono {B' : Nat} (h : Apart B w w' g) (hB : B' ≤ B) : Apart B' w w' g := ⟨h.os, h.tape, h.output, h.size, fun i hi hn => h.block i (by omega) hn⟩
theorem Apart.alloc (h : Apart B w w' g) (hB : B ≤ w.heap.size) (o : Obj) : Apart B w (w'.alloc o) g :=
  ⟨h.os, h.tape, h.output, Nat.le_trans h.size (by simp), fun i hi hne => (Below.heap_alloc w' o i (by have := h.size; omega)).trans (h.block i hi hne)⟩

theorem PrAt.congr {o : Nat} {p : Pr} (h : PrAt w g o p) (hc : ∀ j, o ≤ j → j ≤ o + 12 → w'.cell? ⟨g, j, none⟩ = w.cell? ⟨g, j, none⟩) : PrAt w' g o p where
  c0 := (hc _ (by omega) (by omega)).trans h.c0
  c1 := (hc _ (by omega) (by omega)).trans h.c1
  c2 := (hc _ (by omega) (by omega)).trans h.c2
  c3 := (hc _ (by omega) (by omega)).trans h.c3
  c4 := (hc _ (by omega) (by omega)).trans h.c4
  c5 := (hc _ (by omega) (by omega)).trans h.c5
  c6 := (hc _ (by omega) (by omega)).trans h.c6
  c7 := (hc _ (by omega) (by omega)).trans h.c7
  c8 := (hc _ (by omega) (by omega)).trans h.c8
  c9 := (hc _ (by omega) (by omega)).trans h.c9
  c10 := (hc _ (by omega) (by omega)).trans h.c10
  c11 := (hc _ (by omega) (by omega)).trans h.c11
  c12 := (hc _ (by omega) (by omega)).trans h.c12

theorem Tab.lt (h : Tab w t g c ps) : t < w.heap.size := Row.lt ⟨_, h.hdr⟩
theorem Tab.cell (h : Tab w t g c ps) : w.cell? ⟨t, 0, none⟩ = some (slc g c ps) := by
  simp [World.cell?, h.hdr]
theorem Tab.ne (h : Tab w t g c ps) (hp : ps.length ≠ 0) : t ≠ g := by
  rintro rfl
  obtain ⟨⟨C, hC⟩, _⟩ := h.rows hp
  have := h.hdr
  rw [hC] at this
  injection this with this
  injection this with _ e _
  exact absurd e (by decide)
theorem Tab.glt (h : Tab w t g c ps) (hp : ps.length ≠ 0) : g < w.heap.size := (h.rows hp).1.lt

theorem Tab.keep (h : Tab w t g c ps) (hb : ∀ i, i < w.heap.size → w'.heap[i]? = w.heap[i]?) : Tab w' t g c ps where
  hdr := (hb t h.lt).trans h.hdr
  rows := fun hp => by
    obtain ⟨hr, hc⟩ := h.rows hp
    have hg := hr.lt
    obtain ⟨C, hC⟩ := hr
    exact ⟨⟨C, (hb g hg).trans hC⟩, fun i p hi => (hc i p hi).congr fun j _ _ => World.cell?_of_block (w := w) (hb g hg)⟩
  len := h.len

theorem Tab.below (h : Tab w t g c ps) (hb : Below w.heap.size w w') : Tab w' t g c ps := h.keep hb.block
theorem Tab.alloc (h : Tab w t g c ps) (o : Obj) : Tab (w.alloc o) t g c ps := h.keep fun i hi => Below.heap_alloc w o i hi
theorem Tab.drew (h : Tab w t g c ps) : Tab w.drew t g c ps := h.keep fun _ _ => rfl
theorem Tab.drewN (h : Tab w t g c ps) (n : Nat) : Tab (w.drewN n) t g c ps := h.keep fun _ _ => rfl

/-- Another table's act leaves this one as it is. -/
theorem Tab.apart {g' : Nat} (h : Tab w t g c ps) (ha : Apart w.heap.size w w' g') (ht : t ≠ g') (hg : g ≠ g') : Tab w' t g c ps where
  hdr := (ha.block t h.lt ht).trans h.hdr
  rows := fun hp => by
    obtain ⟨hr, hc⟩ := h.rows hp
    have hgl := hr.lt
    obtain ⟨C, hC⟩ := hr
    exact ⟨⟨C, (ha.block g hgl hg).trans hC⟩, fun i p hi => (hc i p hi).congr fun j _ _ => World.cell?_of_block (w := w) (ha.block g hgl hg)⟩
  len := h.len

theorem slc_set (i : Nat) (p : Pr) : slc g c (ps.set i p) = slc g c ps := by simp [slc]

theorem Tab.put (h : Tab w t g c ps) {i : Nat} {p' : Pr} (hn : Near B w w' g (i * 13)) (htB : t < B) (hi : i < ps.length) (hp : PrAt w' g (i * 13) p') : Tab w' t g c (ps.set i p') where
  hdr := by rw [slc_set]; exact (hn.block t htB (h.ne (by omega))).trans h.hdr
  rows := fun hl => by
    obtain ⟨hr, hc⟩ := h.rows (by omega)
    refine ⟨hn.row _ _ hr, fun j p hj => ?_⟩
    rw [List.getElem?_set] at hj
    by_cases e : i = j
    · subst e
      rw [if_pos rfl, if_pos hi] at hj
      injection hj with hj
      subst hj
      exact hp
    · rw [if_neg e] at hj
      exact (hc j p hj).congr fun k h1 h2 => hn.out k (by omega)
  len := by simpa using h.len
end

/-- What a call of one process does to all: the processes behind it, and the error's number. -/
def act (f : Pr → Option Pr) (may : Bool) (ps : List Pr) (i : Int) : List Pr × Int :=
  if i < 0 ∨ (ps.length : Int) ≤ i then (ps, 9) else if may = false then (ps, 2) else
    match (ps[i.toNat]?).bind f with
    | none => (ps, 10)
    | some p' => (ps.set i.toNat p', 0)

set_option maxHeartbeats 400000 in
theorem change_any (t g c ks kd : Nat) (ps : List Pr) (i : Int) (may : Bool) (f : Pr → Option Pr) (X : Pr → World → Prop) (capS capD : Array Value) (w : World) (B : Nat) (eS : Enters ks) (eD : Enters kd)
    (hB : B ≤ w.heap.size) (htB : t < B) (hT : Tab w t g c ps)
    (hS : may = true → ∀ p, p ∈ ps → Calls Tryz.prog ks (#[.agg p.cells] ++ capS) w fun e w2 => e = .returned (.bool (f p).isSome) ∧ Below w.heap.size w w2)
    (hD : may = true → ∀ j p p', ps[j]? = some p → f p = some p' → ∀ w1, Below w.heap.size w w1 → PrAt w1 g (j * 13) p → Row w1 g 82 →
      Calls Tryz.prog kd (#[.pointer (some ⟨g, j * 13, none⟩)] ++ capD) w1 fun e w2 => e = .returned (.tuple #[]) ∧ Near B w1 w2 g (j * 13) ∧ PrAt w2 g (j * 13) p' ∧ X p w2) :
    Calls Tryz.prog 80 #[.pointer (some ⟨t, 0, none⟩), .int .i64 i, .bool may, .func (.func ks) #[] capS, .func (.func kd) #[] capD] w fun e w' =>
      e = .returned (.int .i64 (act f may ps i).2) ∧ Tab w' t g c (act f may ps i).1 ∧ Apart B w w' g ∧
      ((act f may ps i).2 = 0 → ∃ p, ps[i.toNat]? = some p ∧ X p w') ∧ ((act f may ps i).2 ≠ 0 → Below w.heap.size w w') ∧ (∀ b T, Row w b T → Row w' b T) := by
  have hl := hT.len
  obtain ⟨a, cc, hv⟩ : ∃ a cc, slc g c ps = .slice a ps.length cc := by
    unfold slc
    split
    · rename_i h; rw [h]; exact ⟨_, _, rfl⟩
    · exact ⟨_, _, rfl⟩
  have hcell := hT.cell
  by_cases h1 : i < 0 ∨ (ps.length : Int) ≤ i
  · have e : act f may ps i = (ps, 9) := by simp only [act, if_pos h1]
    rw [e]
    rw [hv] at hcell
    refine (change_none t ps.length cc i a _ _ _ w hcell (by omega) h1).mono ?_
    rintro e w' ⟨rfl, rfl⟩
    exact ⟨rfl, hT, Apart.refl _ _ _, fun h => absurd h (by simp), fun _ => Below.refl _ _, fun _ _ h => h⟩
  · obtain ⟨k, rfl⟩ := Int.eq_ofNat_of_zero_le (by omega : 0 ≤ i)
    have hk : k < ps.length := by omega
    by_cases h2 : may = false
    · have e : act f may ps k = (ps, 2) := by simp only [act, if_neg h1, if_pos h2]
      rw [e]
      subst h2
      rw [hv] at hcell
      refine (change_range t ps.length cc k a _ _ w hcell (by omega) hk).mono ?_
      rintro e w' ⟨rfl, rfl⟩
      exact ⟨rfl, hT, Apart.refl _ _ _, fun h => absurd h (by simp), fun _ => Below.refl _ _, fun _ _ h => h⟩
    · have h2' : may = true := by simpa using h2
      have hpk : ps[k]? = some ps[k] := List.getElem?_eq_getElem hk
      obtain ⟨hr, hc⟩ := hT.rows (by omega)
      have hs : slc g c ps = .slice (some ⟨g, 0, none⟩) ps.length c := by unfold slc; rw [if_neg (by omega)]
      rw [hs] at hcell
      have hP := hc k _ hpk
      have hS' := hS h2' ps[k] (List.getElem_mem hk)
      have hD' := hD h2' k ps[k]
      subst h2'
      cases hf : f ps[k] with
      | none =>
        have e : act f true ps k = (ps, 10) := by simp [act, if_neg h1, hpk, hf, hk]
        rw [e]
        rw [hf] at hS'
        refine (change_state t g ps.length c k ks kd capS capD _ w eS hcell (by omega) hk hP hS').mono ?_
        rintro e w' ⟨rfl, hb⟩
        exact ⟨rfl, hT.below hb, Apart.of_below hb hB, fun h => absurd h (by simp), fun _ => hb, fun _ _ h => h.below hb⟩
      | some p' =>
        have e : act f true ps k = (ps.set k p', 0) := by simp [act, if_neg h1, hpk, hf, hk]
        rw [e]
        rw [hf] at hS'
        refine (change_do t g ps.length c k ks kd capS capD _ w (fun w1 w2 => Near B w1 w2 g (k * 13) ∧ PrAt w2 g (k * 13) p' ∧ X ps[k] w2) eS eD hcell (by omega) hk hP hr hT.lt hS'
          (fun w1 hb => hD' p' hpk hf w1 hb (hP.congr fun j _ _ => hb.cell (p := ⟨g, j, none⟩) hr.lt) (hr.below hb))).mono ?_
        rintro e w' ⟨rfl, w1, hb, hn, hp, hx⟩
        refine ⟨rfl, ((hT.below hb).put hn htB hk hp), (Apart.of_below hb hB).trans (Apart.of_near hn), fun _ => ⟨_, hpk, hx⟩, fun h => absurd rfl h, fun b T h => hn.row b T (h.below hb)⟩

end Go.Proofs.YtgnjenmicojgnaaGreat

namespace Go.Proofs.YtgnjenmicojgnaaGreat
set_option linter.unusedVariables false
set_option linter.unusedSimpArgs false
open Go.RowKit

/-- What is true of a process of a table. -/
structure Pr.Ok (p : Pr) : Prop where
  pri : 1 ≤ p.pri ∧ p.pri ≤ 63
  per : 0 ≤ p.per ∧ p.per ≤ 1048576
  cap : 0 ≤ p.cap ∧ p.cap ≤ 1048576
  dl : 0 ≤ p.dl ∧ p.dl ≤ 1048576
  off : 0 ≤ p.off ∧ p.off ≤ 1048576
  st : 0 ≤ p.st ∧ p.st ≤ 3
  base : 0 ≤ p.base ∧ p.base ≤ 63
  raised : 0 ≤ p.raised ∧ p.raised ≤ 63
  til : -1 ≤ p.til ∧ p.til ≤ 1099512676352
  beg : 0 ≤ p.beg ∧ p.beg ≤ 1099511627776
  used : 0 ≤ p.used ∧ p.used ≤ 1099511627776
  dorm : p.st = 0 → p.held = false ∧ p.base = 0 ∧ p.raised = 0 ∧ p.til = 0 ∧ p.beg = 0 ∧ p.used = 0 ∧ p.missed = false
  rest : p.st = 3 → p.beg = 0 ∧ p.used = 0 ∧ p.missed = false ∧ 0 ≤ p.til

/-- A process as it is asked for, dormant. -/
def sleepP (p : Pr) : Pr := { p with st := 0, held := false, base := 0, raised := 0, til := 0, beg := 0, used := 0, missed := false }
def atP (now : Int) (p : Pr) : Pr := { p with st := 1, beg := now, used := 0, missed := false }
def restP (til : Int) (p : Pr) : Pr := { p with st := 3, til := til, beg := 0, used := 0, missed := false }
def startP (now : Int) (p : Pr) : Pr :=
  if p.off = 0 then { p with st := 1, held := false, base := p.pri, raised := 0, til := 0, beg := now, used := 0, missed := false }
  else { p with st := 3, held := false, base := p.pri, raised := 0, til := now + p.off, beg := 0, used := 0, missed := false }
def doneP (now : Int) (p : Pr) : Pr :=
  if p.per = 0 then sleepP p else if p.beg + p.per ≤ now then atP (p.beg + p.per) p else restP (p.beg + p.per) p
def doneN (p : Pr) : Int := if p.per = 0 then -1 else p.beg + p.per
def usedN (n : Int) (p : Pr) : Int := if 1099511627776 < p.used + n then 1099511627776 else p.used + n
def overN (n : Int) (p : Pr) : Bool := decide (0 < p.cap) && decide (p.cap < usedN n p)

def startF (now : Int) (p : Pr) : Option Pr := if (!(p.st != 0)) = true then some (startP now p) else none
def stopF (p : Pr) : Option Pr := if (p.st != 0) = true then some (sleepP p) else none
def suspF (p : Pr) : Option Pr := if (p.st != 0 && !p.held) = true then some { p with held := true } else none
def resuF (p : Pr) : Option Pr := if (p.st != 0 && p.held) = true then some { p with held := false } else none
def waitF (til : Int) (p : Pr) : Option Pr := if (p.st == 1 && !p.held) = true then some { p with st := 2, til := if til < -1 then -1 else til } else none
def wakeF (p : Pr) : Option Pr := if (p.st == 2) = true then some { p with st := 1 } else none
def releF (now : Int) (p : Pr) : Option Pr := if (p.st == 3 && decide (p.til ≤ now)) = true then some (atP p.til p) else none
def doneF (now : Int) (p : Pr) : Option Pr := if (p.st == 1 && !p.held) = true then some (doneP now p) else none
def chargeF (n : Int) (p : Pr) : Option Pr := if (p.st == 1 || p.st == 2) = true then some { p with used := usedN n p } else none
def setpF (n : Int) (p : Pr) : Option Pr := if (p.st != 0) = true then some { p with base := n } else none
def raisF (n : Int) (p : Pr) : Option Pr := if (p.st != 0) = true then some { p with raised := n } else none

def inB (a b c : Int) : Bool := decide (b ≤ a) && decide (a ≤ c)
def tickB (n : Int) : Bool := inB n 0 1099511627776

theorem isSome_ite {b : Bool} {x : Pr} : (if b = true then some x else none).isSome = b := by cases b <;> rfl
theorem some_ite {b : Bool} {x y : Pr} (h : (if b = true then some x else none) = some y) : b = true ∧ x = y := by
  cases b with
  | false => cases h
  | true => exact ⟨rfl, by injection h⟩

theorem tickB_true {n : Int} (h : tickB n = true) : 0 ≤ n ∧ n ≤ 1099511627776 := by simpa [tickB, inB] using h

set_option maxHeartbeats 400000 in
theorem in_any (a b c : Int) (w : World) :
    Calls Tryz.prog 81 #[.int .i64 a, .int .i64 b, .int .i64 c] w fun e w' => e = .returned (.bool (inB a b c)) ∧ w = w' := by
  unfold inB
  by_cases h : b ≤ a
  · go_enter Tryz.func81, Tryz.ntmps81
    go_wp2
    go_ret
    exact ⟨ret_bool (by simp [h]), rfl⟩
  · have h' : a < b := by omega
    go_enter Tryz.func81, Tryz.ntmps81
    go_wp2
    go_ret
    exact ⟨ret_bool (by simp; omega), rfl⟩

set_option maxHeartbeats 400000 in
theorem tick_any (a : Int) (w : World) :
    Calls Tryz.prog 87 #[.int .i64 a] w fun e w' => e = .returned (.bool (tickB a)) ∧ w = w' := by
  unfold tickB
  go_enter Tryz.func87, Tryz.ntmps87
  go_wp2_with (go_at_call 81; refine (in_any _ _ _ _).mono ?_; rintro e w' ⟨rfl, rfl⟩)
  go_ret
  exact ⟨rfl, rfl⟩

theorem enters121 : Enters 121 := fun _ _ => by kernel_rfl
theorem enters116 : Enters 116 := fun _ _ => by kernel_rfl
theorem enters88 : Enters 88 := fun _ _ => by kernel_rfl
theorem enters89 : Enters 89 := fun _ _ => by kernel_rfl
theorem enters117 : Enters 117 := fun _ _ => by kernel_rfl
theorem enters118 : Enters 118 := fun _ _ => by kernel_rfl
theorem enters107 : Enters 107 := fun _ _ => by kernel_rfl
theorem enters108 : Enters 108 := fun _ _ => by kernel_rfl
theorem enters83 : Enters 83 := fun _ _ => by kernel_rfl
theorem enters84 : Enters 84 := fun _ _ => by kernel_rfl
theorem enters122 : Enters 122 := fun _ _ => by kernel_rfl
theorem enters119 : Enters 119 := fun _ _ => by kernel_rfl
theorem enters120 : Enters 120 := fun _ _ => by kernel_rfl
theorem enters104 : Enters 104 := fun _ _ => by kernel_rfl
theorem enters105 : Enters 105 := fun _ _ => by kernel_rfl
theorem enters123 : Enters 123 := fun _ _ => by kernel_rfl

set_option maxRecDepth 100000 in
set_option maxHeartbeats 400000 in
theorem stop_any (t g c : Nat) (ps : List Pr) (i : Int) (w : World) (hT : Tab w t g c ps) (hok : ∀ p, p ∈ ps → p.Ok) :
    Calls Tryz.prog 72 #[.pointer (some ⟨t, 0, none⟩), .int .i64 i] w fun e w' => e = .returned (.int .i64 (act stopF true ps i).2) ∧ Tab w' t g c (act stopF true ps i).1 ∧ Apart w.heap.size w w' g := by
  have htl := hT.lt
  have HT := Lib.hid hT
  clear hT
  go_enter Tryz.func72, Tryz.ntmps72
  go_wp2_with fail
  refine Calls.mono (change_any t g c 82 116 ps i true stopF (fun _ _ => True) #[] #[] w w.heap.size enters82 enters116 (Nat.le_refl _) htl HT.out ?_ ?_) ?_
  · intro _ p hp
    show Calls Tryz.prog 82 #[.agg p.cells] w _
    unfold stopF
    rw [isSome_ite]
    exact awake_any p w
  · intro _ j p p' hj hf w1 hb hP hr
    show Calls Tryz.prog 116 #[.pointer (some ⟨g, j * 13, none⟩)] w1 _
    unfold stopF at hf
    obtain ⟨_, rfl⟩ := some_ite hf
    exact (sleep_any w.heap.size g (j * 13) p w1 hr hb.size hP).mono fun e w2 h => ⟨h.1, h.2.1, h.2.2, trivial⟩
  · rintro e w' ⟨rfl, hT', hA, -, -, -⟩
    have HT' := Lib.hid hT'
    have HA := Lib.hid hA
    clear hT' hA
    go_wp2
    go_ret
    exact ⟨rfl, HT'.out, HA.out⟩

set_option maxRecDepth 100000 in
set_option maxHeartbeats 400000 in
theorem susp_any (t g c : Nat) (ps : List Pr) (i : Int) (w : World) (hT : Tab w t g c ps) (hok : ∀ p, p ∈ ps → p.Ok) :
    Calls Tryz.prog 73 #[.pointer (some ⟨t, 0, none⟩), .int .i64 i] w fun e w' => e = .returned (.int .i64 (act suspF true ps i).2) ∧ Tab w' t g c (act suspF true ps i).1 ∧ Apart w.heap.size w w' g := by
  have htl := hT.lt
  have HT := Lib.hid hT
  clear hT
  go_enter Tryz.func73, Tryz.ntmps73
  go_wp2_with fail
  refine Calls.mono (change_any t g c 117 118 ps i true suspF (fun _ _ => True) #[] #[] w w.heap.size enters117 enters118 (Nat.le_refl _) htl HT.out ?_ ?_) ?_
  · intro _ p hp
    show Calls Tryz.prog 117 #[.agg p.cells] w _
    unfold suspF
    rw [isSome_ite]
    exact susp1_any p w
  · intro _ j p p' hj hf w1 hb hP hr
    show Calls Tryz.prog 118 #[.pointer (some ⟨g, j * 13, none⟩)] w1 _
    unfold suspF at hf
    obtain ⟨_, rfl⟩ := some_ite hf
    exact (susp2 w.heap.size g (j * 13) p w1 hr hb.size hP).mono fun e w2 h => ⟨h.1, h.2.1, h.2.2, trivial⟩
  · rintro e w' ⟨rfl, hT', hA, -, -, -⟩
    have HT' := Lib.hid hT'
    have HA := Lib.hid hA
    clear hT' hA
    go_wp2
    go_ret
    exact ⟨rfl, HT'.out, HA.out⟩

set_option maxRecDepth 100000 in
set_option maxHeartbeats 400000 in
theorem resu_any (t g c : Nat) (ps : List Pr) (i : Int) (w : World) (hT : Tab w t g c ps) (hok : ∀ p, p ∈ ps → p.Ok) :
    Calls Tryz.prog 74 #[.pointer (some ⟨t, 0, none⟩), .int .i64 i] w fun e w' => e = .returned (.int .i64 (act resuF true ps i).2) ∧ Tab w' t g c (act resuF true ps i).1 ∧ Apart w.heap.size w w' g := by
  have htl := hT.lt
  have HT := Lib.hid hT
  clear hT
  go_enter Tryz.func74, Tryz.ntmps74
  go_wp2_with fail
  refine Calls.mono (change_any t g c 119 120 ps i true resuF (fun _ _ => True) #[] #[] w w.heap.size enters119 enters120 (Nat.le_refl _) htl HT.out ?_ ?_) ?_
  · intro _ p hp
    show Calls Tryz.prog 119 #[.agg p.cells] w _
    unfold resuF
    rw [isSome_ite]
    exact resu1_any p w
  · intro _ j p p' hj hf w1 hb hP hr
    show Calls Tryz.prog 120 #[.pointer (some ⟨g, j * 13, none⟩)] w1 _
    unfold resuF at hf
    obtain ⟨_, rfl⟩ := some_ite hf
    exact (resu2 w.heap.size g (j * 13) p w1 hr hb.size hP).mono fun e w2 h => ⟨h.1, h.2.1, h.2.2, trivial⟩
  · rintro e w' ⟨rfl, hT', hA, -, -, -⟩
    have HT' := Lib.hid hT'
    have HA := Lib.hid hA
    clear hT' hA
    go_wp2
    go_ret
    exact ⟨rfl, HT'.out, HA.out⟩

set_option maxRecDepth 100000 in
set_option maxHeartbeats 400000 in
theorem wake_any (t g c : Nat) (ps : List Pr) (i : Int) (w : World) (hT : Tab w t g c ps) (hok : ∀ p, p ∈ ps → p.Ok) :
    Calls Tryz.prog 66 #[.pointer (some ⟨t, 0, none⟩), .int .i64 i] w fun e w' => e = .returned (.int .i64 (act wakeF true ps i).2) ∧ Tab w' t g c (act wakeF true ps i).1 ∧ Apart w.heap.size w w' g := by
  have htl := hT.lt
  have HT := Lib.hid hT
  clear hT
  go_enter Tryz.func66, Tryz.ntmps66
  go_wp2_with fail
  refine Calls.mono (change_any t g c 107 108 ps i true wakeF (fun _ _ => True) #[] #[] w w.heap.size enters107 enters108 (Nat.le_refl _) htl HT.out ?_ ?_) ?_
  · intro _ p hp
    show Calls Tryz.prog 107 #[.agg p.cells] w _
    unfold wakeF
    rw [isSome_ite]
    exact wake1_any p w
  · intro _ j p p' hj hf w1 hb hP hr
    show Calls Tryz.prog 108 #[.pointer (some ⟨g, j * 13, none⟩)] w1 _
    unfold wakeF at hf
    obtain ⟨_, rfl⟩ := some_ite hf
    exact (wake2 w.heap.size g (j * 13) p w1 hr hb.size hP).mono fun e w2 h => ⟨h.1, h.2.1, h.2.2, trivial⟩
  · rintro e w' ⟨rfl, hT', hA, -, -, -⟩
    have HT' := Lib.hid hT'
    have HA := Lib.hid hA
    clear hT' hA
    go_wp2
    go_ret
    exact ⟨rfl, HT'.out, HA.out⟩

set_option maxRecDepth 100000 in
set_option maxHeartbeats 400000 in
theorem start_any (t g c : Nat) (ps : List Pr) (i n : Int) (w : World) (hT : Tab w t g c ps) (hok : ∀ p, p ∈ ps → p.Ok) :
    Calls Tryz.prog 70 #[.pointer (some ⟨t, 0, none⟩), .int .i64 i, .int .i64 n] w fun e w' => e = .returned (.int .i64 (act (startF n) (tickB n) ps i).2) ∧ Tab w' t g c (act (startF n) (tickB n) ps i).1 ∧ Apart w.heap.size w w' g := by
  have htl := hT.lt
  have HT := Lib.hid (hT.alloc (.cells #[.int .i64 n] 3))
  have hg0 : ps.length ≠ 0 → w.heap.size ≠ g := fun h => by have := hT.glt h; omega
  clear hT
  go_enter Tryz.func70, Tryz.ntmps70
  go_wp2_with (go_at_call 87; refine (tick_any _ _).mono ?_; rintro e w' ⟨rfl, rfl⟩)
  refine Calls.mono (change_any t g c 113 114 ps i (tickB n) (startF n) (fun _ _ => True) #[] #[.pointer (some ⟨w.heap.size, 0, none⟩)] (w.alloc (.cells #[.int .i64 n] 3)) w.heap.size enters113 enters114 (by simp) htl HT.out ?_ ?_) ?_
  · intro hm p hp
    show Calls Tryz.prog 113 #[.agg p.cells] _ _
    unfold startF
    rw [isSome_ite]
    exact start1_any p _
  · intro hm j p p' hj hf w1 hb hP hr
    have hpo := hok p (List.mem_of_getElem? hj)
    have hjl : j < ps.length := (List.getElem?_eq_some_iff.1 hj).1
    have hbg := hg0 (by omega)
    have hcell : w1.cell? ⟨w.heap.size, 0, none⟩ = some (.int .i64 n) := (hb.cell (p := ⟨w.heap.size, 0, none⟩) (by simp)).trans (by simp)
    have hB1 : w.heap.size ≤ w1.heap.size := by have := hb.size; simp at this; omega
    unfold startF at hf
    obtain ⟨_, rfl⟩ := some_ite hf
    show Calls Tryz.prog 114 #[.pointer (some ⟨g, j * 13, none⟩), .pointer (some ⟨w.heap.size, 0, none⟩)] w1 _
    unfold startP
    by_cases h0 : p.off = 0
    · rw [if_pos h0]
      exact (start2_now w.heap.size g (j * 13) n w.heap.size p w1 hr hB1 hcell hbg (Ne.symm hbg) h0 hP).mono fun e w2 h => ⟨h.1, h.2.1, h.2.2, trivial⟩
    · rw [if_neg h0]
      exact (start2_later w.heap.size g (j * 13) n w.heap.size p w1 hr hB1 hcell hbg (Ne.symm hbg) h0 (tickB_true hm) hpo.off hP).mono fun e w2 h => ⟨h.1, h.2.1, h.2.2, trivial⟩
  · rintro e w' ⟨rfl, hT', hA, -, -, -⟩
    have HT' := Lib.hid hT'
    have HA := Lib.hid hA
    clear hT' hA
    go_wp2
    go_ret
    exact ⟨rfl, HT'.out, ((Apart.of_below ((Below.refl _ _).alloc (Nat.le_refl _) _) (Nat.le_refl _)).trans HA.out)⟩

set_option maxRecDepth 100000 in
set_option maxHeartbeats 400000 in
theorem wait_any (t g c : Nat) (ps : List Pr) (i n : Int) (w : World) (hT : Tab w t g c ps) (hok : ∀ p, p ∈ ps → p.Ok) :
    Calls Tryz.prog 75 #[.pointer (some ⟨t, 0, none⟩), .int .i64 i, .int .i64 n] w fun e w' => e = .returned (.int .i64 (act (waitF n) (decide (n ≤ 1099511627776)) ps i).2) ∧ Tab w' t g c (act (waitF n) (decide (n ≤ 1099511627776)) ps i).1 ∧ Apart w.heap.size w w' g := by
  have htl := hT.lt
  have HT := Lib.hid (hT.alloc (.cells #[.int .i64 n] 3))
  have hg0 : ps.length ≠ 0 → w.heap.size ≠ g := fun h => by have := hT.glt h; omega
  clear hT
  go_enter Tryz.func75, Tryz.ntmps75
  go_wp2_with fail
  refine Calls.mono (change_any t g c 121 122 ps i (decide (n ≤ 1099511627776)) (waitF n) (fun _ _ => True) #[] #[.pointer (some ⟨w.heap.size, 0, none⟩)] (w.alloc (.cells #[.int .i64 n] 3)) w.heap.size enters121 enters122 (by simp) htl HT.out ?_ ?_) ?_
  · intro hm p hp
    show Calls Tryz.prog 121 #[.agg p.cells] _ _
    unfold waitF
    rw [isSome_ite]
    exact free_any p _
  · intro hm j p p' hj hf w1 hb hP hr
    have hpo := hok p (List.mem_of_getElem? hj)
    have hjl : j < ps.length := (List.getElem?_eq_some_iff.1 hj).1
    have hbg := hg0 (by omega)
    have hcell : w1.cell? ⟨w.heap.size, 0, none⟩ = some (.int .i64 n) := (hb.cell (p := ⟨w.heap.size, 0, none⟩) (by simp)).trans (by simp)
    have hB1 : w.heap.size ≤ w1.heap.size := by have := hb.size; simp at this; omega
    unfold waitF at hf
    obtain ⟨_, rfl⟩ := some_ite hf
    show Calls Tryz.prog 122 #[.pointer (some ⟨g, j * 13, none⟩), .pointer (some ⟨w.heap.size, 0, none⟩)] w1 _
    exact (wait1 w.heap.size g (j * 13) n w.heap.size p w1 hr hB1 hcell hbg (Ne.symm hbg) hP).mono fun e w2 h => ⟨h.1, h.2.1, h.2.2, trivial⟩
  · rintro e w' ⟨rfl, hT', hA, -, -, -⟩
    have HT' := Lib.hid hT'
    have HA := Lib.hid hA
    clear hT' hA
    go_wp2
    go_ret
    exact ⟨rfl, HT'.out, ((Apart.of_below ((Below.refl _ _).alloc (Nat.le_refl _) _) (Nat.le_refl _)).trans HA.out)⟩

set_option maxRecDepth 100000 in
set_option maxHeartbeats 400000 in
theorem setp_any (t g c : Nat) (ps : List Pr) (i n : Int) (w : World) (hT : Tab w t g c ps) (hok : ∀ p, p ∈ ps → p.Ok) :
    Calls Tryz.prog 39 #[.pointer (some ⟨t, 0, none⟩), .int .i64 i, .int .i64 n] w fun e w' => e = .returned (.int .i64 (act (setpF n) (inB n 1 63) ps i).2) ∧ Tab w' t g c (act (setpF n) (inB n 1 63) ps i).1 ∧ Apart w.heap.size w w' g := by
  have htl := hT.lt
  have HT := Lib.hid (hT.alloc (.cells #[.int .i64 n] 3))
  have hg0 : ps.length ≠ 0 → w.heap.size ≠ g := fun h => by have := hT.glt h; omega
  clear hT
  go_enter Tryz.func39, Tryz.ntmps39
  go_wp2_with (go_at_call 81; refine (in_any _ _ _ _).mono ?_; rintro e w' ⟨rfl, rfl⟩)
  refine Calls.mono (change_any t g c 82 83 ps i (inB n 1 63) (setpF n) (fun _ _ => True) #[] #[.pointer (some ⟨w.heap.size, 0, none⟩)] (w.alloc (.cells #[.int .i64 n] 3)) w.heap.size enters82 enters83 (by simp) htl HT.out ?_ ?_) ?_
  · intro hm p hp
    show Calls Tryz.prog 82 #[.agg p.cells] _ _
    unfold setpF
    rw [isSome_ite]
    exact awake_any p _
  · intro hm j p p' hj hf w1 hb hP hr
    have hpo := hok p (List.mem_of_getElem? hj)
    have hjl : j < ps.length := (List.getElem?_eq_some_iff.1 hj).1
    have hbg := hg0 (by omega)
    have hcell : w1.cell? ⟨w.heap.size, 0, none⟩ = some (.int .i64 n) := (hb.cell (p := ⟨w.heap.size, 0, none⟩) (by simp)).trans (by simp)
    have hB1 : w.heap.size ≤ w1.heap.size := by have := hb.size; simp at this; omega
    unfold setpF at hf
    obtain ⟨_, rfl⟩ := some_ite hf
    show Calls Tryz.prog 83 #[.pointer (some ⟨g, j * 13, none⟩), .pointer (some ⟨w.heap.size, 0, none⟩)] w1 _
    exact (setp1 w.heap.size g (j * 13) n w.heap.size p w1 hr hB1 hcell hbg (Ne.symm hbg) hP).mono fun e w2 h => ⟨h.1, h.2.1, h.2.2, trivial⟩
  · rintro e w' ⟨rfl, hT', hA, -, -, -⟩
    have HT' := Lib.hid hT'
    have HA := Lib.hid hA
    clear hT' hA
    go_wp2
    go_ret
    exact ⟨rfl, HT'.out, ((Apart.of_below ((Below.refl _ _).alloc (Nat.le_refl _) _) (Nat.le_refl _)).trans HA.out)⟩

set_option maxRecDepth 100000 in
set_option maxHeartbeats 400000 in
theorem rais_any (t g c : Nat) (ps : List Pr) (i n : Int) (w : World) (hT : Tab w t g c ps) (hok : ∀ p, p ∈ ps → p.Ok) :
    Calls Tryz.prog 40 #[.pointer (some ⟨t, 0, none⟩), .int .i64 i, .int .i64 n] w fun e w' => e = .returned (.int .i64 (act (raisF n) (inB n 0 63) ps i).2) ∧ Tab w' t g c (act (raisF n) (inB n 0 63) ps i).1 ∧ Apart w.heap.size w w' g := by
  have htl := hT.lt
  have HT := Lib.hid (hT.alloc (.cells #[.int .i64 n] 3))
  have hg0 : ps.length ≠ 0 → w.heap.size ≠ g := fun h => by have := hT.glt h; omega
  clear hT
  go_enter Tryz.func40, Tryz.ntmps40
  go_wp2_with (go_at_call 81; refine (in_any _ _ _ _).mono ?_; rintro e w' ⟨rfl, rfl⟩)
  refine Calls.mono (change_any t g c 82 84 ps i (inB n 0 63) (raisF n) (fun _ _ => True) #[] #[.pointer (some ⟨w.heap.size, 0, none⟩)] (w.alloc (.cells #[.int .i64 n] 3)) w.heap.size enters82 enters84 (by simp) htl HT.out ?_ ?_) ?_
  · intro hm p hp
    show Calls Tryz.prog 82 #[.agg p.cells] _ _
    unfold raisF
    rw [isSome_ite]
    exact awake_any p _
  · intro hm j p p' hj hf w1 hb hP hr
    have hpo := hok p (List.mem_of_getElem? hj)
    have hjl : j < ps.length := (List.getElem?_eq_some_iff.1 hj).1
    have hbg := hg0 (by omega)
    have hcell : w1.cell? ⟨w.heap.size, 0, none⟩ = some (.int .i64 n) := (hb.cell (p := ⟨w.heap.size, 0, none⟩) (by simp)).trans (by simp)
    have hB1 : w.heap.size ≤ w1.heap.size := by have := hb.size; simp at this; omega
    unfold raisF at hf
    obtain ⟨_, rfl⟩ := some_ite hf
    show Calls Tryz.prog 84 #[.pointer (some ⟨g, j * 13, none⟩), .pointer (some ⟨w.heap.size, 0, none⟩)] w1 _
    exact (rais1 w.heap.size g (j * 13) n w.heap.size p w1 hr hB1 hcell hbg (Ne.symm hbg) hP).mono fun e w2 h => ⟨h.1, h.2.1, h.2.2, trivial⟩
  · rintro e w' ⟨rfl, hT', hA, -, -, -⟩
    have HT' := Lib.hid hT'
    have HA := Lib.hid hA
    clear hT' hA
    go_wp2
    go_ret
    exact ⟨rfl, HT'.out, ((Apart.of_below ((Below.refl _ _).alloc (Nat.le_refl _) _) (Nat.le_refl _)).trans HA.out)⟩

set_option maxRecDepth 100000 in
set_option maxHeartbeats 400000 in
theorem rele_any (t g c : Nat) (ps : List Pr) (i n : Int) (w : World) (hT : Tab w t g c ps) (hok : ∀ p, p ∈ ps → p.Ok) :
    Calls Tryz.prog 65 #[.pointer (some ⟨t, 0, none⟩), .int .i64 i, .int .i64 n] w fun e w' => e = .returned (.int .i64 (act (releF n) (tickB n) ps i).2) ∧ Tab w' t g c (act (releF n) (tickB n) ps i).1 ∧ Apart w.heap.size w w' g := by
  have htl := hT.lt
  have HT := Lib.hid (hT.alloc (.cells #[.int .i64 n] 3))
  have hg0 : ps.length ≠ 0 → w.heap.size ≠ g := fun h => by have := hT.glt h; omega
  clear hT
  go_enter Tryz.func65, Tryz.ntmps65
  go_wp2_with (go_at_call 87; refine (tick_any _ _).mono ?_; rintro e w' ⟨rfl, rfl⟩)
  refine Calls.mono (change_any t g c 104 105 ps i (tickB n) (releF n) (fun _ _ => True) #[.pointer (some ⟨w.heap.size, 0, none⟩)] #[] (w.alloc (.cells #[.int .i64 n] 3)) w.heap.size enters104 enters105 (by simp) htl HT.out ?_ ?_) ?_
  · intro hm p hp
    show Calls Tryz.prog 104 #[.agg p.cells, .pointer (some ⟨w.heap.size, 0, none⟩)] _ _
    unfold releF
    rw [isSome_ite]
    exact rele1_any p n w.heap.size _ (by simp) (by simp)
  · intro hm j p p' hj hf w1 hb hP hr
    have hpo := hok p (List.mem_of_getElem? hj)
    have hjl : j < ps.length := (List.getElem?_eq_some_iff.1 hj).1
    have hbg := hg0 (by omega)
    have hcell : w1.cell? ⟨w.heap.size, 0, none⟩ = some (.int .i64 n) := (hb.cell (p := ⟨w.heap.size, 0, none⟩) (by simp)).trans (by simp)
    have hB1 : w.heap.size ≤ w1.heap.size := by have := hb.size; simp at this; omega
    unfold releF at hf
    obtain ⟨_, rfl⟩ := some_ite hf
    show Calls Tryz.prog 105 #[.pointer (some ⟨g, j * 13, none⟩)] w1 _
    exact (rele2 w.heap.size g (j * 13) p w1 hr hB1 hP).mono fun e w2 h => ⟨h.1, h.2.1, h.2.2, trivial⟩
  · rintro e w' ⟨rfl, hT', hA, -, -, -⟩
    have HT' := Lib.hid hT'
    have HA := Lib.hid hA
    clear hT' hA
    go_wp2
    go_ret
    exact ⟨rfl, HT'.out, ((Apart.of_below ((Below.refl _ _).alloc (Nat.le_refl _) _) (Nat.le_refl _)).trans HA.out)⟩

end Go.Proofs.YtgnjenmicojgnaaGreat

namespace Go.Proofs.YtgnjenmicojgnaaGreat
set_option linter.unusedVariables false
set_option linter.unusedSimpArgs false
open Go.RowKit

theorem Apart.setCell {B : Nat} {w w' : World} {g : Nat} (h : Apart B w w' g) {a : Addr} (ha : B ≤ a.block) (v : Value) : Apart B w (w'.setCell a v) g :=
  ⟨h.os, h.tape, h.output, by simpa [World.setCell] using h.size, fun i hi hne => (Below.heap_setCell w' a v i (by omega)).trans (h.block i hi hne)⟩

theorem Row.new (w : World) (C : Array Value) (T : TypeId) : Row (w.alloc (.cells C T)) w.heap.size T := ⟨C, heap_alloc_new w _⟩

/-- To store what is there already turns nothing. -/
theorem setCell_same {w : World} {a : Addr} {v : Value} (h : w.cell? a = some v) : w.setCell a v = w := by
  have e : (w.setCell a v).heap = w.heap := by
    apply Array.ext_getElem?
    intro i
    simp only [World.setCell, Array.getElem?_modify]
    by_cases hi : a.block = i
    · subst hi
      rw [if_pos rfl]
      cases hb : w.heap[a.block]? with
      | none => rfl
      | some o =>
        simp only [World.cell?, hb] at h
        cases o <;> try rfl
        rename_i c elem frozen
        by_cases hs : a.spot.isSome = true
        · simp [hs]
        · simp only [hs] at h
          obtain ⟨hlt, hv⟩ := Array.getElem?_eq_some_iff.1 h
          simp [hs, Array.setIfInBounds, hlt, ← hv]
    · rw [if_neg hi]
  show { w with heap := (w.setCell a v).heap } = w
  rw [e]

/-- The number of the next release that Done tells. -/
def doneR (ps : List Pr) (i now : Int) : Int := if (act (doneF now) (tickB now) ps i).2 = 0 then ((ps[i.toNat]?).map doneN).getD 0 else 0

set_option maxRecDepth 100000 in
set_option maxHeartbeats 400000 in
theorem done_any (t g c : Nat) (ps : List Pr) (i n : Int) (w : World) (hT : Tab w t g c ps) (hok : ∀ p, p ∈ ps → p.Ok) :
    Calls Tryz.prog 76 #[.pointer (some ⟨t, 0, none⟩), .int .i64 i, .int .i64 n] w fun e w' => e = .returned (.tuple #[.int .i64 (doneR ps i n), .int .i64 (act (doneF n) (tickB n) ps i).2]) ∧ Tab w' t g c (act (doneF n) (tickB n) ps i).1 ∧ Apart w.heap.size w w' g := by
  have htl := hT.lt
  have HT := Lib.hid ((hT.alloc (.cells #[.int .i64 n] 3)).alloc (.cells #[.int .i64 0] 3))
  have hg0 : ps.length ≠ 0 → w.heap.size ≠ g ∧ w.heap.size + 1 ≠ g := fun h => by have := hT.glt h; omega
  clear hT
  go_enter Tryz.func76, Tryz.ntmps76
  go_wp2_with (go_at_call 87; refine (tick_any _ _).mono ?_; rintro e w' ⟨rfl, rfl⟩)
  refine Calls.mono (change_any t g c 121 123 ps i (tickB n) (doneF n) (fun p w' => w'.cell? ⟨w.heap.size + 1, 0, none⟩ = some (.int .i64 (doneN p))) #[] #[.pointer (some ⟨w.heap.size + 1, 0, none⟩), .pointer (some ⟨w.heap.size, 0, none⟩)] _ w.heap.size enters121 enters123 (by simp; omega) htl HT.out ?_ ?_) ?_
  · intro hm p hp
    show Calls Tryz.prog 121 #[.agg p.cells] _ _
    unfold doneF
    rw [isSome_ite]
    exact free_any p _
  · intro hm j p p' hj hf w1 hb hP hr
    have hpo := hok p (List.mem_of_getElem? hj)
    have hjl : j < ps.length := (List.getElem?_eq_some_iff.1 hj).1
    obtain ⟨hbg, hxg⟩ := hg0 (by omega)
    have hb0 : w1.cell? ⟨w.heap.size, 0, none⟩ = some (.int .i64 n) := (hb.cell (p := ⟨w.heap.size, 0, none⟩) (by simp; omega)).trans (by simp)
    have hx0 : w1.cell? ⟨w.heap.size + 1, 0, none⟩ = some (.int .i64 0) := (hb.cell (p := ⟨w.heap.size + 1, 0, none⟩) (by simp)).trans (by go_simp)
    have hf0 : w1.frozen? ⟨w.heap.size + 1, 0, none⟩ = false := (hb.frozen (p := ⟨w.heap.size + 1, 0, none⟩) (by simp)).trans (by go_simp)
    have hB1 : w.heap.size ≤ w1.heap.size := by have := hb.size; simp at this; omega
    unfold doneF at hf
    obtain ⟨hst, rfl⟩ := some_ite hf
    have ht := tickB_true hm
    show Calls Tryz.prog 123 #[.pointer (some ⟨g, j * 13, none⟩), .pointer (some ⟨w.heap.size + 1, 0, none⟩), .pointer (some ⟨w.heap.size, 0, none⟩)] w1 _
    unfold doneP doneN
    by_cases h0 : p.per = 0
    · rw [if_pos h0, if_pos h0]
      exact done1_once w.heap.size g (j * 13) n 0 (w.heap.size + 1) w.heap.size p w1 hr hB1 hb0 hbg (Ne.symm hbg) hx0 hf0 (by omega) hxg (Ne.symm hxg) (by omega) (by omega) h0 hP
    · rw [if_neg h0, if_neg h0]
      by_cases h1 : p.beg + p.per ≤ n
      · rw [if_pos h1]
        exact done1_late w.heap.size g (j * 13) n 0 (w.heap.size + 1) w.heap.size p w1 hr hB1 hb0 hbg (Ne.symm hbg) hx0 hf0 (by omega) hxg (Ne.symm hxg) (by omega) (by omega) h0 h1 ⟨hpo.beg.1, by have := hpo.beg.2; omega⟩ hpo.per hP
      · rw [if_neg h1]
        exact done1_rest w.heap.size g (j * 13) n 0 (w.heap.size + 1) w.heap.size p w1 hr hB1 hb0 hbg (Ne.symm hbg) hx0 hf0 (by omega) hxg (Ne.symm hxg) (by omega) (by omega) h0 (by omega) ⟨hpo.beg.1, by have := hpo.beg.2; omega⟩ hpo.per hP
  · rintro e w' ⟨rfl, hT', hA, hX, hE, hRow⟩
    have hx' : w'.cell? ⟨w.heap.size + 1, 0, none⟩ = some (.int .i64 (doneR ps i n)) := by
      unfold doneR
      by_cases h : (act (doneF n) (tickB n) ps i).2 = 0
      · obtain ⟨p, hp, hx⟩ := hX h
        rw [if_pos h, hp]
        exact hx
      · rw [if_neg h]
        exact ((hE h).cell (p := ⟨w.heap.size + 1, 0, none⟩) (by simp)).trans (by go_simp)
    have hrow := hRow (w.heap.size + 1) 3 (by have := Row.new (w.alloc (.cells #[.int .i64 n] 3)) #[.int .i64 0] 3; simpa using this)
    have hf' := hrow.fz 0
    have hlt' := hrow.lt
    have HA := Lib.hid hA
    have hA2 : Apart w.heap.size w w' g := (Apart.of_below (((Below.refl _ _).alloc (Nat.le_refl _) _).alloc (by simp) _) (Nat.le_refl _)).trans hA
    have hA3 : Apart w.heap.size w (w'.setCell ⟨w.heap.size + 1, 0, none⟩ (.int .i64 (doneR ps i n))) g := hA2.setCell (by simp) _
    have hT3 : Tab (w'.setCell ⟨w.heap.size + 1, 0, none⟩ (.int .i64 (doneR ps i n))) t g c (act (doneF n) (tickB n) ps i).1 := by
      rw [setCell_same hx']
      exact hT'
    have HT3 := Lib.hid hT3
    have HA3 := Lib.hid hA3
    clear hT' hA hX hE HA hA2 hA3 hT3 hRow
    go_wp2
    refine bodyPost_ret (v := .tuple #[.int .i64 (doneR ps i n), .int .i64 (act (doneF n) (tickB n) ps i).2]) (by simp [results, Tryz.results76, go_sem, hx']) rfl ?_
    exact ⟨rfl, HT3.out, HA3.out⟩

theorem ret_int {a b : Int} (h : a = b) : Ending.returned (.int .i64 a) = .returned (.int .i64 b) := by rw [h]

/-- Whether a charge goes beyond the capacity. -/
def overR (ps : List Pr) (i n : Int) : Bool := if (act (chargeF n) (tickB n) ps i).2 = 0 then ((ps[i.toNat]?).map (overN n)).getD false else false
/-- What Charge answers. -/
def chargeR (ps : List Pr) (i n : Int) : Int := if overR ps i n = true then 16 else (act (chargeF n) (tickB n) ps i).2

set_option maxRecDepth 100000 in
set_option maxHeartbeats 400000 in
theorem charge_any (t g c : Nat) (ps : List Pr) (i n : Int) (w : World) (hT : Tab w t g c ps) (hok : ∀ p, p ∈ ps → p.Ok) :
    Calls Tryz.prog 43 #[.pointer (some ⟨t, 0, none⟩), .int .i64 i, .int .i64 n] w fun e w' => e = .returned (.int .i64 (chargeR ps i n)) ∧ Tab w' t g c (act (chargeF n) (tickB n) ps i).1 ∧ Apart w.heap.size w w' g := by
  have htl := hT.lt
  have HT := Lib.hid ((hT.alloc (.cells #[.int .i64 n] 3)).alloc (.cells #[.bool false] 4))
  have hg0 : ps.length ≠ 0 → w.heap.size ≠ g ∧ w.heap.size + 1 ≠ g := fun h => by have := hT.glt h; omega
  clear hT
  go_enter Tryz.func43, Tryz.ntmps43
  go_wp2_with (go_at_call 87; refine (tick_any _ _).mono ?_; rintro e w' ⟨rfl, rfl⟩)
  refine Calls.mono (change_any t g c 88 89 ps i (tickB n) (chargeF n) (fun p w' => w'.cell? ⟨w.heap.size + 1, 0, none⟩ = some (.bool (overN n p))) #[] #[.pointer (some ⟨w.heap.size, 0, none⟩), .pointer (some ⟨w.heap.size + 1, 0, none⟩)] _ w.heap.size enters88 enters89 (by simp; omega) htl HT.out ?_ ?_) ?_
  · intro hm p hp
    show Calls Tryz.prog 88 #[.agg p.cells] _ _
    unfold chargeF
    rw [isSome_ite]
    exact busy_any p _
  · intro hm j p p' hj hf w1 hb hP hr
    have hpo := hok p (List.mem_of_getElem? hj)
    have hjl : j < ps.length := (List.getElem?_eq_some_iff.1 hj).1
    obtain ⟨hbg, hxg⟩ := hg0 (by omega)
    have hb0 : w1.cell? ⟨w.heap.size, 0, none⟩ = some (.int .i64 n) := (hb.cell (p := ⟨w.heap.size, 0, none⟩) (by simp; omega)).trans (by simp)
    have hx0 : w1.cell? ⟨w.heap.size + 1, 0, none⟩ = some (.bool false) := (hb.cell (p := ⟨w.heap.size + 1, 0, none⟩) (by simp)).trans (by go_simp)
    have hf0 : w1.frozen? ⟨w.heap.size + 1, 0, none⟩ = false := (hb.frozen (p := ⟨w.heap.size + 1, 0, none⟩) (by simp)).trans (by go_simp)
    have hB1 : w.heap.size ≤ w1.heap.size := by have := hb.size; simp at this; omega
    unfold chargeF at hf
    obtain ⟨hst, rfl⟩ := some_ite hf
    have ht := tickB_true hm
    show Calls Tryz.prog 89 #[.pointer (some ⟨g, j * 13, none⟩), .pointer (some ⟨w.heap.size, 0, none⟩), .pointer (some ⟨w.heap.size + 1, 0, none⟩)] w1 _
    unfold overN usedN
    by_cases h0 : 0 < p.cap
    · have e0 : decide (0 < p.cap) = true := by simpa using h0
      rw [e0, Bool.true_and]
      by_cases h1 : 1099511627776 < p.used + n
      · rw [if_pos h1]
        exact charge1_cap_out w.heap.size g (j * 13) n false w.heap.size (w.heap.size + 1) p w1 hr hB1 hb0 hbg (Ne.symm hbg) hx0 hf0 (by omega) hxg (Ne.symm hxg) (by omega) (by omega) ht hpo.used h0 h1 hP
      · rw [if_neg h1]
        exact charge1_cap_in w.heap.size g (j * 13) n false w.heap.size (w.heap.size + 1) p w1 hr hB1 hb0 hbg (Ne.symm hbg) hx0 hf0 (by omega) hxg (Ne.symm hxg) (by omega) (by omega) ht hpo.used h0 (by omega) hP
    · have e0 : decide (0 < p.cap) = false := by simpa using h0
      rw [e0, Bool.false_and]
      by_cases h1 : 1099511627776 < p.used + n
      · rw [if_pos h1]
        exact charge1_free_out w.heap.size g (j * 13) n false w.heap.size (w.heap.size + 1) p w1 hr hB1 hb0 hbg (Ne.symm hbg) hx0 hf0 (by omega) hxg (Ne.symm hxg) (by omega) (by omega) ht hpo.used h0 h1 hP
      · rw [if_neg h1]
        exact charge1_free_in w.heap.size g (j * 13) n false w.heap.size (w.heap.size + 1) p w1 hr hB1 hb0 hbg (Ne.symm hbg) hx0 hf0 (by omega) hxg (Ne.symm hxg) (by omega) (by omega) ht hpo.used h0 (by omega) hP
  · rintro e w' ⟨rfl, hT', hA, hX, hE, hRow⟩
    have hx' : w'.cell? ⟨w.heap.size + 1, 0, none⟩ = some (.bool (overR ps i n)) := by
      unfold overR
      by_cases h : (act (chargeF n) (tickB n) ps i).2 = 0
      · obtain ⟨p, hp, hx⟩ := hX h
        rw [if_pos h, hp]
        exact hx
      · rw [if_neg h]
        exact ((hE h).cell (p := ⟨w.heap.size + 1, 0, none⟩) (by simp)).trans (by go_simp)
    have hA2 : Apart w.heap.size w w' g := (Apart.of_below (((Below.refl _ _).alloc (Nat.le_refl _) _).alloc (by simp) _) (Nat.le_refl _)).trans hA
    have HT' := Lib.hid hT'
    have HA2 := Lib.hid hA2
    have HR : Hid (chargeR ps i n = if overR ps i n = true then 16 else (act (chargeF n) (tickB n) ps i).2) := rfl
    clear hT' hA hX hE hA2 hRow
    cases hov : overR ps i n with
    | true =>
      rw [hov] at hx' HR
      have HR2 : Hid (16 = chargeR ps i n) := by have := HR.out; rw [if_pos rfl] at this; exact this.symm
      clear hov HR
      go_wp2
      go_ret
      exact ⟨ret_int HR2.out, HT'.out, HA2.out⟩
    | false =>
      rw [hov] at hx' HR
      have HR2 : Hid ((act (chargeF n) (tickB n) ps i).2 = chargeR ps i n) := by have := HR.out; rw [if_neg (by decide)] at this; exact this.symm
      clear hov HR
      go_wp2
      go_ret
      exact ⟨ret_int HR2.out, HT'.out, HA2.out⟩

end Go.Proofs.YtgnjenmicojgnaaGreat

namespace Go.Proofs.YtgnjenmicojgnaaGreat
set_option linter.unusedVariables false
set_option linter.unusedSimpArgs false
open Go.RowKit

def zeroP : Pr := ⟨0, 0, 0, 0, 0, 0, false, 0, 0, 0, 0, 0, false⟩
def lookP (ps : List Pr) (i : Int) : Pr := if i < 0 then zeroP else (ps[i.toNat]?).getD zeroP

theorem slc_form (g c : Nat) (ps : List Pr) : ∃ a cc, slc g c ps = .slice a ps.length cc := by
  unfold slc
  split
  · rename_i h; rw [h]; exact ⟨_, _, rfl⟩
  · exact ⟨_, _, rfl⟩

set_option maxRecDepth 100000 in
set_option maxHeartbeats 400000 in
theorem none_any (w : World) :
    Calls Tryz.prog 96 #[] w fun e w' => e = .returned (.agg #[.int .i64 0, .int .i64 0, .int .i64 0, .int .i64 0, .int .i64 0, .int .i64 0, .bool false, .int .i64 0, .int .i64 0, .int .i64 0, .int .i64 0, .int .i64 0, .bool false]) ∧ (w.alloc (.cells #[.int .i64 0, .int .i64 0, .int .i64 0, .int .i64 0, .int .i64 0, .int .i64 0, .bool false, .int .i64 0, .int .i64 0, .int .i64 0, .int .i64 0, .int .i64 0, .bool false] 82)).alloc (.cells #[.int .i64 0, .int .i64 0, .int .i64 0, .int .i64 0, .int .i64 0, .int .i64 0, .bool false, .int .i64 0, .int .i64 0, .int .i64 0, .int .i64 0, .int .i64 0, .bool false] 82) = w' := by
  go_enter Tryz.func96, Tryz.ntmps96
  go_wp2
  refine bodyPost_ret (v := .agg zeroP.cells) (by simp [results, Tryz.results96, go_sem, zeroP, Pr.cells]) rfl ?_
  exact ⟨rfl, rfl⟩

set_option maxRecDepth 100000 in
set_option maxHeartbeats 400000 in
theorem look_any (t g c : Nat) (ps : List Pr) (i : Int) (w : World) (hT : Tab w t g c ps) :
    Calls Tryz.prog 49 #[.pointer (some ⟨t, 0, none⟩), .int .i64 i] w fun e w' => e = .returned (.agg (lookP ps i).cells) ∧ Below w.heap.size w w' := by
  have hl := hT.len
  have htl := hT.lt
  have hcell := hT.cell
  obtain ⟨a, cc, hv⟩ := slc_form g c ps
  by_cases h0 : i < 0
  · unfold lookP
    rw [if_pos h0]
    clear hT hcell hv
    go_enter Tryz.func49, Tryz.ntmps49
    go_wp2_with (go_at_call 96; refine (none_any _).mono ?_; rintro e w' ⟨rfl, rfl⟩)
    refine bodyPost_ret (v := .agg zeroP.cells) (by simp [results, Tryz.results49, go_sem, zeroP, Pr.cells]) rfl ?_
    exact ⟨rfl, by repeat first | with_reducible exact Below.refl _ _ | (with_reducible refine Below.alloc ?_ (by simp; try omega) _) | (with_reducible refine Below.setCell ?_ (by simp; try omega) _)⟩
  · obtain ⟨k, rfl⟩ := Int.eq_ofNat_of_zero_le (by omega : 0 ≤ i)
    unfold lookP
    rw [if_neg h0, Int.toNat_natCast]
    by_cases hk : k < ps.length
    · have hpk : ps[k]? = some ps[k] := List.getElem?_eq_getElem hk
      obtain ⟨hr, hc⟩ := hT.rows (by omega)
      have hs : slc g c ps = .slice (some ⟨g, 0, none⟩) ps.length c := by unfold slc; rw [if_neg (by omega)]
      have hP := hc k _ hpk
      rw [hpk, Option.getD_some]
      rw [hs] at hcell
      have hlg := hr.lt
      generalize ps[k] = p at *
      generalize ps.length = n at *
      clear hT hc hs hv hpk
      obtain ⟨c0, c1, c2, c3, c4, c5, c6, c7, c8, c9, c10, c11, c12⟩ := hP
      go_enter Tryz.func49, Tryz.ntmps49
      go_wp2_with (go_at_call 14; refine (len_any t (some ⟨g, 0, none⟩) n c _ ?_).mono ?_; go_simp; rintro e w' ⟨rfl, rfl⟩)
      refine bodyPost_ret (v := .agg p.cells) (by simp [results, Tryz.results49, go_sem, Pr.cells]) rfl ?_
      exact ⟨rfl, by repeat first | with_reducible exact Below.refl _ _ | (with_reducible refine Below.alloc ?_ (by simp; try omega) _) | (with_reducible refine Below.setCell ?_ (by simp; try omega) _)⟩
    · have hpk : ps[k]? = none := List.getElem?_eq_none (by omega)
      rw [hpk, Option.getD_none]
      rw [hv] at hcell
      have hk' : ps.length ≤ k := by omega
      generalize ps.length = n at *
      clear hT hv hpk hk
      go_enter Tryz.func49, Tryz.ntmps49
      go_wp2_with (first | (go_at_call 14; refine (len_any t a n cc _ ?_).mono ?_; go_simp; rintro e w' ⟨rfl, rfl⟩) | (go_at_call 96; refine (none_any _).mono ?_; rintro e w' ⟨rfl, rfl⟩))
      refine bodyPost_ret (v := .agg zeroP.cells) (by simp [results, Tryz.results49, go_sem, zeroP, Pr.cells]) rfl ?_
      exact ⟨rfl, by repeat first | with_reducible exact Below.refl _ _ | (with_reducible refine Below.alloc ?_ (by simp; try omega) _) | (with_reducible refine Below.setCell ?_ (by simp; try omega) _)⟩

end Go.Proofs.YtgnjenmicojgnaaGreat

namespace Go.Proofs.YtgnjenmicojgnaaGreat
set_option linter.unusedVariables false
set_option linter.unusedSimpArgs false
open Go.RowKit

theorem look_lit (t g c : Nat) (ps : List Pr) (i : Int) (w : World) (hT : Tab w t g c ps) :
    Calls Tryz.prog 49 #[.pointer (some ⟨t, 0, none⟩), .int .i64 i] w fun e w' => e = .returned (.agg #[.int .i64 (lookP ps i).pri, .int .i64 (lookP ps i).per, .int .i64 (lookP ps i).cap, .int .i64 (lookP ps i).dl, .int .i64 (lookP ps i).off, .int .i64 (lookP ps i).st, .bool (lookP ps i).held, .int .i64 (lookP ps i).base, .int .i64 (lookP ps i).raised, .int .i64 (lookP ps i).til, .int .i64 (lookP ps i).beg, .int .i64 (lookP ps i).used, .bool (lookP ps i).missed]) ∧ Below w.heap.size w w' := look_any t g c ps i w hT

def stateR (p : Pr) : Int := if p.held = true then 4 else p.st
def untilR (p : Pr) : Int := if p.st = 3 ∨ (p.st = 2 ∧ p.til ≠ -1) then p.til else 0
def untilB (p : Pr) : Bool := decide (p.st = 3 ∨ (p.st = 2 ∧ p.til ≠ -1))
def baseR (p : Pr) : Int := if p.st = 0 then p.pri else p.base
def curR (p : Pr) : Int := max (baseR p) p.raised
def leftR (ps : List Pr) (i : Int) : Int := if i < 0 then 0 else match ps[i.toNat]? with | none => 0 | some p => if p.cap = 0 then -1 else max (p.cap - p.used) 0

theorem ret_int_bool {a b : Int} {x y : Bool} (h : a = b) (k : x = y) : Ending.returned (.tuple #[.int .i64 a, .bool x]) = .returned (.tuple #[.int .i64 b, .bool y]) := by rw [h, k]

set_option maxRecDepth 100000 in
set_option maxHeartbeats 400000 in
theorem state_any (t g c : Nat) (ps : List Pr) (i : Int) (w : World) (hT : Tab w t g c ps) :
    Calls Tryz.prog 13 #[.pointer (some ⟨t, 0, none⟩), .int .i64 i] w fun e w' => e = .returned (.int .i64 (stateR (lookP ps i))) ∧ Below w.heap.size w w' := by
  have HT := Lib.hid hT
  clear hT
  have hcs : (lookP ps i).held = true ∨ (lookP ps i).held = false := by cases (lookP ps i).held <;> simp
  rcases hcs with h | h
  all_goals
    go_enter Tryz.func13, Tryz.ntmps13
    go_wp2_with (go_at_call 49; refine (look_lit t g c ps i _ HT.out).mono ?_; rintro e w' ⟨rfl, hb⟩)
    go_ret
    exact ⟨ret_int (by simp [stateR, h]), by repeat first | with_reducible exact Below.refl _ _ | with_reducible assumption | with_reducible refine Below.drew ?_ | (with_reducible refine Below.alloc ?_ (by have := hb.size; simp at this ⊢; omega) _) | (with_reducible refine Below.setCell ?_ (by have := hb.size; simp at this ⊢; omega) _)⟩

set_option maxRecDepth 100000 in
set_option maxHeartbeats 400000 in
theorem until_any (t g c : Nat) (ps : List Pr) (i : Int) (w : World) (hT : Tab w t g c ps) :
    Calls Tryz.prog 92 #[.pointer (some ⟨t, 0, none⟩), .int .i64 i] w fun e w' => e = .returned (.tuple #[.int .i64 (untilR (lookP ps i)), .bool (untilB (lookP ps i))]) ∧ Below w.heap.size w w' := by
  have HT := Lib.hid hT
  clear hT
  have hcs : (lookP ps i).st = 3 ∨ ((lookP ps i).st = 2 ∧ ((lookP ps i).st == 3) = false ∧ ((lookP ps i).til != -1) = true) ∨ ((lookP ps i).st = 2 ∧ ((lookP ps i).st == 3) = false ∧ ((lookP ps i).til != -1) = false) ∨ (((lookP ps i).st == 3) = false ∧ ((lookP ps i).st == 2) = false) := by by_cases h1 : (lookP ps i).st = 3 <;> by_cases h2 : (lookP ps i).st = 2 <;> by_cases h3 : (lookP ps i).til = -1 <;> simp [h1, h2, h3]
  rcases hcs with h | ⟨h, h1, h2⟩ | ⟨h, h1, h2⟩ | ⟨h, h1⟩
  all_goals
    go_enter Tryz.func92, Tryz.ntmps92
    go_wp2_with (go_at_call 49; refine (look_lit t g c ps i _ HT.out).mono ?_; rintro e w' ⟨rfl, hb⟩)
    go_ret2
    exact ⟨ret_int_bool (by simp_all [untilR]) (by simp_all [untilB]), by repeat first | with_reducible exact Below.refl _ _ | with_reducible assumption | with_reducible refine Below.drew ?_ | (with_reducible refine Below.alloc ?_ (by have := hb.size; simp at this ⊢; omega) _) | (with_reducible refine Below.setCell ?_ (by have := hb.size; simp at this ⊢; omega) _)⟩

theorem field86_2 (a b c d e f h i j k : Int) (x y : Bool) (z : Int) (w : World) : (Instr.field 82 (.agg #[.int .i64 a, .int .i64 b, .int .i64 c, .int .i64 d, .int .i64 e, .int .i64 f, .bool x, .int .i64 h, .int .i64 i, .int .i64 j, .int .i64 k, .int .i64 z, .bool y]) 2).run Tryz.prog w = .ok (.agg #[.bool x, .int .i64 h, .int .i64 i, .int .i64 j]) w := by kernel_rfl
theorem field86_0 (a b c d e f h i j k : Int) (x y : Bool) (z : Int) (w : World) : (Instr.field 82 (.agg #[.int .i64 a, .int .i64 b, .int .i64 c, .int .i64 d, .int .i64 e, .int .i64 f, .bool x, .int .i64 h, .int .i64 i, .int .i64 j, .int .i64 k, .int .i64 z, .bool y]) 0).run Tryz.prog w = .ok (.agg #[.int .i64 a, .int .i64 b, .int .i64 c, .int .i64 d, .int .i64 e]) w := by kernel_rfl
theorem field82_2 (h i j : Int) (x : Bool) (w : World) : (Instr.field 78 (.agg #[.bool x, .int .i64 h, .int .i64 i, .int .i64 j]) 2).run Tryz.prog w = .ok (.int .i64 i) w := by kernel_rfl

theorem bcell {W w1 : World} (hb : Below W.heap.size W w1) : (∀ b o, b < W.heap.size → w1.cell? ⟨b, o, none⟩ = W.cell? ⟨b, o, none⟩) ∧ (∀ b o, b < W.heap.size → w1.frozen? ⟨b, o, none⟩ = W.frozen? ⟨b, o, none⟩) :=
  ⟨fun b o h => hb.cell (p := ⟨b, o, none⟩) h, fun b o h => hb.frozen (p := ⟨b, o, none⟩) h⟩

set_option maxRecDepth 100000 in
set_option maxHeartbeats 400000 in
theorem base_any (t g c : Nat) (ps : List Pr) (i : Int) (w : World) (hT : Tab w t g c ps) :
    Calls Tryz.prog 50 #[.pointer (some ⟨t, 0, none⟩), .int .i64 i] w fun e w' => e = .returned (.int .i64 (baseR (lookP ps i))) ∧ Below w.heap.size w w' := by
  have HT := Lib.hid hT
  clear hT
  have hcs : ((lookP ps i).st != 0) = true ∨ ((lookP ps i).st != 0) = false := by cases (lookP ps i).st != 0 <;> simp
  rcases hcs with h | h
  all_goals
    go_enter Tryz.func50, Tryz.ntmps50
    go_wp2_with (go_at_call 49; refine (look_lit t g c ps i _ HT.out).mono ?_; rintro e w' ⟨rfl, hb⟩)
    refine (awake_any (lookP ps i) _).mono ?_
    rintro e w2 ⟨rfl, hb2⟩
    obtain ⟨hc2, hf2⟩ := bcell hb2
    go_wp2
    go_ret
    refine ⟨ret_int (by simp_all [baseR]), ?_⟩
    refine Below.trans (b := _) ?_ (hb2.mono ?_)
    · repeat first | with_reducible exact Below.refl _ _ | with_reducible assumption | with_reducible refine Below.drew ?_ | (with_reducible refine Below.alloc ?_ (by have := hb.size; simp at this ⊢; omega) _) | (with_reducible refine Below.setCell ?_ (by have := hb.size; simp at this ⊢; omega) _)
    · have := hb.size; simp; omega

set_option maxRecDepth 100000 in
set_option maxHeartbeats 400000 in
theorem cur_any (t g c : Nat) (ps : List Pr) (i : Int) (w : World) (hT : Tab w t g c ps) :
    Calls Tryz.prog 15 #[.pointer (some ⟨t, 0, none⟩), .int .i64 i] w fun e w' => e = .returned (.int .i64 (curR (lookP ps i))) ∧ Below w.heap.size w w' := by
  have HT := Lib.hid hT
  clear hT
  go_enter Tryz.func15, Tryz.ntmps15
  go_wp2_with fail
  refine (base_any t g c ps i _ HT.out).mono ?_
  rintro e w1 ⟨rfl, hb1⟩
  have HT1 := Lib.hid (HT.out.below hb1)
  go_wp2_with fail
  refine (look_lit t g c ps i _ HT1.out).mono ?_
  rintro e w2 ⟨rfl, hb2⟩
  have hf1 := field86_2
  have hf2 := field82_2
  go_wp2
  all_goals
    go_ret
    exact ⟨ret_int (by unfold curR; omega), hb1.trans (hb2.mono hb1.size)⟩

end Go.Proofs.YtgnjenmicojgnaaGreat
