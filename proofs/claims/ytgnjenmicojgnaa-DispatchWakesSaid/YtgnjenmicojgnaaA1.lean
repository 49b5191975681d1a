/-
  What the small functions of package proc that write one process do to its cells, under their tests.
-/
import Derived.Test.YtgnjenmicojgnaaA0
import Derived.StillTailTactics
import Derived.IntWalk
import Derived.RegionTactic
import Derived.BigRegion
import Derived.Deep.QuietTactic
import Derived.BigQuiet
import Derived.Deep.RegionWith
namespace Go.Proofs.Ytgnjenmicojgnaa
set_option linter.unusedVariables false
set_option linter.unusedSimpArgs false
open Go.RowKit

set_option maxRecDepth 100000 in
set_option maxHeartbeats 400000 in
theorem at_any (B g o : Nat) (now : Int) (p : Pr) (w : World) (hr : Row w g 86) (hB : B ≤ w.heap.size) (hp : PrAt w g o p) :
    Calls Try.prog 52 #[.pointer (some ⟨g, o, none⟩), .int .i64 now] w fun e w' => e = .returned (.tuple #[]) ∧ Near B w w' g o ∧ PrAt w' g o { p with st := 1, beg := now, used := 0, missed := false } := by
  obtain ⟨c0, c1, c2, c3, c4, c5, c6, c7, c8, c9, c10, c11, c12⟩ := hp
  have hfz := hr.fz
  have hlt := hr.lt
  go_enter Try.func52, Try.ntmps52
  go_wp2
  go_end0
  refine ⟨rfl, ?_, ?_⟩
  · repeat first | with_reducible exact Near.refl _ _ hlt | with_reducible refine Near.drew ?_ | with_reducible refine Near.drewN ?_ _ | with_reducible refine Near.set ?_ _ (by omega) _ | with_reducible refine Near.far ?_ (by assumption) (by assumption) _ | with_reducible refine Near.alloc ?_ hB _
  · constructor <;> simp [*, World.cell?_setCell_same', World.cell?_setCell_other]

set_option maxRecDepth 100000 in
set_option maxHeartbeats 400000 in
theorem rest_any (B g o : Nat) (til : Int) (p : Pr) (w : World) (hr : Row w g 86) (hB : B ≤ w.heap.size) (hp : PrAt w g o p) :
    Calls Try.prog 53 #[.pointer (some ⟨g, o, none⟩), .int .i64 til] w fun e w' => e = .returned (.tuple #[]) ∧ Near B w w' g o ∧ PrAt w' g o { p with st := 3, til := til, beg := 0, used := 0, missed := false } := by
  obtain ⟨c0, c1, c2, c3, c4, c5, c6, c7, c8, c9, c10, c11, c12⟩ := hp
  have hfz := hr.fz
  have hlt := hr.lt
  go_enter Try.func53, Try.ntmps53
  go_wp2
  go_end0
  refine ⟨rfl, ?_, ?_⟩
  · repeat first | with_reducible exact Near.refl _ _ hlt | with_reducible refine Near.drew ?_ | with_reducible refine Near.drewN ?_ _ | with_reducible refine Near.set ?_ _ (by omega) _ | with_reducible refine Near.far ?_ (by assumption) (by assumption) _ | with_reducible refine Near.alloc ?_ hB _
  · constructor <;> simp [*, World.cell?_setCell_same', World.cell?_setCell_other]

set_option maxRecDepth 100000 in
set_option maxHeartbeats 400000 in
theorem sleep_any (B g o : Nat) (p : Pr) (w : World) (hr : Row w g 86) (hB : B ≤ w.heap.size) (hp : PrAt w g o p) :
    Calls Try.prog 59 #[.pointer (some ⟨g, o, none⟩)] w fun e w' => e = .returned (.tuple #[]) ∧ Near B w w' g o ∧ PrAt w' g o { p with st := 0, held := false, base := 0, raised := 0, til := 0, beg := 0, used := 0, missed := false } := by
  obtain ⟨c0, c1, c2, c3, c4, c5, c6, c7, c8, c9, c10, c11, c12⟩ := hp
  have hfz := hr.fz
  have hlt := hr.lt
  go_enter Try.func59, Try.ntmps59
  go_wp2
  go_end0
  refine ⟨rfl, ?_, ?_⟩
  · repeat first | with_reducible exact Near.refl _ _ hlt | with_reducible refine Near.drew ?_ | with_reducible refine Near.drewN ?_ _ | with_reducible refine Near.set ?_ _ (by omega) _ | with_reducible refine Near.far ?_ (by assumption) (by assumption) _ | with_reducible refine Near.alloc ?_ hB _
  · constructor <;> simp [*, World.cell?_setCell_same', World.cell?_setCell_other]

set_option maxRecDepth 100000 in
set_option maxHeartbeats 400000 in
theorem susp2 (B g o : Nat) (p : Pr) (w : World) (hr : Row w g 86) (hB : B ≤ w.heap.size) (hp : PrAt w g o p) :
    Calls Try.prog 83 #[.pointer (some ⟨g, o, none⟩)] w fun e w' => e = .returned (.tuple #[]) ∧ Near B w w' g o ∧ PrAt w' g o { p with held := true } := by
  obtain ⟨c0, c1, c2, c3, c4, c5, c6, c7, c8, c9, c10, c11, c12⟩ := hp
  have hfz := hr.fz
  have hlt := hr.lt
  go_enter Try.func83, Try.ntmps83
  go_wp2
  go_end0
  refine ⟨rfl, ?_, ?_⟩
  · repeat first | with_reducible exact Near.refl _ _ hlt | with_reducible refine Near.drew ?_ | with_reducible refine Near.drewN ?_ _ | with_reducible refine Near.set ?_ _ (by omega) _ | with_reducible refine Near.far ?_ (by assumption) (by assumption) _ | with_reducible refine Near.alloc ?_ hB _
  · constructor <;> simp [*, World.cell?_setCell_same', World.cell?_setCell_other]

set_option maxRecDepth 100000 in
set_option maxHeartbeats 400000 in
theorem resu2 (B g o : Nat) (p : Pr) (w : World) (hr : Row w g 86) (hB : B ≤ w.heap.size) (hp : PrAt w g o p) :
    Calls Try.prog 91 #[.pointer (some ⟨g, o, none⟩)] w fun e w' => e = .returned (.tuple #[]) ∧ Near B w w' g o ∧ PrAt w' g o { p with held := false } := by
  obtain ⟨c0, c1, c2, c3, c4, c5, c6, c7, c8, c9, c10, c11, c12⟩ := hp
  have hfz := hr.fz
  have hlt := hr.lt
  go_enter Try.func91, Try.ntmps91
  go_wp2
  go_end0
  refine ⟨rfl, ?_, ?_⟩
  · repeat first | with_reducible exact Near.refl _ _ hlt | with_reducible refine Near.drew ?_ | with_reducible refine Near.drewN ?_ _ | with_reducible refine Near.set ?_ _ (by omega) _ | with_reducible refine Near.far ?_ (by assumption) (by assumption) _ | with_reducible refine Near.alloc ?_ hB _
  · constructor <;> simp [*, World.cell?_setCell_same', World.cell?_setCell_other]

set_option maxRecDepth 100000 in
set_option maxHeartbeats 400000 in
theorem wake2 (B g o : Nat) (p : Pr) (w : World) (hr : Row w g 86) (hB : B ≤ w.heap.size) (hp : PrAt w g o p) :
    Calls Try.prog 85 #[.pointer (some ⟨g, o, none⟩)] w fun e w' => e = .returned (.tuple #[]) ∧ Near B w w' g o ∧ PrAt w' g o { p with st := 1 } := by
  obtain ⟨c0, c1, c2, c3, c4, c5, c6, c7, c8, c9, c10, c11, c12⟩ := hp
  have hfz := hr.fz
  have hlt := hr.lt
  go_enter Try.func85, Try.ntmps85
  go_wp2
  go_end0
  refine ⟨rfl, ?_, ?_⟩
  · repeat first | with_reducible exact Near.refl _ _ hlt | with_reducible refine Near.drew ?_ | with_reducible refine Near.drewN ?_ _ | with_reducible refine Near.set ?_ _ (by omega) _ | with_reducible refine Near.far ?_ (by assumption) (by assumption) _ | with_reducible refine Near.alloc ?_ hB _
  · constructor <;> simp [*, World.cell?_setCell_same', World.cell?_setCell_other]

set_option maxRecDepth 100000 in
set_option maxHeartbeats 400000 in
theorem rele2 (B g o : Nat) (p : Pr) (w : World) (hr : Row w g 86) (hB : B ≤ w.heap.size) (hp : PrAt w g o p) :
    Calls Try.prog 56 #[.pointer (some ⟨g, o, none⟩)] w fun e w' => e = .returned (.tuple #[]) ∧ Near B w w' g o ∧ PrAt w' g o { p with st := 1, beg := p.til, used := 0, missed := false } := by
  obtain ⟨c0, c1, c2, c3, c4, c5, c6, c7, c8, c9, c10, c11, c12⟩ := hp
  have hfz := hr.fz
  have hlt := hr.lt
  go_enter Try.func56, Try.ntmps56
  go_wp2
  go_end0
  go_wp2
  go_end0
  refine ⟨rfl, ?_, ?_⟩
  · repeat first | with_reducible exact Near.refl _ _ hlt | with_reducible refine Near.drew ?_ | with_reducible refine Near.drewN ?_ _ | with_reducible refine Near.set ?_ _ (by omega) _ | with_reducible refine Near.far ?_ (by assumption) (by assumption) _ | with_reducible refine Near.alloc ?_ hB _
  · constructor <;> simp [*, World.cell?_setCell_same', World.cell?_setCell_other]

set_option maxRecDepth 100000 in
set_option maxHeartbeats 400000 in
theorem setp1 (B g o : Nat) (n : Int) (b : Nat) (p : Pr) (w : World) (hr : Row w g 86) (hB : B ≤ w.heap.size) (hb : w.cell? ⟨b, 0, none⟩ = some (.int .i64 n)) (hbg : b ≠ g) (hgb : g ≠ b) (hp : PrAt w g o p) :
    Calls Try.prog 87 #[.pointer (some ⟨g, o, none⟩), .pointer (some ⟨b, 0, none⟩)] w fun e w' => e = .returned (.tuple #[]) ∧ Near B w w' g o ∧ PrAt w' g o { p with base := n } := by
  obtain ⟨c0, c1, c2, c3, c4, c5, c6, c7, c8, c9, c10, c11, c12⟩ := hp
  have hfz := hr.fz
  have hlt := hr.lt
  go_enter Try.func87, Try.ntmps87
  go_wp2
  go_end0
  refine ⟨rfl, ?_, ?_⟩
  · repeat first | with_reducible exact Near.refl _ _ hlt | with_reducible refine Near.drew ?_ | with_reducible refine Near.drewN ?_ _ | with_reducible refine Near.set ?_ _ (by omega) _ | with_reducible refine Near.far ?_ (by assumption) (by assumption) _ | with_reducible refine Near.alloc ?_ hB _
  · constructor <;> simp [*, World.cell?_setCell_same', World.cell?_setCell_other]

set_option maxRecDepth 100000 in
set_option maxHeartbeats 400000 in
theorem rais1 (B g o : Nat) (n : Int) (b : Nat) (p : Pr) (w : World) (hr : Row w g 86) (hB : B ≤ w.heap.size) (hb : w.cell? ⟨b, 0, none⟩ = some (.int .i64 n)) (hbg : b ≠ g) (hgb : g ≠ b) (hp : PrAt w g o p) :
    Calls Try.prog 88 #[.pointer (some ⟨g, o, none⟩), .pointer (some ⟨b, 0, none⟩)] w fun e w' => e = .returned (.tuple #[]) ∧ Near B w w' g o ∧ PrAt w' g o { p with raised := n } := by
  obtain ⟨c0, c1, c2, c3, c4, c5, c6, c7, c8, c9, c10, c11, c12⟩ := hp
  have hfz := hr.fz
  have hlt := hr.lt
  go_enter Try.func88, Try.ntmps88
  go_wp2
  go_end0
  refine ⟨rfl, ?_, ?_⟩
  · repeat first | with_reducible exact Near.refl _ _ hlt | with_reducible refine Near.drew ?_ | with_reducible refine Near.drewN ?_ _ | with_reducible refine Near.set ?_ _ (by omega) _ | with_reducible refine Near.far ?_ (by assumption) (by assumption) _ | with_reducible refine Near.alloc ?_ hB _
  · constructor <;> simp [*, World.cell?_setCell_same', World.cell?_setCell_other]

set_option maxRecDepth 100000 in
set_option maxHeartbeats 400000 in
theorem start2_now (B g o : Nat) (now : Int) (b : Nat) (p : Pr) (w : World) (hr : Row w g 86) (hB : B ≤ w.heap.size) (hb : w.cell? ⟨b, 0, none⟩ = some (.int .i64 now)) (hbg : b ≠ g) (hgb : g ≠ b) (h0 : p.off = 0) (hp : PrAt w g o p) :
    Calls Try.prog 51 #[.pointer (some ⟨g, o, none⟩), .pointer (some ⟨b, 0, none⟩)] w fun e w' => e = .returned (.tuple #[]) ∧ Near B w w' g o ∧ PrAt w' g o { p with st := 1, held := false, base := p.pri, raised := 0, til := 0, beg := now, used := 0, missed := false } := by
  obtain ⟨c0, c1, c2, c3, c4, c5, c6, c7, c8, c9, c10, c11, c12⟩ := hp
  have hfz := hr.fz
  have hlt := hr.lt
  rw [h0] at c4
  go_enter Try.func51, Try.ntmps51
  go_wp2
  go_end0
  go_wp2
  go_end0
  refine ⟨rfl, ?_, ?_⟩
  · repeat first | with_reducible exact Near.refl _ _ hlt | with_reducible refine Near.drew ?_ | with_reducible refine Near.drewN ?_ _ | with_reducible refine Near.set ?_ _ (by omega) _ | with_reducible refine Near.far ?_ (by assumption) (by assumption) _ | with_reducible refine Near.alloc ?_ hB _
  · constructor <;> simp [*, World.cell?_setCell_same', World.cell?_setCell_other]

set_option maxRecDepth 100000 in
set_option maxHeartbeats 400000 in
theorem start2_later (B g o : Nat) (now : Int) (b : Nat) (p : Pr) (w : World) (hr : Row w g 86) (hB : B ≤ w.heap.size) (hb : w.cell? ⟨b, 0, none⟩ = some (.int .i64 now)) (hbg : b ≠ g) (hgb : g ≠ b) (h0 : p.off ≠ 0) (hn : 0 ≤ now ∧ now ≤ 1099511627776) (ho : 0 ≤ p.off ∧ p.off ≤ 1048576) (hp : PrAt w g o p) :
    Calls Try.prog 51 #[.pointer (some ⟨g, o, none⟩), .pointer (some ⟨b, 0, none⟩)] w fun e w' => e = .returned (.tuple #[]) ∧ Near B w w' g o ∧ PrAt w' g o { p with st := 3, held := false, base := p.pri, raised := 0, til := now + p.off, beg := 0, used := 0, missed := false } := by
  obtain ⟨c0, c1, c2, c3, c4, c5, c6, c7, c8, c9, c10, c11, c12⟩ := hp
  have hfz := hr.fz
  have hlt := hr.lt
  obtain ⟨hn1, hn2⟩ := hn
  obtain ⟨ho1, ho2⟩ := ho
  have h0b : (p.off == 0) = false := by simpa using h0
  go_enter Try.func51, Try.ntmps51
  go_wp2
  have k1 : Near B w ((((w.setCell ⟨g, o + 6, none⟩ (.bool false)).setCell ⟨g, o + 6 + 1, none⟩ (.int .i64 p.pri)).setCell ⟨g, o + 6 + 2, none⟩ (.int .i64 0)).setCell ⟨g, o + 6 + 3, none⟩ (.int .i64 0)) g o := by repeat first | with_reducible exact Near.refl _ _ hlt | with_reducible refine Near.drew ?_ | with_reducible refine Near.drewN ?_ _ | with_reducible refine Near.set ?_ _ (by omega) _ | with_reducible refine Near.far ?_ (by assumption) (by assumption) _ | with_reducible refine Near.alloc ?_ hB _
  have k2 : PrAt ((((w.setCell ⟨g, o + 6, none⟩ (.bool false)).setCell ⟨g, o + 6 + 1, none⟩ (.int .i64 p.pri)).setCell ⟨g, o + 6 + 2, none⟩ (.int .i64 0)).setCell ⟨g, o + 6 + 3, none⟩ (.int .i64 0)) g o { p with held := false, base := p.pri, raised := 0, til := 0 } := by constructor <;> simp [*, World.cell?_setCell_same', World.cell?_setCell_other]
  have k3 : ((((w.setCell ⟨g, o + 6, none⟩ (.bool false)).setCell ⟨g, o + 6 + 1, none⟩ (.int .i64 p.pri)).setCell ⟨g, o + 6 + 2, none⟩ (.int .i64 0)).setCell ⟨g, o + 6 + 3, none⟩ (.int .i64 0)).cell? ⟨b, 0, none⟩ = some (.int .i64 now) := by simp [*, World.cell?_setCell_other]
  clear c0 c1 c2 c3 c4 c5 c6 c7 c8 c9 c10 c11 c12 hb hfz
  generalize ((((w.setCell ⟨g, o + 6, none⟩ (.bool false)).setCell ⟨g, o + 6 + 1, none⟩ (.int .i64 p.pri)).setCell ⟨g, o + 6 + 2, none⟩ (.int .i64 0)).setCell ⟨g, o + 6 + 3, none⟩ (.int .i64 0)) = w1 at *
  obtain ⟨c0, c1, c2, c3, c4, c5, c6, c7, c8, c9, c10, c11, c12⟩ := k2
  dsimp only at c0 c1 c2 c3 c4 c5 c6 c7 c8 c9 c10 c11 c12
  have hfz := (k1.row _ _ hr).fz
  have hl1 : g < w1.heap.size := (k1.row _ _ hr).lt
  go_still_tail 8, (by kernel_rfl)
  change wpList _ _ _ _ _ w1.drew
  go_wp2
  go_end0
  go_wp2
  go_end0
  refine ⟨rfl, ?_, ?_⟩
  · refine Near.trans k1 ?_
    repeat first | with_reducible exact Near.refl _ _ hl1 | with_reducible refine Near.drew ?_ | with_reducible refine Near.drewN ?_ _ | with_reducible refine Near.set ?_ _ (by omega) _ | with_reducible refine Near.far ?_ (by assumption) (by assumption) _ | with_reducible refine Near.alloc ?_ hB _
  · constructor <;> simp [*, World.cell?_setCell_same', World.cell?_setCell_other]

end Go.Proofs.Ytgnjenmicojgnaa
