/-
  What the functions that ask about one process answer. No condition.
-/
import Derived.Test.YtgnjenmicojgnaaA2
namespace Go.Proofs.Ytgnjenmicojgnaa
set_option linter.unusedVariables false
set_option linter.unusedSimpArgs false
open Go.RowKit

theorem ret_bool {a b : Bool} (h : a = b) : Ending.returned (.bool a) = .returned (.bool b) := by rw [h]

set_option maxRecDepth 100000 in
set_option maxHeartbeats 400000 in
theorem awake_any (p : Pr) (w : World) :
    Calls Try.prog 50 #[.agg p.cells] w fun e w' => e = .returned (.bool (p.st != 0)) ∧ Below w.heap.size w w' := by
  unfold Pr.cells
  go_enter Try.func50, Try.ntmps50
  go_wp2
  go_ret
  exact ⟨ret_bool (by simp [*]), by repeat first | with_reducible exact Below.refl _ _ | with_reducible refine Below.drew ?_ | (with_reducible refine Below.alloc ?_ (by simp; try omega) _)⟩

set_option maxRecDepth 100000 in
set_option maxHeartbeats 400000 in
theorem start1_any (p : Pr) (w : World) :
    Calls Try.prog 49 #[.agg p.cells] w fun e w' => e = .returned (.bool (!(p.st != 0))) ∧ Below w.heap.size w w' := by
  unfold Pr.cells
  go_enter Try.func49, Try.ntmps49
  go_wp2
  go_ret
  exact ⟨ret_bool (by simp [*]), by repeat first | with_reducible exact Below.refl _ _ | with_reducible refine Below.drew ?_ | (with_reducible refine Below.alloc ?_ (by simp; try omega) _)⟩

set_option maxRecDepth 100000 in
set_option maxHeartbeats 400000 in
theorem wake1_any (p : Pr) (w : World) :
    Calls Try.prog 84 #[.agg p.cells] w fun e w' => e = .returned (.bool (p.st == 2)) ∧ Below w.heap.size w w' := by
  unfold Pr.cells
  go_enter Try.func84, Try.ntmps84
  go_wp2
  go_ret
  exact ⟨ret_bool (by simp [*]), by repeat first | with_reducible exact Below.refl _ _ | with_reducible refine Below.drew ?_ | (with_reducible refine Below.alloc ?_ (by simp; try omega) _)⟩

set_option maxRecDepth 100000 in
set_option maxHeartbeats 400000 in
theorem free_any (p : Pr) (w : World) :
    Calls Try.prog 57 #[.agg p.cells] w fun e w' => e = .returned (.bool (p.st == 1 && !p.held)) ∧ Below w.heap.size w w' := by
  unfold Pr.cells
  by_cases h0 : p.st = 1
  · have h1 : (p.st == 1) = true := by simpa using h0
    go_enter Try.func57, Try.ntmps57
    go_wp2
    go_ret
    exact ⟨ret_bool (by simp [*]), by repeat first | with_reducible exact Below.refl _ _ | with_reducible refine Below.drew ?_ | (with_reducible refine Below.alloc ?_ (by simp; try omega) _)⟩
  · have h1 : (p.st == 1) = false := by simpa using h0
    go_enter Try.func57, Try.ntmps57
    go_wp2
    go_ret
    exact ⟨ret_bool (by simp [*]), by repeat first | with_reducible exact Below.refl _ _ | with_reducible refine Below.drew ?_ | (with_reducible refine Below.alloc ?_ (by simp; try omega) _)⟩

set_option maxRecDepth 100000 in
set_option maxHeartbeats 400000 in
theorem busy_any (p : Pr) (w : World) :
    Calls Try.prog 60 #[.agg p.cells] w fun e w' => e = .returned (.bool (p.st == 1 || p.st == 2)) ∧ Below w.heap.size w w' := by
  unfold Pr.cells
  by_cases h0 : p.st = 1
  · have h1 : (p.st == 1) = true := by simpa using h0
    go_enter Try.func60, Try.ntmps60
    go_wp2
    go_ret
    exact ⟨ret_bool (by simp [*]), by repeat first | with_reducible exact Below.refl _ _ | with_reducible refine Below.drew ?_ | (with_reducible refine Below.alloc ?_ (by simp; try omega) _)⟩
  · have h1 : (p.st == 1) = false := by simpa using h0
    go_enter Try.func60, Try.ntmps60
    go_wp2
    go_ret
    exact ⟨ret_bool (by simp [*]), by repeat first | with_reducible exact Below.refl _ _ | with_reducible refine Below.drew ?_ | (with_reducible refine Below.alloc ?_ (by simp; try omega) _)⟩

set_option maxRecDepth 100000 in
set_option maxHeartbeats 400000 in
theorem susp1_any (p : Pr) (w : World) :
    Calls Try.prog 82 #[.agg p.cells] w fun e w' => e = .returned (.bool (p.st != 0 && !p.held)) ∧ Below w.heap.size w w' := by
  unfold Pr.cells
  by_cases h0 : p.st = 0
  · have h1 : (p.st != 0) = false := by simpa using h0
    go_enter Try.func82, Try.ntmps82
    go_wp2
    go_ret
    exact ⟨ret_bool (by simp [*]), by repeat first | with_reducible exact Below.refl _ _ | with_reducible refine Below.drew ?_ | (with_reducible refine Below.alloc ?_ (by simp; try omega) _)⟩
  · have h1 : (p.st != 0) = true := by simpa using h0
    go_enter Try.func82, Try.ntmps82
    go_wp2
    go_ret
    exact ⟨ret_bool (by simp [*]), by repeat first | with_reducible exact Below.refl _ _ | with_reducible refine Below.drew ?_ | (with_reducible refine Below.alloc ?_ (by simp; try omega) _)⟩

set_option maxRecDepth 100000 in
set_option maxHeartbeats 400000 in
theorem resu1_any (p : Pr) (w : World) :
    Calls Try.prog 90 #[.agg p.cells] w fun e w' => e = .returned (.bool (p.st != 0 && p.held)) ∧ Below w.heap.size w w' := by
  unfold Pr.cells
  by_cases h0 : p.st = 0
  · have h1 : (p.st != 0) = false := by simpa using h0
    go_enter Try.func90, Try.ntmps90
    go_wp2
    go_ret
    exact ⟨ret_bool (by simp [*]), by repeat first | with_reducible exact Below.refl _ _ | with_reducible refine Below.drew ?_ | (with_reducible refine Below.alloc ?_ (by simp; try omega) _)⟩
  · have h1 : (p.st != 0) = true := by simpa using h0
    go_enter Try.func90, Try.ntmps90
    go_wp2
    go_ret
    exact ⟨ret_bool (by simp [*]), by repeat first | with_reducible exact Below.refl _ _ | with_reducible refine Below.drew ?_ | (with_reducible refine Below.alloc ?_ (by simp; try omega) _)⟩

set_option maxRecDepth 100000 in
set_option maxHeartbeats 400000 in
theorem rele1_any (p : Pr) (now : Int) (b : Nat) (w : World) (hb : w.cell? ⟨b, 0, none⟩ = some (.int .i64 now)) (hlt : b < w.heap.size) :
    Calls Try.prog 55 #[.agg p.cells, .pointer (some ⟨b, 0, none⟩)] w fun e w' => e = .returned (.bool (p.st == 3 && decide (p.til ≤ now))) ∧ Below w.heap.size w w' := by
  unfold Pr.cells
  by_cases h0 : p.st = 3
  · have h1 : (p.st == 3) = true := by simpa using h0
    go_enter Try.func55, Try.ntmps55
    go_wp2
    go_ret
    exact ⟨ret_bool (by simp [*]), by repeat first | with_reducible exact Below.refl _ _ | with_reducible refine Below.drew ?_ | (with_reducible refine Below.alloc ?_ (by simp; try omega) _)⟩
  · have h1 : (p.st == 3) = false := by simpa using h0
    go_enter Try.func55, Try.ntmps55
    go_wp2
    go_ret
    exact ⟨ret_bool (by simp [*]), by repeat first | with_reducible exact Below.refl _ _ | with_reducible refine Below.drew ?_ | (with_reducible refine Below.alloc ?_ (by simp; try omega) _)⟩

end Go.Proofs.Ytgnjenmicojgnaa
