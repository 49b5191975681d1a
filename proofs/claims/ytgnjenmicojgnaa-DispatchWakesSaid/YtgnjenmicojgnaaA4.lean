/-
  What change does, for whatever functions it is handed, under its tests.
-/
import Derived.Test.YtgnjenmicojgnaaA3
namespace Go.Proofs.Ytgnjenmicojgnaa
set_option linter.unusedVariables false
set_option linter.unusedSimpArgs false
open Go.RowKit

set_option maxHeartbeats 400000 in
theorem len_any (t : Nat) (a : Option Addr) (n c : Nat) (w : World) (hT : w.cell? ⟨t, 0, none⟩ = some (.slice a n c)) :
    Calls Try.prog 62 #[.pointer (some ⟨t, 0, none⟩)] w fun e w' => e = .returned (.int .i64 n) ∧ w = w' := by
  go_enter Try.func62, Try.ntmps62
  go_wp2
  go_ret
  exact ⟨rfl, rfl⟩

/-- A call through a function value of function k enters function k. -/
def Enters (k : Nat) : Prop := ∀ (a : Array Value) (w : World), (callFunc k a).run Try.prog w = .ok (.enter k a) w

theorem enters49 : Enters 49 := fun _ _ => by kernel_rfl
theorem enters50 : Enters 50 := fun _ _ => by kernel_rfl
theorem enters51 : Enters 51 := fun _ _ => by kernel_rfl

set_option maxRecDepth 100000 in
set_option maxHeartbeats 400000 in
theorem change_do (t g n c i ks kd : Nat) (capS capD : Array Value) (p : Pr) (w : World) (Q : World → World → Prop) (eS : Enters ks) (eD : Enters kd)
    (hT : w.cell? ⟨t, 0, none⟩ = some (.slice (some ⟨g, 0, none⟩) n c)) (hn : n < 1000) (hi : i < n) (hp : PrAt w g (i * 13) p) (hr : Row w g 86) (ht : t < w.heap.size)
    (hS : Calls Try.prog ks (#[.agg p.cells] ++ capS) w fun e w2 => e = .returned (.bool true) ∧ Below w.heap.size w w2)
    (hD : ∀ w1, Below w.heap.size w w1 → Calls Try.prog kd (#[.pointer (some ⟨g, i * 13, none⟩)] ++ capD) w1 fun e w2 => e = .returned (.tuple #[]) ∧ Q w1 w2) :
    Calls Try.prog 47 #[.pointer (some ⟨t, 0, none⟩), .int .i64 i, .bool true, .func (.func ks) #[] capS, .func (.func kd) #[] capD] w fun e w' => e = .returned (.int .i64 0) ∧ ∃ w1, Below w.heap.size w w1 ∧ Q w1 w' := by
  have HS := Lib.hid hS
  have HD := Lib.hid hD
  clear hS hD
  unfold Enters at eS eD
  obtain ⟨c0, c1, c2, c3, c4, c5, c6, c7, c8, c9, c10, c11, c12⟩ := hp
  have hfz := hr.fz
  have hlt := hr.lt
  go_enter Try.func47, Try.ntmps47
  go_wp2_with (go_at_call 62; refine (len_any t (some ⟨g, 0, none⟩) n c _ ?_).mono ?_; exact hT; rintro e w' ⟨rfl, rfl⟩)
  refine Calls.mono HS.out ?_
  rintro e w1 ⟨rfl, hb⟩
  have hT1 : w1.cell? ⟨t, 0, none⟩ = some (.slice (some ⟨g, 0, none⟩) n c) := (hb.cell (p := ⟨t, 0, none⟩) ht).trans hT
  go_wp2
  refine Calls.mono (HD.out w1 hb) ?_
  rintro e w2 ⟨rfl, hq⟩
  have HQ := Lib.hid hq
  clear hq
  go_wp2
  go_ret
  exact ⟨rfl, w1, hb, HQ.out⟩

set_option maxRecDepth 100000 in
set_option maxHeartbeats 400000 in
theorem change_state (t g n c i ks kd : Nat) (capS capD : Array Value) (p : Pr) (w : World) (eS : Enters ks)
    (hT : w.cell? ⟨t, 0, none⟩ = some (.slice (some ⟨g, 0, none⟩) n c)) (hn : n < 1000) (hi : i < n) (hp : PrAt w g (i * 13) p)
    (hS : Calls Try.prog ks (#[.agg p.cells] ++ capS) w fun e w2 => e = .returned (.bool false) ∧ Below w.heap.size w w2) :
    Calls Try.prog 47 #[.pointer (some ⟨t, 0, none⟩), .int .i64 i, .bool true, .func (.func ks) #[] capS, .func (.func kd) #[] capD] w fun e w' => e = .returned (.int .i64 10) ∧ Below w.heap.size w w' := by
  have HS := Lib.hid hS
  clear hS
  unfold Enters at eS
  obtain ⟨c0, c1, c2, c3, c4, c5, c6, c7, c8, c9, c10, c11, c12⟩ := hp
  go_enter Try.func47, Try.ntmps47
  go_wp2_with (go_at_call 62; refine (len_any t (some ⟨g, 0, none⟩) n c _ ?_).mono ?_; exact hT; rintro e w' ⟨rfl, rfl⟩)
  refine Calls.mono HS.out ?_
  rintro e w1 ⟨rfl, hb⟩
  go_wp2
  go_ret
  exact ⟨rfl, hb⟩

set_option maxRecDepth 100000 in
set_option maxHeartbeats 400000 in
theorem change_range (t n c i : Nat) (a : Option Addr) (x y : Value) (w : World)
    (hT : w.cell? ⟨t, 0, none⟩ = some (.slice a n c)) (hn : n < 1000) (hi : i < n) :
    Calls Try.prog 47 #[.pointer (some ⟨t, 0, none⟩), .int .i64 i, .bool false, x, y] w fun e w' => e = .returned (.int .i64 2) ∧ w = w' := by
  go_enter Try.func47, Try.ntmps47
  go_wp2_with (go_at_call 62; refine (len_any t a n c _ ?_).mono ?_; exact hT; rintro e w' ⟨rfl, rfl⟩)
  go_ret
  exact ⟨rfl, rfl⟩

set_option maxRecDepth 100000 in
set_option maxHeartbeats 400000 in
theorem change_none (t n c : Nat) (i : Int) (a : Option Addr) (may x y : Value) (w : World)
    (hT : w.cell? ⟨t, 0, none⟩ = some (.slice a n c)) (hn : n < 1000) (hi : i < 0 ∨ (n : Int) ≤ i) :
    Calls Try.prog 47 #[.pointer (some ⟨t, 0, none⟩), .int .i64 i, may, x, y] w fun e w' => e = .returned (.int .i64 9) ∧ w = w' := by
  by_cases h0 : i < 0
  · go_enter Try.func47, Try.ntmps47
    go_wp2
    go_ret
    exact ⟨rfl, rfl⟩
  · obtain ⟨k, rfl⟩ := Int.eq_ofNat_of_zero_le (by omega : 0 ≤ i)
    have hk : n ≤ k := by omega
    clear hi h0
    go_enter Try.func47, Try.ntmps47
    go_wp2_with (go_at_call 62; refine (len_any t a n c _ ?_).mono ?_; exact hT; rintro e w' ⟨rfl, rfl⟩)
    go_ret
    exact ⟨rfl, rfl⟩

end Go.Proofs.Ytgnjenmicojgnaa
