/-
  What may answers of whatever is asked for.
-/
import Derived.Test.YtgnjenmicojgnaaA9
import Derived.Handy
namespace Go.Proofs.Ytgnjenmicojgnaa
set_option linter.unusedVariables false
set_option linter.unusedSimpArgs false
open Go.RowKit

def mayB (pri per cap dl off : Int) : Bool := inB per 0 1048576 && (inB cap 0 1048576 && (inB dl 0 1048576 && (inB off 0 1048576 && inB pri 1 63)))

set_option maxRecDepth 100000 in
set_option maxHeartbeats 1000000 in
theorem may_any (pri per cap dl off : Int) (w : World) :
    Calls Try.prog 46 #[.agg #[.int .i64 pri, .int .i64 per, .int .i64 cap, .int .i64 dl, .int .i64 off]] w fun e w' => e = .returned (.bool (mayB pri per cap dl off)) ∧ Below w.heap.size w w' := by
  unfold mayB
  have hcs : inB per 0 1048576 = false ∨ (inB per 0 1048576 = true ∧ inB cap 0 1048576 = false) ∨ (inB per 0 1048576 = true ∧ inB cap 0 1048576 = true ∧ inB dl 0 1048576 = false) ∨ (inB per 0 1048576 = true ∧ inB cap 0 1048576 = true ∧ inB dl 0 1048576 = true ∧ inB off 0 1048576 = false) ∨ (inB per 0 1048576 = true ∧ inB cap 0 1048576 = true ∧ inB dl 0 1048576 = true ∧ inB off 0 1048576 = true) := by
    cases inB per 0 1048576 <;> cases inB cap 0 1048576 <;> cases inB dl 0 1048576 <;> cases inB off 0 1048576 <;> simp
  rcases hcs with h1 | ⟨h1, h2⟩ | ⟨h1, h2, h3⟩ | ⟨h1, h2, h3, h4⟩ | ⟨h1, h2, h3, h4⟩
  all_goals
    go_enter Try.func46, Try.ntmps46
    go_wp2_with fail
    refine wp_loop_rounds 5 ?_
    repeat (rw [rounds_succ]; go_wp2_with (go_at_call 86; refine (in_any _ _ _ _).mono ?_; rintro e w' ⟨rfl, rfl⟩))
    go_ret
    exact ⟨ret_bool (by simp [*]), by repeat first | with_reducible exact Below.refl _ _ | (with_reducible refine Below.alloc ?_ (by simp) _)⟩

end Go.Proofs.Ytgnjenmicojgnaa
