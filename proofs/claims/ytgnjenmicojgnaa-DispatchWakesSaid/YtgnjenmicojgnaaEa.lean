/-
  A process of the document as cells.
-/
import Derived.Test.YtgnjenmicojgnaaD0
import Derived.Test.YtgnjenmicojgnaaE0
namespace Go.Proofs.Ytgnjenmicojgnaa
set_option linter.unusedVariables false
set_option linter.unusedSimpArgs false
open Go.RowKit

theorem info101 : (Try.prog.info? 101).map (fun i => (i.zero, i.size, i.bytes)) = some (some (.agg #[.int .i64 0, .int .i64 0, .int .i64 0, .int .i64 0, .int .i64 0, .int .i64 0, .bool false, .int .i64 0, .int .i64 0, .int .i64 0, .bool false, .int .i64 0, .int .i64 0]), 13, 104) := by kernel_rfl

def rfC (r : Rf) : List Value := r.cells.toList
theorem rfC_length (r : Rf) : (rfC r).length = 13 := rfl
def rfOf (a : At) : Rf := ⟨a.pri, a.per, a.cap, a.dl, a.off, 0, false, 0, 0, 0, false, a.pri, 0⟩

end Go.Proofs.Ytgnjenmicojgnaa
