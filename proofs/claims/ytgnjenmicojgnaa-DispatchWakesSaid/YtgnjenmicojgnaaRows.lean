/-
  No cell of these rows narrows 'for every input' (looked for: loops, veiled, ifaces, maps, wideKeys, modest, calm, conditions, laid).
  DERIVED. THE GIVEN ROWS OF THIS SEAT. 8 by the template 'for every input the law returns true; each argument reads behind the call as it read before'; 0 by the template 'total and deterministic' (their statements: YtgnjenmicojgnaaTotals.lean).
  GIVEN WITH THE SEED: the statements are not yours to turn. If you find one false, say at which input.
  Laid BY PROGRAM, IN A SANDBOX (cutbox-rows.mjs): the forced cells as the released guide's own fill.sh prints them over the translation b7371ee794e1c852… (all of the seat's roots in one cut). By AI agents, Wed Nov 11 2026. No macro, syntax, notation, axiom, sorry.
-/
import Derived.Test.YtgnjenmicojgnaaChecked
import GoSem.Claim
import GoSem.ClaimJoined
import GoSem.ClaimMapViews
import Derived.JoinedTies
import Derived.KernelRfl
namespace Go.Proofs.Ytgnjenmicojgnaa
/- THE CELL 'sum', in the pinned program and in every row, IS THE sha256 OF THE DUMP (.gsa) THAT YtgnjenmicojgnaaProg.lean LOADS. Nothing in Lean hashes anything: it is a label: what it is worth is what the hold of that sum in a sandbox is worth. -/
noncomputable def Try.pinned : Pinned := { name := "ytgnjenmicojgnaa", sum := "b7371ee794e1c85248de1238a26ddec51addf573d27515015242d15ab2068f2f", checked := Try.checked }
namespace Rows
def none {H : Type} : Left H := { results := [], args := [] }

/-- 'monocoquelaw19.ProcGrid': WHATEVER THE INPUT: true; the input reads as it did. -/
def procGridSpec : ChangeSpec := { name := "procGrid", fn := fun _ => fun
  | [d1, d2, d3] => { results := [.lit (.bool true)], args := [d1, d2, d3] }
  | _ => none }
def procGridRow : OpenClaim := { program := "ytgnjenmicojgnaa", sum := "b7371ee794e1c85248de1238a26ddec51addf573d27515015242d15ab2068f2f", func := "monocoque/monocoquelaw19.ProcGrid", spec := "procGrid", unfollowed := true, recurses := true, apart := false }
def ProcGridSaid : Prop := procGridRow.holds Try.pinned (OpenSpec.ofChange procGridSpec)

/-- ITS FALSE NEIGHBOUR: 'it returns false'. Refute it at one input. -/
def procGridWrong : ChangeSpec := { name := "procGrid", fn := fun _ => fun
  | [d1, d2, d3] => { results := [.lit (.bool false)], args := [d1, d2, d3] }
  | _ => none }
def ProcGridWrongFalsely : Prop := procGridRow.holds Try.pinned (OpenSpec.ofChange procGridWrong)

/-- 'monocoquelaw19.ProcUses': WHATEVER THE INPUT: true; the input reads as it did. -/
def procUsesSpec : ChangeSpec := { name := "procUses", fn := fun _ => fun
  | [d1, d2] => { results := [.lit (.bool true)], args := [d1, d2] }
  | _ => none }
def procUsesRow : OpenClaim := { program := "ytgnjenmicojgnaa", sum := "b7371ee794e1c85248de1238a26ddec51addf573d27515015242d15ab2068f2f", func := "monocoque/monocoquelaw19.ProcUses", spec := "procUses", unfollowed := true, recurses := true, apart := false }
def ProcUsesSaid : Prop := procUsesRow.holds Try.pinned (OpenSpec.ofChange procUsesSpec)

/-- ITS FALSE NEIGHBOUR: 'it returns false'. Refute it at one input. -/
def procUsesWrong : ChangeSpec := { name := "procUses", fn := fun _ => fun
  | [d1, d2] => { results := [.lit (.bool false)], args := [d1, d2] }
  | _ => none }
def ProcUsesWrongFalsely : Prop := procUsesRow.holds Try.pinned (OpenSpec.ofChange procUsesWrong)

/-- 'monocoquelaw19.ProcOnce': WHATEVER THE INPUT: true; the input reads as it did. -/
def procOnceSpec : ChangeSpec := { name := "procOnce", fn := fun _ => fun
  | [d1, d2, d3, d4] => { results := [.lit (.bool true)], args := [d1, d2, d3, d4] }
  | _ => none }
def procOnceRow : OpenClaim := { program := "ytgnjenmicojgnaa", sum := "b7371ee794e1c85248de1238a26ddec51addf573d27515015242d15ab2068f2f", func := "monocoque/monocoquelaw19.ProcOnce", spec := "procOnce", unfollowed := true, recurses := true, apart := false }
def ProcOnceSaid : Prop := procOnceRow.holds Try.pinned (OpenSpec.ofChange procOnceSpec)

/-- ITS FALSE NEIGHBOUR: 'it returns false'. Refute it at one input. -/
def procOnceWrong : ChangeSpec := { name := "procOnce", fn := fun _ => fun
  | [d1, d2, d3, d4] => { results := [.lit (.bool false)], args := [d1, d2, d3, d4] }
  | _ => none }
def ProcOnceWrongFalsely : Prop := procOnceRow.holds Try.pinned (OpenSpec.ofChange procOnceWrong)

/-- 'monocoquelaw19.ProcSame': WHATEVER THE INPUT: true; the input reads as it did. -/
def procSameSpec : ChangeSpec := { name := "procSame", fn := fun _ => fun
  | [d1, d2, d3] => { results := [.lit (.bool true)], args := [d1, d2, d3] }
  | _ => none }
def procSameRow : OpenClaim := { program := "ytgnjenmicojgnaa", sum := "b7371ee794e1c85248de1238a26ddec51addf573d27515015242d15ab2068f2f", func := "monocoque/monocoquelaw19.ProcSame", spec := "procSame", unfollowed := true, recurses := true, apart := false }
def ProcSameSaid : Prop := procSameRow.holds Try.pinned (OpenSpec.ofChange procSameSpec)

/-- ITS FALSE NEIGHBOUR: 'it returns false'. Refute it at one input. -/
def procSameWrong : ChangeSpec := { name := "procSame", fn := fun _ => fun
  | [d1, d2, d3] => { results := [.lit (.bool false)], args := [d1, d2, d3] }
  | _ => none }
def ProcSameWrongFalsely : Prop := procSameRow.holds Try.pinned (OpenSpec.ofChange procSameWrong)

/-- 'monocoquelaw19.ProcHolds': WHATEVER THE INPUT: true; the input reads as it did. -/
def procHoldsSpec : ChangeSpec := { name := "procHolds", fn := fun _ => fun
  | [d1, d2, d3] => { results := [.lit (.bool true)], args := [d1, d2, d3] }
  | _ => none }
def procHoldsRow : OpenClaim := { program := "ytgnjenmicojgnaa", sum := "b7371ee794e1c85248de1238a26ddec51addf573d27515015242d15ab2068f2f", func := "monocoque/monocoquelaw19.ProcHolds", spec := "procHolds", unfollowed := true, recurses := true, apart := false }
def ProcHoldsSaid : Prop := procHoldsRow.holds Try.pinned (OpenSpec.ofChange procHoldsSpec)

/-- ITS FALSE NEIGHBOUR: 'it returns false'. Refute it at one input. -/
def procHoldsWrong : ChangeSpec := { name := "procHolds", fn := fun _ => fun
  | [d1, d2, d3] => { results := [.lit (.bool false)], args := [d1, d2, d3] }
  | _ => none }
def ProcHoldsWrongFalsely : Prop := procHoldsRow.holds Try.pinned (OpenSpec.ofChange procHoldsWrong)

/-- 'monocoquelaw19.ProcPlays': WHATEVER THE INPUT: true; the input reads as it did. -/
def procPlaysSpec : ChangeSpec := { name := "procPlays", fn := fun _ => fun
  | [d1, d2] => { results := [.lit (.bool true)], args := [d1, d2] }
  | _ => none }
def procPlaysRow : OpenClaim := { program := "ytgnjenmicojgnaa", sum := "b7371ee794e1c85248de1238a26ddec51addf573d27515015242d15ab2068f2f", func := "monocoque/monocoquelaw19.ProcPlays", spec := "procPlays", unfollowed := true, recurses := true, apart := false }
def ProcPlaysSaid : Prop := procPlaysRow.holds Try.pinned (OpenSpec.ofChange procPlaysSpec)

/-- ITS FALSE NEIGHBOUR: 'it returns false'. Refute it at one input. -/
def procPlaysWrong : ChangeSpec := { name := "procPlays", fn := fun _ => fun
  | [d1, d2] => { results := [.lit (.bool false)], args := [d1, d2] }
  | _ => none }
def ProcPlaysWrongFalsely : Prop := procPlaysRow.holds Try.pinned (OpenSpec.ofChange procPlaysWrong)

/-- 'monocoquelaw20.DispatchTurns': WHATEVER THE INPUT: true; the input reads as it did. -/
def dispatchTurnsSpec : ChangeSpec := { name := "dispatchTurns", fn := fun _ => fun
  | [d1, d2] => { results := [.lit (.bool true)], args := [d1, d2] }
  | _ => none }
def dispatchTurnsRow : OpenClaim := { program := "ytgnjenmicojgnaa", sum := "b7371ee794e1c85248de1238a26ddec51addf573d27515015242d15ab2068f2f", func := "monocoque/monocoquelaw20.DispatchTurns", spec := "dispatchTurns", inPlace := ["slices.overlaps[monocoque/delta.timer]", "slices.overlaps[int]"], unfollowed := true, recurses := true, apart := false }
def DispatchTurnsSaid : Prop := dispatchTurnsRow.holds Try.pinned (OpenSpec.ofChange dispatchTurnsSpec)

/-- ITS FALSE NEIGHBOUR: 'it returns false'. Refute it at one input. -/
def dispatchTurnsWrong : ChangeSpec := { name := "dispatchTurns", fn := fun _ => fun
  | [d1, d2] => { results := [.lit (.bool false)], args := [d1, d2] }
  | _ => none }
def DispatchTurnsWrongFalsely : Prop := dispatchTurnsRow.holds Try.pinned (OpenSpec.ofChange dispatchTurnsWrong)

/-- 'monocoquelaw20.DispatchWakes': WHATEVER THE INPUT: true; the input reads as it did. -/
def dispatchWakesSpec : ChangeSpec := { name := "dispatchWakes", fn := fun _ => fun
  | [d1, d2] => { results := [.lit (.bool true)], args := [d1, d2] }
  | _ => none }
def dispatchWakesRow : OpenClaim := { program := "ytgnjenmicojgnaa", sum := "b7371ee794e1c85248de1238a26ddec51addf573d27515015242d15ab2068f2f", func := "monocoque/monocoquelaw20.DispatchWakes", spec := "dispatchWakes", inPlace := ["slices.overlaps[monocoque/delta.timer]", "slices.overlaps[int]"], unfollowed := true, recurses := true, apart := false }
def DispatchWakesSaid : Prop := dispatchWakesRow.holds Try.pinned (OpenSpec.ofChange dispatchWakesSpec)

/-- ITS FALSE NEIGHBOUR: 'it returns false'. Refute it at one input. -/
def dispatchWakesWrong : ChangeSpec := { name := "dispatchWakes", fn := fun _ => fun
  | [d1, d2] => { results := [.lit (.bool false)], args := [d1, d2] }
  | _ => none }
def DispatchWakesWrongFalsely : Prop := dispatchWakesRow.holds Try.pinned (OpenSpec.ofChange dispatchWakesWrong)

/- THE SECOND FORM. 'bulk': how many values and letters a reading holds, each counted each time it is reached (what is shared counts as often as it is met; a slice's spare places count too). A statement '..UptoSaid' is the law's where the arguments, and the package variables that the reading takes, are together of bulk at most 1048576: NARROWER than '..Said'. Prove '..Said' where nothing that the law and all that it calls make is longer than what came in: it says more and counts as full. Else prove '..UptoSaid'. A law counts once. -/
mutual
def uptoBulk {H : Type} : DataW H → Nat
  | .lit (.string bytes) => bytes.length + 1
  | .lit _ => 1
  | .nil => 1
  | .ptr d => uptoBulk d + 1
  | .slice elems spare => uptoBulkAll elems + uptoBulkAll spare + 1
  | .agg parts => uptoBulkAll parts + 1
  | .iface _ d => uptoBulk d + 1
  | .map entries => uptoBulkEntries entries + 1
  | .held _ => 1
def uptoBulkAll {H : Type} : List (DataW H) → Nat
  | [] => 0
  | d :: r => uptoBulk d + uptoBulkAll r
def uptoBulkEntries {H : Type} : List (Lit × DataW H) → Nat
  | [] => 0
  | x :: r => uptoBulkEntry x + uptoBulkEntries r
def uptoBulkEntry {H : Type} : Lit × DataW H → Nat
  | (.string bytes, d) => bytes.length + uptoBulk d + 1
  | (_, d) => uptoBulk d + 1
 end
def uptoSmall : (H : Type) → List (DataW H) → Bool := fun _ ds => decide (uptoBulkAll ds ≤ 1048576)
def OpenSpec.upto (s : _root_.Go.ChangeSpec) : _root_.Go.OpenSpec := { _root_.Go.OpenSpec.ofChange s with cond := some uptoSmall }

/-- 'monocoquelaw19.ProcGrid', WHERE WHAT IT READS IS OF BULK AT MOST 1048576: true; the input reads as it did. -/
def procGridUptoRow : OpenClaim := { program := "ytgnjenmicojgnaa", sum := "b7371ee794e1c85248de1238a26ddec51addf573d27515015242d15ab2068f2f", func := "monocoque/monocoquelaw19.ProcGrid", spec := "procGrid", unfollowed := true, recurses := true, apart := false, narrowed := true }
def ProcGridUptoSaid : Prop := procGridUptoRow.holds Try.pinned (OpenSpec.upto procGridSpec)

/-- 'monocoquelaw19.ProcUses', WHERE WHAT IT READS IS OF BULK AT MOST 1048576: true; the input reads as it did. -/
def procUsesUptoRow : OpenClaim := { program := "ytgnjenmicojgnaa", sum := "b7371ee794e1c85248de1238a26ddec51addf573d27515015242d15ab2068f2f", func := "monocoque/monocoquelaw19.ProcUses", spec := "procUses", unfollowed := true, recurses := true, apart := false, narrowed := true }
def ProcUsesUptoSaid : Prop := procUsesUptoRow.holds Try.pinned (OpenSpec.upto procUsesSpec)

/-- 'monocoquelaw19.ProcOnce', WHERE WHAT IT READS IS OF BULK AT MOST 1048576: true; the input reads as it did. -/
def procOnceUptoRow : OpenClaim := { program := "ytgnjenmicojgnaa", sum := "b7371ee794e1c85248de1238a26ddec51addf573d27515015242d15ab2068f2f", func := "monocoque/monocoquelaw19.ProcOnce", spec := "procOnce", unfollowed := true, recurses := true, apart := false, narrowed := true }
def ProcOnceUptoSaid : Prop := procOnceUptoRow.holds Try.pinned (OpenSpec.upto procOnceSpec)

/-- 'monocoquelaw19.ProcSame', WHERE WHAT IT READS IS OF BULK AT MOST 1048576: true; the input reads as it did. -/
def procSameUptoRow : OpenClaim := { program := "ytgnjenmicojgnaa", sum := "b7371ee794e1c85248de1238a26ddec51addf573d27515015242d15ab2068f2f", func := "monocoque/monocoquelaw19.ProcSame", spec := "procSame", unfollowed := true, recurses := true, apart := false, narrowed := true }
def ProcSameUptoSaid : Prop := procSameUptoRow.holds Try.pinned (OpenSpec.upto procSameSpec)

/-- 'monocoquelaw19.ProcHolds', WHERE WHAT IT READS IS OF BULK AT MOST 1048576: true; the input reads as it did. -/
def procHoldsUptoRow : OpenClaim := { program := "ytgnjenmicojgnaa", sum := "b7371ee794e1c85248de1238a26ddec51addf573d27515015242d15ab2068f2f", func := "monocoque/monocoquelaw19.ProcHolds", spec := "procHolds", unfollowed := true, recurses := true, apart := false, narrowed := true }
def ProcHoldsUptoSaid : Prop := procHoldsUptoRow.holds Try.pinned (OpenSpec.upto procHoldsSpec)

/-- 'monocoquelaw19.ProcPlays', WHERE WHAT IT READS IS OF BULK AT MOST 1048576: true; the input reads as it did. -/
def procPlaysUptoRow : OpenClaim := { program := "ytgnjenmicojgnaa", sum := "b7371ee794e1c85248de1238a26ddec51addf573d27515015242d15ab2068f2f", func := "monocoque/monocoquelaw19.ProcPlays", spec := "procPlays", unfollowed := true, recurses := true, apart := false, narrowed := true }
def ProcPlaysUptoSaid : Prop := procPlaysUptoRow.holds Try.pinned (OpenSpec.upto procPlaysSpec)

/-- 'monocoquelaw20.DispatchTurns', WHERE WHAT IT READS IS OF BULK AT MOST 1048576: true; the input reads as it did. -/
def dispatchTurnsUptoRow : OpenClaim := { program := "ytgnjenmicojgnaa", sum := "b7371ee794e1c85248de1238a26ddec51addf573d27515015242d15ab2068f2f", func := "monocoque/monocoquelaw20.DispatchTurns", spec := "dispatchTurns", inPlace := ["slices.overlaps[monocoque/delta.timer]", "slices.overlaps[int]"], unfollowed := true, recurses := true, apart := false, narrowed := true }
def DispatchTurnsUptoSaid : Prop := dispatchTurnsUptoRow.holds Try.pinned (OpenSpec.upto dispatchTurnsSpec)

/-- 'monocoquelaw20.DispatchWakes', WHERE WHAT IT READS IS OF BULK AT MOST 1048576: true; the input reads as it did. -/
def dispatchWakesUptoRow : OpenClaim := { program := "ytgnjenmicojgnaa", sum := "b7371ee794e1c85248de1238a26ddec51addf573d27515015242d15ab2068f2f", func := "monocoque/monocoquelaw20.DispatchWakes", spec := "dispatchWakes", inPlace := ["slices.overlaps[monocoque/delta.timer]", "slices.overlaps[int]"], unfollowed := true, recurses := true, apart := false, narrowed := true }
def DispatchWakesUptoSaid : Prop := dispatchWakesUptoRow.holds Try.pinned (OpenSpec.upto dispatchWakesSpec)

end Rows
end Go.Proofs.Ytgnjenmicojgnaa
