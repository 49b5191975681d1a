/-
  No cell of these rows narrows 'for every input' (looked for: loops, veiled, ifaces, maps, wideKeys, modest, calm, conditions, laid).
  DERIVED. THE GIVEN ROWS OF THIS SEAT. 4 by the template 'for every input the law returns true; each argument reads behind the call as it read before'; 0 by the template 'total and deterministic' (their statements: YtgnjenmicojgnaaGreatTotals.lean).
  GIVEN WITH THE SEED: the statements are not yours to turn. If you find one false, say at which input.
  Laid BY PROGRAM, IN A SANDBOX (cutbox-rows.mjs): the forced cells as the released guide's own fill.sh prints them over the translation 691a13e61e5fef59… (all of the seat's roots in one cut). By AI agents, Wed Nov 11 2026. No macro, syntax, notation, axiom, sorry.
-/
import Derived.Test.YtgnjenmicojgnaaGreatChecked
import GoSem.Claim
import GoSem.ClaimJoined
import GoSem.ClaimMapViews
import Derived.JoinedTies
import Derived.KernelRfl
namespace Go.Proofs.YtgnjenmicojgnaaGreat
/- THE CELL 'sum', in the pinned program and in every row, IS THE sha256 OF THE DUMP (.gsa) THAT YtgnjenmicojgnaaGreatProg.lean LOADS. Nothing in Lean hashes anything: it is a label: what it is worth is what the hold of that sum in a sandbox is worth. -/
noncomputable def Tryz.pinned : Pinned := { name := "ytgnjenmicojgnaagreat", sum := "691a13e61e5fef59697e5d4f3db08fabfe8c1d48e1b110ff3942e06515b6ba91", checked := Tryz.checked }
namespace Rows
def none {H : Type} : Left H := { results := [], args := [] }

/-- 'monocoquelaw20.DispatchPicks': WHATEVER THE INPUT: true; the input reads as it did. -/
def dispatchPicksSpec : ChangeSpec := { name := "dispatchPicks", fn := fun _ => fun
  | [d1, d2] => { results := [.lit (.bool true)], args := [d1, d2] }
  | _ => none }
def dispatchPicksRow : OpenClaim := { program := "ytgnjenmicojgnaagreat", sum := "691a13e61e5fef59697e5d4f3db08fabfe8c1d48e1b110ff3942e06515b6ba91", func := "monocoque/monocoquelaw20.DispatchPicks", spec := "dispatchPicks", inPlace := ["slices.overlaps[monocoque/delta.timer]", "slices.overlaps[int]"], unfollowed := true, recurses := true, apart := false }
def DispatchPicksSaid : Prop := dispatchPicksRow.holds Tryz.pinned (OpenSpec.ofChange dispatchPicksSpec)

/-- ITS FALSE NEIGHBOUR: 'it returns false'. Refute it at one input. -/
def dispatchPicksWrong : ChangeSpec := { name := "dispatchPicks", fn := fun _ => fun
  | [d1, d2] => { results := [.lit (.bool false)], args := [d1, d2] }
  | _ => none }
def DispatchPicksWrongFalsely : Prop := dispatchPicksRow.holds Tryz.pinned (OpenSpec.ofChange dispatchPicksWrong)

/-- 'monocoquelaw20.DispatchActs': WHATEVER THE INPUT: true; the input reads as it did. -/
def dispatchActsSpec : ChangeSpec := { name := "dispatchActs", fn := fun _ => fun
  | [d1, d2] => { results := [.lit (.bool true)], args := [d1, d2] }
  | _ => none }
def dispatchActsRow : OpenClaim := { program := "ytgnjenmicojgnaagreat", sum := "691a13e61e5fef59697e5d4f3db08fabfe8c1d48e1b110ff3942e06515b6ba91", func := "monocoque/monocoquelaw20.DispatchActs", spec := "dispatchActs", inPlace := ["slices.overlaps[monocoque/delta.timer]", "slices.overlaps[int]"], unfollowed := true, recurses := true, apart := false }
def DispatchActsSaid : Prop := dispatchActsRow.holds Tryz.pinned (OpenSpec.ofChange dispatchActsSpec)

/-- ITS FALSE NEIGHBOUR: 'it returns false'. Refute it at one input. -/
def dispatchActsWrong : ChangeSpec := { name := "dispatchActs", fn := fun _ => fun
  | [d1, d2] => { results := [.lit (.bool false)], args := [d1, d2] }
  | _ => none }
def DispatchActsWrongFalsely : Prop := dispatchActsRow.holds Tryz.pinned (OpenSpec.ofChange dispatchActsWrong)

/-- 'monocoquelaw20.DispatchClones': WHATEVER THE INPUT: true; the input reads as it did. -/
def dispatchClonesSpec : ChangeSpec := { name := "dispatchClones", fn := fun _ => fun
  | [d1, d2, d3] => { results := [.lit (.bool true)], args := [d1, d2, d3] }
  | _ => none }
def dispatchClonesRow : OpenClaim := { program := "ytgnjenmicojgnaagreat", sum := "691a13e61e5fef59697e5d4f3db08fabfe8c1d48e1b110ff3942e06515b6ba91", func := "monocoque/monocoquelaw20.DispatchClones", spec := "dispatchClones", inPlace := ["slices.overlaps[monocoque/delta.timer]", "slices.overlaps[int]"], unfollowed := true, recurses := true, apart := false }
def DispatchClonesSaid : Prop := dispatchClonesRow.holds Tryz.pinned (OpenSpec.ofChange dispatchClonesSpec)

/-- ITS FALSE NEIGHBOUR: 'it returns false'. Refute it at one input. -/
def dispatchClonesWrong : ChangeSpec := { name := "dispatchClones", fn := fun _ => fun
  | [d1, d2, d3] => { results := [.lit (.bool false)], args := [d1, d2, d3] }
  | _ => none }
def DispatchClonesWrongFalsely : Prop := dispatchClonesRow.holds Tryz.pinned (OpenSpec.ofChange dispatchClonesWrong)

/-- 'monocoquelaw20.DispatchNews': WHATEVER THE INPUT: true; the input reads as it did. -/
def dispatchNewsSpec : ChangeSpec := { name := "dispatchNews", fn := fun _ => fun
  | [d] => { results := [.lit (.bool true)], args := [d] }
  | _ => none }
def dispatchNewsRow : OpenClaim := { program := "ytgnjenmicojgnaagreat", sum := "691a13e61e5fef59697e5d4f3db08fabfe8c1d48e1b110ff3942e06515b6ba91", func := "monocoque/monocoquelaw20.DispatchNews", spec := "dispatchNews", inPlace := ["slices.overlaps[monocoque/delta.timer]", "slices.overlaps[int]"], unfollowed := true, recurses := true, apart := false }
def DispatchNewsSaid : Prop := dispatchNewsRow.holds Tryz.pinned (OpenSpec.ofChange dispatchNewsSpec)

/-- ITS FALSE NEIGHBOUR: 'it returns false'. Refute it at one input. -/
def dispatchNewsWrong : ChangeSpec := { name := "dispatchNews", fn := fun _ => fun
  | [d] => { results := [.lit (.bool false)], args := [d] }
  | _ => none }
def DispatchNewsWrongFalsely : Prop := dispatchNewsRow.holds Tryz.pinned (OpenSpec.ofChange dispatchNewsWrong)

/- THE SECOND FORM. 'bulk': how many values and letters a reading holds, each counted each time it is reached (what is shared counts as often as it is met; a slice's spare places count too). A statement '..UptoSaid' is the law's where the arguments, and the package variables that the reading takes, are together of bulk at most 1048576: NARROWER than '..Said'. Prove '..Said' where nothing that the law and all that it calls make is longer than what came in: it says more and counts as full. Else prove '..UptoSaid'. A law counts once. -/
mutual
def uptoBulk {H : Type} : DataW H → Nat
  | .lit (.string bytes) => bytes.length + 1
  | .lit _ => 1
  | .nil => 1
  | .ptr d => uptoBulk d + 1
  | .slice elems spare => uptoBulkAll elems + uptoBulkAll spare + 1
  | .agg parts => uptoBulkAll parts + 1
  | .iface _ d => uptoBulk d + 1
  | .map entries => uptoBulkEntries entries + 1
  | .held _ => 1
def uptoBulkAll {H : Type} : List (DataW H) → Nat
  | [] => 0
  | d :: r => uptoBulk d + uptoBulkAll r
def uptoBulkEntries {H : Type} : List (Lit × DataW H) → Nat
  | [] => 0
  | x :: r => uptoBulkEntry x + uptoBulkEntries r
def uptoBulkEntry {H : Type} : Lit × DataW H → Nat
  | (.string bytes, d) => bytes.length + uptoBulk d + 1
  | (_, d) => uptoBulk d + 1
 end
def uptoSmall : (H : Type) → List (DataW H) → Bool := fun _ ds => decide (uptoBulkAll ds ≤ 1048576)
def OpenSpec.upto (s : _root_.Go.ChangeSpec) : _root_.Go.OpenSpec := { _root_.Go.OpenSpec.ofChange s with cond := some uptoSmall }

/-- 'monocoquelaw20.DispatchPicks', WHERE WHAT IT READS IS OF BULK AT MOST 1048576: true; the input reads as it did. -/
def dispatchPicksUptoRow : OpenClaim := { program := "ytgnjenmicojgnaagreat", sum := "691a13e61e5fef59697e5d4f3db08fabfe8c1d48e1b110ff3942e06515b6ba91", func := "monocoque/monocoquelaw20.DispatchPicks", spec := "dispatchPicks", inPlace := ["slices.overlaps[monocoque/delta.timer]", "slices.overlaps[int]"], unfollowed := true, recurses := true, apart := false, narrowed := true }
def DispatchPicksUptoSaid : Prop := dispatchPicksUptoRow.holds Tryz.pinned (OpenSpec.upto dispatchPicksSpec)

/-- 'monocoquelaw20.DispatchActs', WHERE WHAT IT READS IS OF BULK AT MOST 1048576: true; the input reads as it did. -/
def dispatchActsUptoRow : OpenClaim := { program := "ytgnjenmicojgnaagreat", sum := "691a13e61e5fef59697e5d4f3db08fabfe8c1d48e1b110ff3942e06515b6ba91", func := "monocoque/monocoquelaw20.DispatchActs", spec := "dispatchActs", inPlace := ["slices.overlaps[monocoque/delta.timer]", "slices.overlaps[int]"], unfollowed := true, recurses := true, apart := false, narrowed := true }
def DispatchActsUptoSaid : Prop := dispatchActsUptoRow.holds Tryz.pinned (OpenSpec.upto dispatchActsSpec)

/-- 'monocoquelaw20.DispatchClones', WHERE WHAT IT READS IS OF BULK AT MOST 1048576: true; the input reads as it did. -/
def dispatchClonesUptoRow : OpenClaim := { program := "ytgnjenmicojgnaagreat", sum := "691a13e61e5fef59697e5d4f3db08fabfe8c1d48e1b110ff3942e06515b6ba91", func := "monocoque/monocoquelaw20.DispatchClones", spec := "dispatchClones", inPlace := ["slices.overlaps[monocoque/delta.timer]", "slices.overlaps[int]"], unfollowed := true, recurses := true, apart := false, narrowed := true }
def DispatchClonesUptoSaid : Prop := dispatchClonesUptoRow.holds Tryz.pinned (OpenSpec.upto dispatchClonesSpec)

/-- 'monocoquelaw20.DispatchNews', WHERE WHAT IT READS IS OF BULK AT MOST 1048576: true; the input reads as it did. -/
def dispatchNewsUptoRow : OpenClaim := { program := "ytgnjenmicojgnaagreat", sum := "691a13e61e5fef59697e5d4f3db08fabfe8c1d48e1b110ff3942e06515b6ba91", func := "monocoque/monocoquelaw20.DispatchNews", spec := "dispatchNews", inPlace := ["slices.overlaps[monocoque/delta.timer]", "slices.overlaps[int]"], unfollowed := true, recurses := true, apart := false, narrowed := true }
def DispatchNewsUptoSaid : Prop := dispatchNewsUptoRow.holds Tryz.pinned (OpenSpec.upto dispatchNewsSpec)

end Rows
end Go.Proofs.YtgnjenmicojgnaaGreat
