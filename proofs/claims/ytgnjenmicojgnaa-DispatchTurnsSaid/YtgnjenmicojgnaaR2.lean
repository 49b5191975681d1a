/-
  How a slice of bools that came in is opened.
-/
import Derived.Test.YtgnjenmicojgnaaR0
import Derived.Test.YtgnjenmicojgnaaK6
import Derived.Deep.Grids
namespace Go.Proofs.Ytgnjenmicojgnaa
open Go.ChangeShapes Go.WideShapes Go.ChangeAt Go.RowKit Go.Joins Go.Deep
set_option linter.unusedVariables false
set_option linter.unusedSimpArgs false

set_option maxRecDepth 100000 in
theorem open_turns {H : Type} {enc : TypeId × Value → H} {W : World} {a0 : Option Addr} {len0 cap0 : Nat} {d0 : DataW H} {p0 : List MemPlace}
    (h0 : DataW.Trod enc Try.prog W 0 (fun _ => true) true 63 (.slice a0 len0 cap0) d0 p0) : ∃ l : List Bool, l.length = len0 ∧ Bools W a0 l := by
  obtain ⟨fuel, hf⟩ := h0
  rcases open_bools Try.underlying63 Try.underlying4 (by kernel_rfl) hf with ⟨hcs, _⟩ | ⟨a, len, cap, B, hcs, _, hl, hm, _, hcell⟩
  · simp [Value.cells] at hcs
    obtain ⟨rfl, rfl, rfl⟩ := hcs
    exact ⟨[], rfl, fun k x hx => by simp at hx⟩
  · simp [Value.cells] at hcs
    obtain ⟨rfl, rfl, rfl⟩ := hcs
    refine ⟨(List.range len0).map B, by simp, fun k x hx => ?_⟩
    rw [List.getElem?_map] at hx
    have hk : k < len0 := by
      rcases Nat.lt_or_ge k len0 with h | h
      · exact h
      · rw [List.getElem?_eq_none_iff.2 (by simpa using h)] at hx
        cases hx
    rw [List.getElem?_range hk] at hx
    injection hx with hx
    obtain ⟨b, off, spot⟩ := a
    have hc := hcell k (by omega)
    have hspot : spot = none := by simpa [Addr.add] using World.cell?_spot (hcell 0 (by omega))
    subst hspot
    have e : (⟨b, off, none⟩ : Addr).add k = ⟨b, off + k, none⟩ := by unfold Addr.add; split <;> simp_all
    rw [e] at hc
    exact ⟨b, off, rfl, World.block_lt_of_cell? W _ hc, by rw [hc, ← hx]⟩

end Go.Proofs.Ytgnjenmicojgnaa
