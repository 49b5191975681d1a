/-
  What look answers, for every index.
-/
import Derived.Test.YtgnjenmicojgnaaA7
namespace Go.Proofs.Ytgnjenmicojgnaa
set_option linter.unusedVariables false
set_option linter.unusedSimpArgs false
open Go.RowKit

def zeroP : Pr := ⟨0, 0, 0, 0, 0, 0, false, 0, 0, 0, 0, 0, false⟩
def lookP (ps : List Pr) (i : Int) : Pr := if i < 0 then zeroP else (ps[i.toNat]?).getD zeroP

theorem slc_form (g c : Nat) (ps : List Pr) : ∃ a cc, slc g c ps = .slice a ps.length cc := by
  unfold slc
  split
  · rename_i h; rw [h]; exact ⟨_, _, rfl⟩
  · exact ⟨_, _, rfl⟩

set_option maxRecDepth 100000 in
set_option maxHeartbeats 400000 in
theorem none_any (w : World) :
    Calls Try.prog 110 #[] w fun e w' => e = .returned (.agg #[.int .i64 0, .int .i64 0, .int .i64 0, .int .i64 0, .int .i64 0, .int .i64 0, .bool false, .int .i64 0, .int .i64 0, .int .i64 0, .int .i64 0, .int .i64 0, .bool false]) ∧ (w.alloc (.cells #[.int .i64 0, .int .i64 0, .int .i64 0, .int .i64 0, .int .i64 0, .int .i64 0, .bool false, .int .i64 0, .int .i64 0, .int .i64 0, .int .i64 0, .int .i64 0, .bool false] 86)).alloc (.cells #[.int .i64 0, .int .i64 0, .int .i64 0, .int .i64 0, .int .i64 0, .int .i64 0, .bool false, .int .i64 0, .int .i64 0, .int .i64 0, .int .i64 0, .int .i64 0, .bool false] 86) = w' := by
  go_enter Try.func110, Try.ntmps110
  go_wp2
  refine bodyPost_ret (v := .agg zeroP.cells) (by simp [results, Try.results110, go_sem, zeroP, Pr.cells]) rfl ?_
  exact ⟨rfl, rfl⟩

set_option maxRecDepth 100000 in
set_option maxHeartbeats 400000 in
theorem look_any (t g c : Nat) (ps : List Pr) (i : Int) (w : World) (hT : Tab w t g c ps) :
    Calls Try.prog 54 #[.pointer (some ⟨t, 0, none⟩), .int .i64 i] w fun e w' => e = .returned (.agg (lookP ps i).cells) ∧ Below w.heap.size w w' := by
  have hl := hT.len
  have htl := hT.lt
  have hcell := hT.cell
  obtain ⟨a, cc, hv⟩ := slc_form g c ps
  by_cases h0 : i < 0
  · unfold lookP
    rw [if_pos h0]
    clear hT hcell hv
    go_enter Try.func54, Try.ntmps54
    go_wp2_with (go_at_call 110; refine (none_any _).mono ?_; rintro e w' ⟨rfl, rfl⟩)
    refine bodyPost_ret (v := .agg zeroP.cells) (by simp [results, Try.results54, go_sem, zeroP, Pr.cells]) rfl ?_
    exact ⟨rfl, by repeat first | with_reducible exact Below.refl _ _ | (with_reducible refine Below.alloc ?_ (by simp; try omega) _) | (with_reducible refine Below.setCell ?_ (by simp; try omega) _)⟩
  · obtain ⟨k, rfl⟩ := Int.eq_ofNat_of_zero_le (by omega : 0 ≤ i)
    unfold lookP
    rw [if_neg h0, Int.toNat_natCast]
    by_cases hk : k < ps.length
    · have hpk : ps[k]? = some ps[k] := List.getElem?_eq_getElem hk
      obtain ⟨hr, hc⟩ := hT.rows (by omega)
      have hs : slc g c ps = .slice (some ⟨g, 0, none⟩) ps.length c := by unfold slc; rw [if_neg (by omega)]
      have hP := hc k _ hpk
      rw [hpk, Option.getD_some]
      rw [hs] at hcell
      have hlg := hr.lt
      generalize ps[k] = p at *
      generalize ps.length = n at *
      clear hT hc hs hv hpk
      obtain ⟨c0, c1, c2, c3, c4, c5, c6, c7, c8, c9, c10, c11, c12⟩ := hP
      go_enter Try.func54, Try.ntmps54
      go_wp2_with (go_at_call 62; refine (len_any t (some ⟨g, 0, none⟩) n c _ ?_).mono ?_; go_simp; rintro e w' ⟨rfl, rfl⟩)
      refine bodyPost_ret (v := .agg p.cells) (by simp [results, Try.results54, go_sem, Pr.cells]) rfl ?_
      exact ⟨rfl, by repeat first | with_reducible exact Below.refl _ _ | (with_reducible refine Below.alloc ?_ (by simp; try omega) _) | (with_reducible refine Below.setCell ?_ (by simp; try omega) _)⟩
    · have hpk : ps[k]? = none := List.getElem?_eq_none (by omega)
      rw [hpk, Option.getD_none]
      rw [hv] at hcell
      have hk' : ps.length ≤ k := by omega
      generalize ps.length = n at *
      clear hT hv hpk hk
      go_enter Try.func54, Try.ntmps54
      go_wp2_with (first | (go_at_call 62; refine (len_any t a n cc _ ?_).mono ?_; go_simp; rintro e w' ⟨rfl, rfl⟩) | (go_at_call 110; refine (none_any _).mono ?_; rintro e w' ⟨rfl, rfl⟩))
      refine bodyPost_ret (v := .agg zeroP.cells) (by simp [results, Try.results54, go_sem, zeroP, Pr.cells]) rfl ?_
      exact ⟨rfl, by repeat first | with_reducible exact Below.refl _ _ | (with_reducible refine Below.alloc ?_ (by simp; try omega) _) | (with_reducible refine Below.setCell ?_ (by simp; try omega) _)⟩

end Go.Proofs.Ytgnjenmicojgnaa
