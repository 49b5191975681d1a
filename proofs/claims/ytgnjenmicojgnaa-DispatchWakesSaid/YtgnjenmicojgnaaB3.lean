/-
  What Clone makes of a table.
-/
import Derived.Test.YtgnjenmicojgnaaB2
namespace Go.Proofs.Ytgnjenmicojgnaa
set_option linter.unusedVariables false
set_option linter.unusedSimpArgs false
open Go.RowKit

def CloneSl (w : World) (ps : List Pr) (e : Ending) (w' : World) : Prop :=
  ∃ g' c', e = .returned (.slice (some ⟨g', 0, none⟩) ps.length c') ∧ w'.ownsRow w.heap.size 86 13 (.slice (some ⟨g', 0, none⟩) ps.length c') ps.length (flat ps) ∧ Below w.heap.size w w'

set_option maxRecDepth 100000 in
set_option maxHeartbeats 400000 in
theorem clone_sl (t g c : Nat) (ps : List Pr) (w : World) (hT : Tab w t g c ps) (hl : ps.length ≠ 0) :
    Calls Try.prog 81 #[.slice (some ⟨g, 0, none⟩) ps.length c] w (CloneSl w ps) := by
  obtain ⟨i0, hi0, hz0, hz1, hz2⟩ := info_parts info86
  have hnil := fun (wx : World) (a : Option Addr) (n c n' c' : Nat) => Lib.run_eql_slice_nil (P := Try.prog) wx 78 86 a n c n' c' Try.underlying78
  have hlen := hT.len
  have HT := Lib.hid hT
  have HL := Lib.hid hl
  clear hT hl
  have hfl := Lib.hid (flat_length ps)
  go_enter Try.func81, Try.ntmps81
  go_wp2_with (first
    | (at_builtin
       refine wpList_append_own _ rfl (.tmp 5) (.tmp 6) 78 rfl w.heap.size 86 i0 _ 13 104 Try.underlying78 hi0 hz0 hz1 hz2 rfl (by decide) (.slice (some ⟨w.heap.size, 0, none⟩) 0 0) 0 [] rfl
         (by have := World.ownsRow_lit (base := w.heap.size) (e := 86) (size := 13) w #[] 0 (Nat.le_refl _) (by unfold maxLen; omega) rfl; exact this) ⟨g, 0, none⟩ ps.length c (flat ps) rfl hfl.out (tab_news (HT.out.alloc _) HL.out) (flat_one ps) (by unfold maxLen; omega) (by omega) (by simp) ?_
       intro v' w1 hown1 hgrow hiff))
  go_ret
  rw [Nat.zero_add, List.nil_append] at hown1
  have hb : Below w.heap.size w w1 := ((Below.refl w.heap.size w).alloc (Nat.le_refl _) _).grown hgrow (by simp) (fun k hk => by simp [Value.ownBlock] at hk; omega)
  rcases hown1.2 with ⟨_, h⟩ | ⟨g', cap, cur, hv, _⟩
  · exact absurd h HL.out
  · subst hv
    exact ⟨g', cap, rfl, hown1, hb⟩

def ClonePost (w : World) (ps : List Pr) (e : Ending) (w' : World) : Prop :=
  ∃ t' g' c', e = .returned (.pointer (some ⟨t', 0, none⟩)) ∧ Tab w' t' g' c' ps ∧ w.heap.size ≤ t' ∧ (ps.length ≠ 0 → w.heap.size ≤ g') ∧ Below w.heap.size w w'

set_option maxRecDepth 100000 in
set_option maxHeartbeats 400000 in
theorem clone_any (t g c : Nat) (ps : List Pr) (w : World) (hT : Tab w t g c ps) :
    Calls Try.prog 26 #[.pointer (some ⟨t, 0, none⟩)] w (ClonePost w ps) := by
  have hcell := hT.cell
  have htl := hT.lt
  by_cases hl : ps.length = 0
  · have hnil := fun (wx : World) (a : Option Addr) (n c n' c' : Nat) => Lib.run_eql_slice_nil (P := Try.prog) wx 78 86 a n c n' c' Try.underlying78
    have hs : slc g c ps = .slice none 0 0 := by unfold slc; rw [if_pos hl]
    rw [hs] at hcell
    have hle := hT.len
    have HL := Lib.hid hl
    clear hT hl hs
    go_enter Try.func26, Try.ntmps26
    go_wp2
    go_ret
    have hl := HL.out
    refine ⟨w.heap.size, 0, 0, rfl, ⟨?_, fun h => absurd hl h, hle⟩, Nat.le_refl _, fun h => absurd hl h, (Below.refl _ _).alloc (Nat.le_refl _) _⟩
    rw [heap_alloc_new]
    simp [slc, hl]
  · have hs : slc g c ps = .slice (some ⟨g, 0, none⟩) ps.length c := by unfold slc; rw [if_neg hl]
    rw [hs] at hcell
    have hle := hT.len
    have HT := Lib.hid hT
    have HL := Lib.hid hl
    clear hT hl hs
    go_enter Try.func26, Try.ntmps26
    go_wp2_with fail
    refine (clone_sl t g c ps w HT.out HL.out).mono ?_
    rintro e w1 ⟨g', c', rfl, hown, hb⟩
    have HO := Lib.hid hown
    have HB := Lib.hid hb
    clear hown hb
    go_wp2
    go_ret
    have hl := HL.out
    have hb := HB.out
    obtain ⟨g2, c2, hT2, hg2⟩ := tab_of_own (t := w1.heap.size) (w := w1.alloc (.cells #[.slice (some ⟨g', 0, none⟩) ps.length c'] 80)) (base := w.heap.size) (va := some ⟨g', 0, none⟩) (vc := c') (ps := ps) (heap_alloc_new _ _) (HO.out.alloc _) (fun h => absurd h hl) hle
    exact ⟨w1.heap.size, g2, c2, rfl, hT2, hb.size, hg2, hb.alloc hb.size _⟩

end Go.Proofs.Ytgnjenmicojgnaa
