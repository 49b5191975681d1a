/-
  What slices.Equal answers of two slices of whole numbers that read as lists. No condition.
-/
import Derived.Test.YtgnjenmicojgnaaB6
namespace Go.Proofs.Ytgnjenmicojgnaa
set_option linter.unusedVariables false
set_option linter.unusedSimpArgs false
open Go.RowKit

/-- A slice (address A) that reads as the whole numbers xs. -/
def Ints (w : World) (A : Option Addr) (xs : List Int) : Prop :=
  xs.length ≠ 0 → ∃ b o, A = some ⟨b, o, none⟩ ∧ b < w.heap.size ∧ ∀ i x, xs[i]? = some x → w.cell? ⟨b, o + i, none⟩ = some (.int .i64 x)

theorem Ints.below {w w' : World} {A : Option Addr} {xs : List Int} (h : Ints w A xs) (hb : Below w.heap.size w w') : Ints w' A xs := by
  intro hl
  obtain ⟨b, o, rfl, hbl, hc⟩ := h hl
  exact ⟨b, o, rfl, Nat.lt_of_lt_of_le hbl hb.size, fun i x hx => (hb.cell (p := ⟨b, o + i, none⟩) hbl).trans (hc i x hx)⟩

theorem ints_of_own {w : World} {base : Nat} {v : Value} {xs : List Int} (h : w.ownsRow base 3 1 v xs.length (xs.map (Value.int .i64))) : ∃ A c, v = .slice A xs.length c ∧ Ints w A xs := by
  rcases h.2 with ⟨rfl, h0⟩ | ⟨g, cap, cur, rfl, hg, hc, hr⟩
  · exact ⟨none, 0, by rw [h0], fun hl => absurd h0 hl⟩
  · refine ⟨some ⟨g, 0, none⟩, cap, rfl, fun hl => ⟨g, 0, rfl, Row.lt ⟨_, hc⟩, fun i x hx => ?_⟩⟩
    have hil : i < xs.length := (List.getElem?_eq_some_iff.1 hx).1
    rw [Nat.zero_add, h.cellAt i (by omega), List.getElem?_map, hx]
    rfl

set_option maxRecDepth 100000 in
set_option maxHeartbeats 1000000 in
theorem equal_any (A A' : Option Addr) (c c' : Nat) (xs ys : List Int) (w : World) (hx : Ints w A xs) (hy : Ints w A' ys) (hm : xs.length ≤ 140737488355328) :
    Calls Try.prog 21 #[.slice A xs.length c, .slice A' ys.length c'] w fun e w' => e = .returned (.bool (decide (xs = ys))) ∧ Below w.heap.size w w' := by
  have HX := Lib.hid hx
  have HY := Lib.hid hy
  clear hx hy
  obtain ⟨n, hn⟩ : ∃ n, n = xs.length := ⟨_, rfl⟩
  obtain ⟨m, hmm⟩ : ∃ m, m = ys.length := ⟨_, rfl⟩
  rw [← hn, ← hmm]
  rw [← hn] at hm
  have HN := Lib.hid hn
  have HM := Lib.hid hmm
  clear hn hmm
  by_cases hl : n = m
  · subst hl
    go_enter Try.func21, Try.ntmps21
    go_wp2
    go_loopw [13] (fun i wr => ∃ k : Nat, k ≤ n ∧ i = .int .i64 k ∧ xs.take k = ys.take k ∧ Below w.heap.size w wr) (fun i _ => n - (intOf i).toNat)
    case atStart => exact ⟨0, Nat.zero_le _, rfl, rfl, Below.refl _ _⟩
    case round =>
      obtain ⟨k, hk, rfl, htk, hb⟩ := hrel
      have HTK := Lib.hid htk
      have HB := Lib.hid hb
      clear htk hb
      by_cases hlt : k < n
      · obtain ⟨b, o, rfl, hbl, hcx⟩ := HX.out (by have := HN.out; omega)
        obtain ⟨b', o', rfl, hbl', hcy⟩ := HY.out (by have := HM.out; omega)
        obtain ⟨x, hxk⟩ : ∃ x, xs[k]? = some x := ⟨_, List.getElem?_eq_getElem (by have := HN.out; omega)⟩
        obtain ⟨y, hyk⟩ : ∃ y, ys[k]? = some y := ⟨_, List.getElem?_eq_getElem (by have := HM.out; omega)⟩
        have e1 := (HB.out.cell (p := ⟨b, o + k, none⟩) hbl).trans (hcx k x hxk)
        have e2 := (HB.out.cell (p := ⟨b', o' + k, none⟩) hbl').trans (hcy k y hyk)
        have HXK := Lib.hid hxk
        have HYK := Lib.hid hyk
        clear hcx hcy hxk hyk
        have h0 : (0 : Int) ≤ (k : Int) := Int.natCast_nonneg _
        have h1 : (k : Int) < (n : Int) := by omega
        by_cases hxy : x = y
        · have hb1 : (x != y) = false := by simpa using hxy
          have HXY := Lib.hid hxy
          clear hxy
          go_wp2_with fail
          go_quiet (fail)
          have HB2 : Hid (Below w.heap.size w (wr.drewN nq)) := ⟨HB.out.os, HB.out.tape, HB.out.output, HB.out.size, HB.out.block⟩
          go_wp2
          go_roundw
          case rel => exact ⟨k + 1, by omega, by go_num, by rw [take_snoc' xs k x HXK.out, take_snoc' ys k y HYK.out, HTK.out, HXY.out], HB2.out⟩
          case measure => simp [intOf]; omega
        · have hb1 : (x != y) = true := by simpa using hxy
          have HXY : Hid (decide (xs = ys) = false) := by
            refine decide_eq_false ?_
            rintro rfl
            have := HXK.out
            rw [HYK.out] at this
            injection this with this
            exact hxy this.symm
          clear hxy
          go_wp2_with fail
          go_quiet (fail)
          have HB2 : Hid (Below w.heap.size w (wr.drewN nq)) := ⟨HB.out.os, HB.out.tape, HB.out.output, HB.out.size, HB.out.block⟩
          go_wp2
          go_ret
          exact ⟨ret_bool (by rw [HXY.out]), HB2.out⟩
      · have HXY : Hid (decide (xs = ys) = true) := by
          refine decide_eq_true ?_
          have h := HTK.out
          rw [List.take_of_length_le (by have := HN.out; omega), List.take_of_length_le (by have := HM.out; omega)] at h
          exact h
        go_wp2_with fail
        go_ret
        exact ⟨ret_bool (by rw [HXY.out]), HB.out⟩
  · have hb : ((n : Int) != (m : Int)) = true := by simp; omega
    have HXY : Hid (decide (xs = ys) = false) := by
      refine decide_eq_false ?_
      rintro rfl
      exact hl (HN.out.trans HM.out.symm)
    clear hl
    go_enter Try.func21, Try.ntmps21
    go_wp2
    go_ret
    exact ⟨ret_bool (by rw [HXY.out]), Below.refl _ _⟩

end Go.Proofs.Ytgnjenmicojgnaa
