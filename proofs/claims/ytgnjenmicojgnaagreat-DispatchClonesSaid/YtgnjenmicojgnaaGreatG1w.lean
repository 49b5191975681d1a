/-
  What is told of one process of a table; an act on one that is there, and on one that isn't.
-/
import Derived.Test.YtgnjenmicojgnaaGreatQb
namespace Go.Proofs.YtgnjenmicojgnaaGreat
set_option linter.unusedVariables false
set_option linter.unusedSimpArgs false
open Go.RowKit

def stepP (f : Pr → Option Pr) (may : Bool) (p : Pr) : Pr := if may = true then (f p).getD p else p
def codeP (f : Pr → Option Pr) (may : Bool) (p : Pr) : Int := if may = true then (if (f p).isSome = true then 0 else 10) else 2

theorem look_at {ps : List Pr} {p : Pr} {k : Nat} (hk : ps[k]? = some p) : lookP ps k = p := by
  unfold lookP
  have e : ((k : Int).toNat) = k := by omega
  rw [if_neg (by omega), e, hk]
  rfl
theorem look_out (ps : List Pr) : lookP ps (ps.length : Int) = zeroP := by
  unfold lookP
  have e : (((ps.length : Nat) : Int).toNat) = ps.length := by omega
  rw [if_neg (by omega), e, List.getElem?_eq_none (Nat.le_refl _)]
  rfl
theorem base_is {t g c : Nat} {ps : List Pr} (i : Int) {k : Int} {w : World} (h : baseR (lookP ps i) = k) (hT : Tab w t g c ps) :
    Calls Tryz.prog 50 #[.pointer (some ⟨t, 0, none⟩), .int .i64 i] w fun e w' => e = .returned (.int .i64 k) ∧ Below w.heap.size w w' := by
  subst h; exact base_any t g c ps i w hT
theorem cur_is {t g c : Nat} {ps : List Pr} (i : Int) {k : Int} {w : World} (h : curR (lookP ps i) = k) (hT : Tab w t g c ps) :
    Calls Tryz.prog 15 #[.pointer (some ⟨t, 0, none⟩), .int .i64 i] w fun e w' => e = .returned (.int .i64 k) ∧ Below w.heap.size w w' := by
  subst h; exact cur_any t g c ps i w hT
theorem act_in {f : Pr → Option Pr} {may : Bool} {ps : List Pr} {i : Int} {p : Pr} (h0 : 0 ≤ i) (hp : ps[i.toNat]? = some p) : act f may ps i = (ps.set i.toNat (stepP f may p), codeP f may p) := by
  have hl : i.toNat < ps.length := (List.getElem?_eq_some_iff.1 hp).1
  have hset : ps.set i.toNat p = ps := by
    apply List.ext_getElem?
    intro j
    rw [List.getElem?_set]
    by_cases e : i.toNat = j
    · subst e
      rw [if_pos rfl, if_pos hl, hp]
    · rw [if_neg e]
  unfold act stepP codeP
  rw [if_neg (by omega)]
  cases may with
  | false => simp [hset]
  | true =>
    simp only [Bool.true_eq_false, if_false, if_true, hp, Option.bind_some]
    cases hf : f p with
    | none => simp [hset]
    | some p' => simp
theorem act_out {f : Pr → Option Pr} {may : Bool} {ps : List Pr} {i : Int} (h : i < 0 ∨ (ps.length : Int) ≤ i) : act f may ps i = (ps, 9) := by
  unfold act
  rw [if_pos h]

end Go.Proofs.YtgnjenmicojgnaaGreat
