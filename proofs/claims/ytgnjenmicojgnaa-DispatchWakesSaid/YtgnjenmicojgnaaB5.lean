/-
  What is true of every process stays true, whatever is done. No condition.
-/
import Derived.Test.YtgnjenmicojgnaaB4
namespace Go.Proofs.Ytgnjenmicojgnaa
set_option linter.unusedVariables false
set_option linter.unusedSimpArgs false
open Go.RowKit

/-- f keeps what is true of a process, where the number may be. -/
def Keeps (f : Pr → Option Pr) (may : Bool) : Prop := may = true → ∀ p p', p.Ok → f p = some p' → p'.Ok

theorem act_ok {f : Pr → Option Pr} {may : Bool} (h : Keeps f may) {ps : List Pr} (hok : ∀ p, p ∈ ps → p.Ok) (i : Int) : ∀ p, p ∈ (act f may ps i).1 → p.Ok := by
  unfold act
  split
  · exact hok
  split
  · exact hok
  · rename_i hm
    have hm : may = true := by simpa using hm
    cases hb : (ps[i.toNat]?).bind f with
    | none => exact hok
    | some p' =>
      intro p hp
      rcases List.mem_or_eq_of_mem_set hp with hp | hp
      · exact hok p hp
      · subst hp
        cases hq : ps[i.toNat]? with
        | none => rw [hq] at hb; cases hb
        | some q =>
          rw [hq] at hb
          exact h hm q p (hok q (List.mem_of_getElem? hq)) hb

theorem act_length (f : Pr → Option Pr) (may : Bool) (ps : List Pr) (i : Int) : (act f may ps i).1.length = ps.length := by
  unfold act
  split
  · rfl
  split
  · rfl
  · cases (ps[i.toNat]?).bind f <;> simp

theorem ok_fresh {a : At} (h : a.may = true) : (prOf a).Ok := by
  simp only [At.may, mayB, inB, Bool.and_eq_true, decide_eq_true_eq] at h
  constructor <;> simp [prOf] <;> omega

theorem sleep_ok {p : Pr} (h : p.Ok) : (sleepP p).Ok := by
  obtain ⟨h1, h2, h3, h4, h5, h6, h7, h8, h9, h10, h11, h12, h13⟩ := h
  constructor <;> simp [sleepP] <;> omega

theorem at_ok {p : Pr} (h : p.Ok) {n : Int} (hn : 0 ≤ n ∧ n ≤ 1099511627776) : (atP n p).Ok := by
  obtain ⟨h1, h2, h3, h4, h5, h6, h7, h8, h9, h10, h11, h12, h13⟩ := h
  constructor <;> simp [atP] <;> omega

theorem rest_ok {p : Pr} (h : p.Ok) {n : Int} (hn : 0 ≤ n ∧ n ≤ 1099512676352) : (restP n p).Ok := by
  obtain ⟨h1, h2, h3, h4, h5, h6, h7, h8, h9, h10, h11, h12, h13⟩ := h
  constructor <;> simp [restP] <;> omega

theorem keeps_start (n : Int) : Keeps (startF n) (tickB n) := by
  intro hm p p' h hf
  have hn := tickB_true hm
  unfold startF at hf
  obtain ⟨_, rfl⟩ := some_ite hf
  obtain ⟨h1, h2, h3, h4, h5, h6, h7, h8, h9, h10, h11, h12, h13⟩ := h
  unfold startP
  split <;> constructor <;> simp <;> omega

theorem keeps_stop : Keeps stopF true := by
  intro _ p p' h hf
  unfold stopF at hf
  obtain ⟨_, rfl⟩ := some_ite hf
  exact sleep_ok h

theorem awake_of {p : Pr} (h : (p.st != 0) = true) : p.st ≠ 0 := by simpa using h

theorem keeps_susp : Keeps suspF true := by
  intro _ p p' h hf
  unfold suspF at hf
  obtain ⟨hc, rfl⟩ := some_ite hf
  simp only [Bool.and_eq_true] at hc
  have hst := awake_of hc.1
  obtain ⟨h1, h2, h3, h4, h5, h6, h7, h8, h9, h10, h11, h12, h13⟩ := h
  constructor <;> simp <;> omega

theorem keeps_resu : Keeps resuF true := by
  intro _ p p' h hf
  unfold resuF at hf
  obtain ⟨hc, rfl⟩ := some_ite hf
  simp only [Bool.and_eq_true] at hc
  have hst := awake_of hc.1
  obtain ⟨h1, h2, h3, h4, h5, h6, h7, h8, h9, h10, h11, h12, h13⟩ := h
  constructor <;> simp <;> omega

theorem keeps_wait (n : Int) : Keeps (waitF n) (decide (n ≤ 1099511627776)) := by
  intro hm p p' h hf
  have hn : n ≤ 1099511627776 := by simpa using hm
  unfold waitF at hf
  obtain ⟨hc, rfl⟩ := some_ite hf
  obtain ⟨h1, h2, h3, h4, h5, h6, h7, h8, h9, h10, h11, h12, h13⟩ := h
  constructor <;> simp <;> (try split) <;> omega

theorem keeps_wake : Keeps wakeF true := by
  intro _ p p' h hf
  unfold wakeF at hf
  obtain ⟨hc, rfl⟩ := some_ite hf
  obtain ⟨h1, h2, h3, h4, h5, h6, h7, h8, h9, h10, h11, h12, h13⟩ := h
  constructor <;> simp <;> omega

theorem keeps_rele (n : Int) : Keeps (releF n) (tickB n) := by
  intro hm p p' h hf
  have hn := tickB_true hm
  unfold releF at hf
  obtain ⟨hc, rfl⟩ := some_ite hf
  simp only [Bool.and_eq_true, beq_iff_eq, decide_eq_true_eq] at hc
  have h3 := h.rest hc.1
  exact at_ok h ⟨h3.2.2.2, by omega⟩

theorem keeps_done (n : Int) : Keeps (doneF n) (tickB n) := by
  intro hm p p' h hf
  have hn := tickB_true hm
  unfold doneF at hf
  obtain ⟨hc, rfl⟩ := some_ite hf
  have hp := h.per
  have hb := h.beg
  unfold doneP
  split
  · exact sleep_ok h
  split
  · exact at_ok h (by omega)
  · exact rest_ok h (by omega)

theorem keeps_charge (n : Int) : Keeps (chargeF n) (tickB n) := by
  intro hm p p' h hf
  have hn := tickB_true hm
  unfold chargeF at hf
  obtain ⟨hc, rfl⟩ := some_ite hf
  have hst : p.st = 1 ∨ p.st = 2 := by simpa using hc
  obtain ⟨h1, h2, h3, h4, h5, h6, h7, h8, h9, h10, h11, h12, h13⟩ := h
  unfold usedN
  constructor <;> simp <;> (try split) <;> omega

theorem keeps_setp (n : Int) : Keeps (setpF n) (inB n 1 63) := by
  intro hm p p' h hf
  have hn : 1 ≤ n ∧ n ≤ 63 := by simpa [inB] using hm
  unfold setpF at hf
  obtain ⟨hc, rfl⟩ := some_ite hf
  have hst := awake_of hc
  obtain ⟨h1, h2, h3, h4, h5, h6, h7, h8, h9, h10, h11, h12, h13⟩ := h
  constructor <;> simp <;> omega

theorem keeps_rais (n : Int) : Keeps (raisF n) (inB n 0 63) := by
  intro hm p p' h hf
  have hn : 0 ≤ n ∧ n ≤ 63 := by simpa [inB] using hm
  unfold raisF at hf
  obtain ⟨hc, rfl⟩ := some_ite hf
  have hst := awake_of hc
  obtain ⟨h1, h2, h3, h4, h5, h6, h7, h8, h9, h10, h11, h12, h13⟩ := h
  constructor <;> simp <;> omega

theorem mark_ok {p : Pr} (now : Int) (h : p.Ok) : (markP now p).Ok := by
  unfold markP
  split
  · rename_i hm
    have hst : p.st = 1 ∨ p.st = 2 := by
      simp only [missB, Pr.busyB, Bool.and_eq_true, Bool.or_eq_true, beq_iff_eq] at hm
      exact hm.2.1
    obtain ⟨h1, h2, h3, h4, h5, h6, h7, h8, h9, h10, h11, h12, h13⟩ := h
    constructor <;> simp <;> omega
  · exact h

theorem Apart.below {B g : Nat} {w w' : World} (h : Apart B w w' g) (hg : B ≤ g) : Below B w w' := ⟨h.os, h.tape, h.output, h.size, fun k hk => h.block k hk (by omega)⟩

end Go.Proofs.Ytgnjenmicojgnaa
