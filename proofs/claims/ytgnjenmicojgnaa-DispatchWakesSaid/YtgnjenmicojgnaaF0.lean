/-
  The plain law behind ProcSame and ProcPlays: a process of the table and one of the document say the same, whatever is done to both.
-/
import Derived.Test.YtgnjenmicojgnaaD1
import Derived.Test.YtgnjenmicojgnaaD2
import Derived.Test.YtgnjenmicojgnaaE2
import Derived.Test.YtgnjenmicojgnaaC4
namespace Go.Proofs.Ytgnjenmicojgnaa
set_option linter.unusedVariables false
set_option linter.unusedSimpArgs false
open Go.RowKit

structure Rel (p : Pr) (r : Rf) : Prop where
  pri : r.pri = p.pri
  per : r.per = p.per
  cap : r.cap = p.cap
  dl : r.dl = p.dl
  off : r.off = p.off
  st : r.st = p.st
  held : r.held = p.held
  base : r.base = if p.st = 0 then p.pri else p.base
  raised : r.raised = p.raised
  til : r.til = if p.st = 2 ∨ p.st = 3 then p.til else 0
  beg : p.st ≠ 3 → r.beg = p.beg
  used : p.st ≠ 3 → r.used = p.used
  missed : p.st ≠ 3 → r.missed = p.missed
  ok : r.Ok

theorem rel_fresh {a : At} (h : a.may = true) : Rel (prOf a) ⟨a.pri, a.per, a.cap, a.dl, a.off, 0, false, 0, 0, 0, false, a.pri, 0⟩ := by
  simp only [At.may, mayB, inB, Bool.and_eq_true, decide_eq_true_eq] at h
  refine ⟨rfl, rfl, rfl, rfl, rfl, rfl, rfl, rfl, rfl, rfl, fun _ => rfl, fun _ => rfl, fun _ => rfl, ⟨?_, ?_, ?_, ?_, ?_, ?_⟩⟩ <;> simp <;> omega

theorem rel_stop {p : Pr} {r : Rf} (hp : p.Ok) (h : Rel p r) : (stopR r).2 = codeP stopF true p ∧ Rel (stepP stopF true p) (stopR r).1 := by
  have hr := h
  obtain ⟨e1, e2, e3, e4, e5, e6, e7, e8, e9, e10, e11, e12, e13, ho⟩ := h
  obtain ⟨o1, o2, o3, o4, o5, o6⟩ := id ho
  unfold stopR codeP stepP stopF
  by_cases h0 : p.st = 0
  · simp [e6, h0]; exact hr
  · simp [e6, h0]
    clear hr
    (constructor <;> first | with_reducible assumption | with_reducible rfl | (simp_all [freshR, relR, sleepP, atP, restP]; done) | (simp_all [freshR, relR, sleepP, atP, restP]; omega) | (constructor <;> first | with_reducible assumption | (simp_all [freshR, relR, sleepP, atP, restP]; done) | (simp_all [freshR, relR, sleepP, atP, restP]; omega)))

theorem rel_susp {p : Pr} {r : Rf} (hp : p.Ok) (h : Rel p r) : (holdR true r).2 = codeP suspF true p ∧ Rel (stepP suspF true p) (holdR true r).1 := by
  have hr := h
  obtain ⟨e1, e2, e3, e4, e5, e6, e7, e8, e9, e10, e11, e12, e13, ho⟩ := h
  obtain ⟨o1, o2, o3, o4, o5, o6⟩ := id ho
  unfold holdR codeP stepP suspF
  by_cases h0 : p.st = 0
  · simp [e6, h0]; exact hr
  · cases hh : p.held
    · simp [e6, e7, h0, hh]
      (constructor <;> first | with_reducible assumption | with_reducible rfl | (simp_all [freshR, relR, sleepP, atP, restP]; done) | (simp_all [freshR, relR, sleepP, atP, restP]; omega) | (constructor <;> first | with_reducible assumption | (simp_all [freshR, relR, sleepP, atP, restP]; done) | (simp_all [freshR, relR, sleepP, atP, restP]; omega)))
    · simp [e6, e7, h0, hh]; exact hr

theorem rel_resu {p : Pr} {r : Rf} (hp : p.Ok) (h : Rel p r) : (holdR false r).2 = codeP resuF true p ∧ Rel (stepP resuF true p) (holdR false r).1 := by
  have hr := h
  obtain ⟨e1, e2, e3, e4, e5, e6, e7, e8, e9, e10, e11, e12, e13, ho⟩ := h
  obtain ⟨o1, o2, o3, o4, o5, o6⟩ := id ho
  unfold holdR codeP stepP resuF
  by_cases h0 : p.st = 0
  · simp [e6, h0]; exact hr
  · cases hh : p.held
    · simp [e6, e7, h0, hh]; exact hr
    · simp [e6, e7, h0, hh]
      (constructor <;> first | with_reducible assumption | with_reducible rfl | (simp_all [freshR, relR, sleepP, atP, restP]; done) | (simp_all [freshR, relR, sleepP, atP, restP]; omega) | (constructor <;> first | with_reducible assumption | (simp_all [freshR, relR, sleepP, atP, restP]; done) | (simp_all [freshR, relR, sleepP, atP, restP]; omega)))

theorem rel_wake {p : Pr} {r : Rf} (hp : p.Ok) (h : Rel p r) : (wakeR r).2 = codeP wakeF true p ∧ Rel (stepP wakeF true p) (wakeR r).1 := by
  have hr := h
  obtain ⟨e1, e2, e3, e4, e5, e6, e7, e8, e9, e10, e11, e12, e13, ho⟩ := h
  obtain ⟨o1, o2, o3, o4, o5, o6⟩ := id ho
  unfold wakeR codeP stepP wakeF
  by_cases h0 : p.st = 2
  · simp [e6, h0]
    simp [h0] at e8 e11 e12 e13
    (constructor <;> first | with_reducible assumption | with_reducible rfl | (simp_all [freshR, relR, sleepP, atP, restP]; done) | (simp_all [freshR, relR, sleepP, atP, restP]; omega) | (constructor <;> first | with_reducible assumption | (simp_all [freshR, relR, sleepP, atP, restP]; done) | (simp_all [freshR, relR, sleepP, atP, restP]; omega)))
  · simp [e6, h0]; exact hr

theorem rel_start {p : Pr} {r : Rf} (n : Int) (hp : p.Ok) (h : Rel p r) : (startR n r).2 = codeP (startF n) (tickB n) p ∧ Rel (stepP (startF n) (tickB n) p) (startR n r).1 := by
  have hr := h
  obtain ⟨e1, e2, e3, e4, e5, e6, e7, e8, e9, e10, e11, e12, e13, ho⟩ := h
  obtain ⟨o1, o2, o3, o4, o5, o6⟩ := id ho
  unfold startR codeP stepP startF
  cases ht : tickB n with
  | false => simp; exact hr
  | true =>
    have hn := tickB_true ht
    by_cases h0 : p.st = 0
    · by_cases h1 : p.off = 0
      · simp [e6, h0, e5, h1, startP]
        (constructor <;> first | with_reducible assumption | with_reducible rfl | (simp_all [freshR, relR, sleepP, atP, restP]; done) | (simp_all [freshR, relR, sleepP, atP, restP]; omega) | (constructor <;> first | with_reducible assumption | (simp_all [freshR, relR, sleepP, atP, restP]; done) | (simp_all [freshR, relR, sleepP, atP, restP]; omega)))
      · simp [e6, h0, e5, h1, startP]
        (constructor <;> first | with_reducible assumption | with_reducible rfl | (simp_all [freshR, relR, sleepP, atP, restP]; done) | (simp_all [freshR, relR, sleepP, atP, restP]; omega) | (constructor <;> first | with_reducible assumption | (simp_all [freshR, relR, sleepP, atP, restP]; done) | (simp_all [freshR, relR, sleepP, atP, restP]; omega)))
    · simp [e6, h0]; exact hr

theorem rel_free {p : Pr} {r : Rf} (h : Rel p r) : rstate r = 1 ↔ (p.st == 1 && !p.held) = true := by
  unfold rstate
  rw [h.st, h.held]
  cases p.held <;> by_cases h1 : p.st = 1 <;> simp [h1]
  split <;> omega

theorem rel_wait {p : Pr} {r : Rf} (n : Int) (hp : p.Ok) (h : Rel p r) : (waitR n r).2 = codeP (waitF n) (decide (n ≤ 1099511627776)) p ∧ Rel (stepP (waitF n) (decide (n ≤ 1099511627776)) p) (waitR n r).1 := by
  have hr := h
  have hf := rel_free h
  obtain ⟨e1, e2, e3, e4, e5, e6, e7, e8, e9, e10, e11, e12, e13, ho⟩ := h
  obtain ⟨o1, o2, o3, o4, o5, o6⟩ := id ho
  unfold waitR codeP stepP waitF
  by_cases h0 : n ≤ 1099511627776
  · rw [if_neg (by omega)]
    by_cases h1 : (p.st == 1 && !p.held) = true
    · have h2 := hf.2 h1
      simp only [Bool.and_eq_true, beq_iff_eq] at h1
      simp only [h0, decide_true, if_true, h1.1, h1.2, h2, not_true_eq_false, if_false]
      simp [h1.1] at e8 e11 e12 e13
      by_cases h3 : n < 0
      · simp [h3]
        (constructor <;> first | with_reducible assumption | with_reducible rfl | (simp_all [freshR, relR, sleepP, atP, restP]; done) | (simp_all [freshR, relR, sleepP, atP, restP]; omega) | (constructor <;> first | with_reducible assumption | (simp_all [freshR, relR, sleepP, atP, restP]; done) | (simp_all [freshR, relR, sleepP, atP, restP]; omega)))
      · simp [h3]
        (constructor <;> first | with_reducible assumption | with_reducible rfl | (simp_all [freshR, relR, sleepP, atP, restP]; done) | (simp_all [freshR, relR, sleepP, atP, restP]; omega) | (constructor <;> first | with_reducible assumption | (simp_all [freshR, relR, sleepP, atP, restP]; done) | (simp_all [freshR, relR, sleepP, atP, restP]; omega)))
    · have h2 : ¬ rstate r = 1 := fun e => h1 (hf.1 e)
      have h1' : (p.st == 1 && !p.held) = false := by simpa using h1
      simp only [h0, decide_true, if_true, h1', h2, not_false_eq_true]
      exact ⟨rfl, hr⟩
  · rw [if_pos (by omega)]
    simp [h0]
    exact hr

theorem rel_rele {p : Pr} {r : Rf} (n : Int) (hp : p.Ok) (h : Rel p r) : (releR n r).2 = codeP (releF n) (tickB n) p ∧ Rel (stepP (releF n) (tickB n) p) (releR n r).1 := by
  have hr := h
  obtain ⟨e1, e2, e3, e4, e5, e6, e7, e8, e9, e10, e11, e12, e13, ho⟩ := h
  obtain ⟨o1, o2, o3, o4, o5, o6⟩ := id ho
  unfold releR codeP stepP releF
  cases ht : tickB n with
  | false => simp; exact hr
  | true =>
    have hn := tickB_true ht
    by_cases h0 : p.st = 3
    · have e10' : r.til = p.til := by simpa [h0] using e10
      have e8' : r.base = p.base := by simpa [h0] using e8
      have hti := (hp.rest h0).2.2.2
      by_cases h1 : p.til ≤ n
      · have h2 : ¬ n < p.til := by omega
        simp [e6, h0, e10', h1, h2]
        (constructor <;> first | with_reducible assumption | with_reducible rfl | (simp_all [freshR, relR, sleepP, atP, restP]; done) | (simp_all [freshR, relR, sleepP, atP, restP]; omega) | (constructor <;> first | with_reducible assumption | (simp_all [freshR, relR, sleepP, atP, restP]; done) | (simp_all [freshR, relR, sleepP, atP, restP]; omega)))
      · have h2 : n < p.til := by omega
        simp [e6, h0, e10', h1, h2]
        exact hr
    · simp [e6, h0]; exact hr

theorem rel_done {p : Pr} {r : Rf} (n : Int) (hp : p.Ok) (h : Rel p r) : (doneRf n r).2.2 = codeP (doneF n) (tickB n) p ∧ (doneRf n r).2.1 = (if codeP (doneF n) (tickB n) p = 0 then doneN p else 0) ∧ Rel (stepP (doneF n) (tickB n) p) (doneRf n r).1 := by
  have hr := h
  have hf := rel_free h
  obtain ⟨e1, e2, e3, e4, e5, e6, e7, e8, e9, e10, e11, e12, e13, ho⟩ := h
  obtain ⟨o1, o2, o3, o4, o5, o6⟩ := id ho
  unfold doneRf codeP stepP doneF
  cases ht : tickB n with
  | false => simp; exact hr
  | true =>
    have hn := tickB_true ht
    by_cases h1 : (p.st == 1 && !p.held) = true
    · have h2 := hf.2 h1
      simp only [Bool.and_eq_true, beq_iff_eq] at h1
      have e8' : r.base = p.base := by simpa [h1.1] using e8
      have e11' : r.beg = p.beg := by simpa [h1.1] using e11
      have hb := hp.beg
      have hpe := hp.per
      simp only [h1.1, h1.2, h2, not_true_eq_false, if_false, if_true, Bool.true_eq_false]
      unfold doneP doneN
      by_cases h3 : p.per = 0
      · simp [e2, h3]
        (constructor <;> first | with_reducible assumption | with_reducible rfl | (simp_all [freshR, relR, sleepP, atP, restP]; done) | (simp_all [freshR, relR, sleepP, atP, restP]; omega) | (constructor <;> first | with_reducible assumption | (simp_all [freshR, relR, sleepP, atP, restP]; done) | (simp_all [freshR, relR, sleepP, atP, restP]; omega)))
      · by_cases h4 : p.beg + p.per ≤ n
        · simp [e2, e11', h3, h4]
          (constructor <;> first | with_reducible assumption | with_reducible rfl | (simp_all [freshR, relR, sleepP, atP, restP]; done) | (simp_all [freshR, relR, sleepP, atP, restP]; omega) | (constructor <;> first | with_reducible assumption | (simp_all [freshR, relR, sleepP, atP, restP]; done) | (simp_all [freshR, relR, sleepP, atP, restP]; omega)))
        · simp [e2, e11', h3, h4]
          (constructor <;> first | with_reducible assumption | with_reducible rfl | (simp_all [freshR, relR, sleepP, atP, restP]; done) | (simp_all [freshR, relR, sleepP, atP, restP]; omega) | (constructor <;> first | with_reducible assumption | (simp_all [freshR, relR, sleepP, atP, restP]; done) | (simp_all [freshR, relR, sleepP, atP, restP]; omega)))
    · have h2 : ¬ rstate r = 1 := fun e => h1 (hf.1 e)
      have h1' : (p.st == 1 && !p.held) = false := by simpa using h1
      simp [h1', h2]
      exact hr

theorem rel_charge {p : Pr} {r : Rf} (n : Int) (hp : p.Ok) (h : Rel p r) : (chargeRf n r).2 = (if (codeP (chargeF n) (tickB n) p = 0 ∧ overN n p = true) then 16 else codeP (chargeF n) (tickB n) p) ∧ Rel (stepP (chargeF n) (tickB n) p) (chargeRf n r).1 := by
  have hr := h
  obtain ⟨e1, e2, e3, e4, e5, e6, e7, e8, e9, e10, e11, e12, e13, ho⟩ := h
  obtain ⟨o1, o2, o3, o4, o5, o6⟩ := id ho
  unfold chargeRf codeP stepP chargeF
  have hst := hp.st
  cases ht : tickB n with
  | false => simp; exact hr
  | true =>
    have hn := tickB_true ht
    by_cases h1 : (p.st == 1 || p.st == 2) = true
    · have hs : p.st = 1 ∨ p.st = 2 := by simpa using h1
      have n0 : ¬ p.st = 0 := by omega
      have n3 : ¬ p.st = 3 := by omega
      have e12' : r.used = p.used := e12 n3
      have hu := hp.used
      simp only [h1, e6, n0, n3, e3, e12', if_false, if_true, Bool.true_eq_false, Option.getD_some, Option.isSome_some, true_and]
      unfold overN usedN
      by_cases a1 : 1099511627776 < p.used + n
      · have hc := hp.cap
        by_cases a2 : 0 < p.cap
        · simp [a1, a2]
          refine ⟨by omega, ?_⟩
          (constructor <;> first | with_reducible assumption | with_reducible rfl | (simp_all [freshR, relR, sleepP, atP, restP]; done) | (simp_all [freshR, relR, sleepP, atP, restP]; omega) | (constructor <;> first | with_reducible assumption | (simp_all [freshR, relR, sleepP, atP, restP]; done) | (simp_all [freshR, relR, sleepP, atP, restP]; omega)))
        · simp [a1, a2]
          (constructor <;> first | with_reducible assumption | with_reducible rfl | (simp_all [freshR, relR, sleepP, atP, restP]; done) | (simp_all [freshR, relR, sleepP, atP, restP]; omega) | (constructor <;> first | with_reducible assumption | (simp_all [freshR, relR, sleepP, atP, restP]; done) | (simp_all [freshR, relR, sleepP, atP, restP]; omega)))
      · by_cases a2 : 0 < p.cap ∧ p.cap < p.used + n
        · simp [a1, a2]
          (constructor <;> first | with_reducible assumption | with_reducible rfl | (simp_all [freshR, relR, sleepP, atP, restP]; done) | (simp_all [freshR, relR, sleepP, atP, restP]; omega) | (constructor <;> first | with_reducible assumption | (simp_all [freshR, relR, sleepP, atP, restP]; done) | (simp_all [freshR, relR, sleepP, atP, restP]; omega)))
        · simp [a1, a2]
          (constructor <;> first | with_reducible assumption | with_reducible rfl | (simp_all [freshR, relR, sleepP, atP, restP]; done) | (simp_all [freshR, relR, sleepP, atP, restP]; omega) | (constructor <;> first | with_reducible assumption | (simp_all [freshR, relR, sleepP, atP, restP]; done) | (simp_all [freshR, relR, sleepP, atP, restP]; omega)))
    · have hs : p.st = 0 ∨ p.st = 3 := by simp at h1; omega
      have h1' : (p.st == 1 || p.st == 2) = false := by simpa using h1
      rcases hs with hs | hs
      · simp [h1', e6, hs]; exact hr
      · simp [h1', e6, hs]; exact hr

theorem rel_setp {p : Pr} {r : Rf} (n : Int) (hp : p.Ok) (h : Rel p r) : (setpR n r).2 = codeP (setpF n) (inB n 1 63) p ∧ Rel (stepP (setpF n) (inB n 1 63) p) (setpR n r).1 := by
  have hr := h
  obtain ⟨e1, e2, e3, e4, e5, e6, e7, e8, e9, e10, e11, e12, e13, ho⟩ := h
  obtain ⟨o1, o2, o3, o4, o5, o6⟩ := id ho
  unfold setpR codeP stepP setpF inB
  by_cases h0 : n < 1
  · have : ¬ 1 ≤ n := by omega
    simp [h0, this]; exact hr
  · by_cases h1 : 63 < n
    · have : ¬ n ≤ 63 := by omega
      simp [h0, h1, this]; exact hr
    · have a1 : 1 ≤ n := by omega
      have a2 : n ≤ 63 := by omega
      by_cases h2 : p.st = 0
      · simp [h0, h1, a1, a2, e6, h2]; exact hr
      · simp [h0, h1, a1, a2, e6, h2]
        (constructor <;> first | with_reducible assumption | with_reducible rfl | (simp_all [freshR, relR, sleepP, atP, restP]; done) | (simp_all [freshR, relR, sleepP, atP, restP]; omega) | (constructor <;> first | with_reducible assumption | (simp_all [freshR, relR, sleepP, atP, restP]; done) | (simp_all [freshR, relR, sleepP, atP, restP]; omega)))

theorem rel_rais {p : Pr} {r : Rf} (n : Int) (hp : p.Ok) (h : Rel p r) : (raisR n r).2 = codeP (raisF n) (inB n 0 63) p ∧ Rel (stepP (raisF n) (inB n 0 63) p) (raisR n r).1 := by
  have hr := h
  obtain ⟨e1, e2, e3, e4, e5, e6, e7, e8, e9, e10, e11, e12, e13, ho⟩ := h
  obtain ⟨o1, o2, o3, o4, o5, o6⟩ := id ho
  unfold raisR codeP stepP raisF inB
  by_cases h0 : n < 0
  · have : ¬ 0 ≤ n := by omega
    simp [h0, this]; exact hr
  · by_cases h1 : 63 < n
    · have : ¬ n ≤ 63 := by omega
      simp [h0, h1, this]; exact hr
    · have a1 : 0 ≤ n := by omega
      have a2 : n ≤ 63 := by omega
      by_cases h2 : p.st = 0
      · simp [h0, h1, a1, a2, e6, h2]; exact hr
      · simp [h0, h1, a1, a2, e6, h2]
        (constructor <;> first | with_reducible assumption | with_reducible rfl | (simp_all [freshR, relR, sleepP, atP, restP]; done) | (simp_all [freshR, relR, sleepP, atP, restP]; omega) | (constructor <;> first | with_reducible assumption | (simp_all [freshR, relR, sleepP, atP, restP]; done) | (simp_all [freshR, relR, sleepP, atP, restP]; omega)))

end Go.Proofs.Ytgnjenmicojgnaa
