/-
  The plain law of one call of one process: the row and the timers of a Dispatch and of a World go along.
-/
import Derived.Test.YtgnjenmicojgnaaGreatS3w
import Derived.Test.YtgnjenmicojgnaaGreatT3w
namespace Go.Proofs.YtgnjenmicojgnaaGreat
set_option linter.unusedVariables false
set_option linter.unusedSimpArgs false
open Go.RowKit

theorem act_get {f : Pr → Option Pr} {may : Bool} {ps ps' : List Pr} {i : Int} (h : act f may ps i = (ps', 0)) : may = true ∧ 0 ≤ i ∧ i < ps.length ∧ ∃ p', f (lookP ps i) = some p' ∧ ps' = ps.set i.toNat p' := by
  obtain ⟨h0, h1⟩ := act_pos h
  unfold act at h
  rw [if_neg (by omega)] at h
  by_cases hm : may = false
  · rw [if_pos hm] at h
    injection h with _ h
    cases h
  · rw [if_neg hm, get_of_in h0 h1] at h
    refine ⟨by simpa using hm, h0, h1, ?_⟩
    cases hf : f (lookP ps i) with
    | none =>
      simp [hf] at h
    | some p' =>
      simp [hf] at h
      exact ⟨p', rfl, h.symm⟩

theorem act_err {f : Pr → Option Pr} {may : Bool} {ps ps' : List Pr} {i y : Int} (h : act f may ps i = (ps', y)) (hy : y ≠ 0) : ps' = ps := by
  unfold act at h
  split at h
  · injection h with h _; exact h.symm
  split at h
  · injection h with h _; exact h.symm
  · split at h
    · injection h with h _; exact h.symm
    · injection h with _ h; exact absurd h.symm hy

/-- Whether settle is told that it comes anew. -/
def frK (k : Nat) : Bool := k == 4 || k == 6 || k == 0

/-- What a call's function makes of a process (but Done). -/
structure KCl (fr : Bool) (p p' : Pr) : Prop where
  ok : p'.Ok
  one : stateR p = 1 → stateR p' = 1 → False
  fresh : fr = true → untilB p = false

theorem held_of {p : Pr} (hp : p.Ok) (h : p.st = 0) : p.held = false := (hp.dorm h).1

theorem kcl {k : Nat} (hk : k < 6) {n now : Int} {ps ps' : List Pr} {i : Int} (hok : ∀ p, p ∈ ps → p.Ok) (h : kAct k n now ps i = (ps', 0)) :
    0 ≤ i ∧ i < ps.length ∧ ∃ p', ps' = ps.set i.toNat p' ∧ KCl (frK k) (lookP ps i) p' := by
  have mk : ∀ (fr : Bool) {f : Pr → Option Pr} {may : Bool}, Keeps f may → act f may ps i = (ps', 0) → (∀ p p', p.Ok → f p = some p' → (stateR p = 1 → stateR p' = 1 → False) ∧ (fr = true → untilB p = false)) → 0 ≤ i ∧ i < ps.length ∧ ∃ p', ps' = ps.set i.toNat p' ∧ KCl fr (lookP ps i) p' := by
    intro fr f may hK ha hc
    obtain ⟨hm, h0, h1, p', hf, rfl⟩ := act_get ha
    have hp := hok _ (List.mem_of_getElem? (get_of_in h0 h1))
    obtain ⟨c1, c2⟩ := hc _ _ hp hf
    exact ⟨h0, h1, p', rfl, hK hm _ _ hp hf, c1, c2⟩
  match k, hk, h with
  | 0, _, h =>
    refine mk (frK 0) (keeps_start now) h (fun p p' hp hf => ?_)
    unfold startF at hf
    obtain ⟨hs, rfl⟩ := some_ite hf
    have hs : p.st = 0 := by simpa using hs
    refine ⟨fun h1 _ => ?_, fun _ => by simp [untilB, hs]⟩
    unfold stateR at h1
    rw [held_of hp hs, hs] at h1
    simp at h1
  | 1, _, h =>
    refine mk (frK 1) keeps_stop h (fun p p' hp hf => ?_)
    unfold stopF at hf
    obtain ⟨hs, rfl⟩ := some_ite hf
    exact ⟨fun _ h1 => by simp [stateR, sleepP] at h1, fun h => by cases h⟩
  | 2, _, h =>
    refine mk (frK 2) keeps_susp h (fun p p' hp hf => ?_)
    unfold suspF at hf
    obtain ⟨hs, rfl⟩ := some_ite hf
    exact ⟨fun _ h1 => by simp [stateR] at h1, fun h => by cases h⟩
  | 3, _, h =>
    refine mk (frK 3) keeps_resu h (fun p p' hp hf => ?_)
    unfold resuF at hf
    obtain ⟨hs, rfl⟩ := some_ite hf
    simp at hs
    exact ⟨fun h1 _ => by simp [stateR, hs.2] at h1, fun h => by cases h⟩
  | 4, _, h =>
    refine mk (frK 4) (keeps_wait _) h (fun p p' hp hf => ?_)
    unfold waitF at hf
    obtain ⟨hs, rfl⟩ := some_ite hf
    simp at hs
    refine ⟨fun _ h1 => by simp [stateR, hs.2] at h1, fun _ => by simp [untilB, hs.1]⟩
  | 5, _, h =>
    refine mk (frK 5) keeps_wake h (fun p p' hp hf => ?_)
    unfold wakeF at hf
    obtain ⟨hs, rfl⟩ := some_ite hf
    simp at hs
    refine ⟨fun h1 _ => ?_, fun h => by cases h⟩
    unfold stateR at h1
    rw [hs] at h1
    split at h1 <;> simp at h1
  | k + 6, hk, _ => exact absurd hk (by omega)

theorem kcl6 {n now : Int} {ps ps' : List Pr} {i : Int} (hok : ∀ p, p ∈ ps → p.Ok) (h : kAct 6 n now ps i = (ps', 0)) :
    0 ≤ i ∧ i < ps.length ∧ ∃ p', ps' = ps.set i.toNat p' ∧ p'.Ok ∧ untilB (lookP ps i) = false := by
  have h' : act (doneF now) (tickB now) ps i = (ps', 0) := h
  obtain ⟨hm, h0, h1, p', hf, rfl⟩ := act_get h'
  have hp := hok _ (List.mem_of_getElem? (get_of_in h0 h1))
  refine ⟨h0, h1, p', rfl, keeps_done now hm _ _ hp hf, ?_⟩
  unfold doneF at hf
  obtain ⟨hs, -⟩ := some_ite hf
  simp at hs
  simp [untilB, hs.1]

theorem kAct_err {k : Nat} {n now : Int} {ps ps' : List Pr} {i y : Int} (h : kAct k n now ps i = (ps', y)) (hy : y ≠ 0) : ps' = ps := by
  unfold kAct at h
  split at h <;> exact act_err h hy

/-- One call of one process: what follow makes of the Dispatch, settle of the World. -/
structure KStep (k : Nat) (ps ps' : List Pr) (R R' : Nat → List Int) (D D' : List (Int × Int)) (i : Int) : Prop where
  inv : RInv ps' R' D'
  r : newR (lookP ps' i) i (askR k 0 i R) = R'
  q : newQ (lookP ps' i) i (srt D) = srt D'
  e : setE (frK k) (lookP ps' i) i (rowE R) = rowE R'
  d : setD (frK k) (lookP ps' i) i D = D'
  len : ps'.length = ps.length

theorem kstep {k : Nat} (hk : k < 7) {n now : Int} {ps ps' : List Pr} {R : Nat → List Int} {D : List (Int × Int)} {i : Int} (h : RInv ps R D) (ha : kAct k n now ps i = (ps', 0)) :
    ∃ R' D', KStep k ps ps' R R' D D' i := by
  by_cases h6 : k = 6
  · subst h6
    obtain ⟨h0, h1, p', rfl, hok, hub⟩ := kcl6 h.ok ha
    have hlk : lookP (ps.set i.toNat p') i = p' := by rw [lookP_set h0 h1 h0, if_pos rfl]
    have hni : i ∉ D.map Prod.fst := fun hm => by
      obtain ⟨q, hq, e⟩ := List.mem_map.1 hm
      have := (h.tm q.1 q.2).1 hq
      rw [e, hub] at this
      cases this.2.2.1
    refine ⟨_, _, h.put2 h0 h1 hok, ?_, ?_, ?_, ?_, by simp⟩
    · rw [hlk]; rfl
    · rw [hlk]; exact newQ_srt h.ndD p' i
    · rw [hlk]; exact h.setE2 hok
    · rw [hlk]; exact h.setD (frK 6) (fun _ _ => hni)
  · obtain ⟨h0, h1, p', rfl, hc⟩ := kcl (by omega) h.ok ha
    have hlk : lookP (ps.set i.toNat p') i = p' := by rw [lookP_set h0 h1 h0, if_pos rfl]
    have hR : askR k 0 i R = R := if_neg h6
    refine ⟨_, _, h.put h0 h1 hc.ok (fun a b => absurd b (fun b => hc.one a b)), ?_, ?_, ?_, ?_, by simp⟩
    · rw [hlk, hR]
    · rw [hlk]; exact newQ_srt h.ndD p' i
    · rw [hlk]
      by_cases hs : stateR p' = 1
      · exact h.setE (frK k) hc.ok (fun _ => by rw [h.prio_at h0 h1, if_neg (fun a => hc.one a hs)])
      · unfold setE
        rw [if_neg hs, newR_out hs, h.rowE_rm]
    · rw [hlk]
      refine h.setD (frK k) (fun hf _ hm => ?_)
      obtain ⟨q, hq, e⟩ := List.mem_map.1 hm
      have := (h.tm q.1 q.2).1 hq
      rw [e, hc.fresh hf] at this
      cases this.2.2.1

end Go.Proofs.YtgnjenmicojgnaaGreat
