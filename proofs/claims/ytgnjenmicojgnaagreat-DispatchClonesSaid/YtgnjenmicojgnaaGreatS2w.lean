/-
  The plain law of Advance: each process that is due is released or woken.
-/
import Derived.Test.YtgnjenmicojgnaaGreatS1w
namespace Go.Proofs.YtgnjenmicojgnaaGreat
set_option linter.unusedVariables false
set_option linter.unusedSimpArgs false
open Go.RowKit

def advP (now : Int) (ps : List Pr) (i : Int) : List Pr := if (act (releF now) (tickB now) ps i).2 = 0 then (act (releF now) (tickB now) ps i).1 else (act wakeF true (act (releF now) (tickB now) ps i).1 i).1

theorem advP_rele {now i : Int} {ps ps' : List Pr} (h : act (releF now) (tickB now) ps i = (ps', 0)) : advP now ps i = ps' := by unfold advP; rw [h]; exact if_pos rfl
theorem advP_wake {now i : Int} {ps ps1 ps' : List Pr} {x y : Int} (h : act (releF now) (tickB now) ps i = (ps1, x)) (hx : x ≠ 0) (h2 : act wakeF true ps1 i = (ps', y)) : advP now ps i = ps' := by
  unfold advP
  rw [h]
  simp only [hx, if_false, h2]

theorem get_of_in {ps : List Pr} {i : Int} (h0 : 0 ≤ i) (h1 : i < ps.length) : ps[i.toNat]? = some (lookP ps i) := by
  unfold lookP
  rw [if_neg (by omega), List.getElem?_eq_getElem (by omega)]
  rfl

theorem act_some {f : Pr → Option Pr} {may : Bool} {ps : List Pr} {i : Int} {p' : Pr} (h0 : 0 ≤ i) (h1 : i < ps.length) (hm : may = true) (hf : f (lookP ps i) = some p') : act f may ps i = (ps.set i.toNat p', 0) := by
  unfold act
  rw [if_neg (by omega), if_neg (by simp [hm]), get_of_in h0 h1]
  simp [hf]
theorem act_none' {f : Pr → Option Pr} {may : Bool} {ps : List Pr} {i : Int} (h0 : 0 ≤ i) (h1 : i < ps.length) (hm : may = true) (hf : f (lookP ps i) = none) : act f may ps i = (ps, 10) := by
  unfold act
  rw [if_neg (by omega), if_neg (by simp [hm]), get_of_in h0 h1]
  simp [hf]

section
variable {ps : List Pr} {R : Nat → List Int} {H T : List (Int × Int)} {i a now : Int}

theorem rmQ_mid (h : ((H ++ (i, a) :: T).map Prod.fst).Nodup) : rmQ (H ++ (i, a) :: T) i = H ++ T ∧ i ∉ H.map Prod.fst := by
  rw [List.map_append, List.map_cons, List.nodup_append] at h
  obtain ⟨h1, h2, h3⟩ := h
  rw [List.nodup_cons] at h2
  have hH : i ∉ H.map Prod.fst := fun hm => h3 i hm i (List.mem_cons_self ..) rfl
  refine ⟨?_, hH⟩
  have e1 := rmQ_out hH
  have e2 := rmQ_out h2.1
  unfold rmQ at e1 e2 ⊢
  rw [List.filter_append, List.filter_cons, e1]
  simp [e2]

theorem RInv.adv (h : RInv ps R (H ++ (i, a) :: T)) (ha : a ≤ now) (hn : 0 ≤ now ∧ now ≤ 1099511627776) :
    ∃ p2, (act (releF now) (tickB now) ps i = (ps.set i.toNat p2, 0) ∨ (act (releF now) (tickB now) ps i = (ps, 10) ∧ act wakeF true ps i = (ps.set i.toNat p2, 0))) ∧ advP now ps i = ps.set i.toNat p2 ∧ 0 ≤ i ∧ i < ps.length ∧
      untilB p2 = false ∧ lookP (ps.set i.toNat p2) i = p2 ∧ i ∉ H.map Prod.fst ∧ RInv (ps.set i.toNat p2) (newR p2 i R) (H ++ T) := by
  obtain ⟨h0, h1, hub, hur⟩ := (h.tm i a).1 (List.mem_append.2 (.inr (List.mem_cons_self ..)))
  have hpo := h.ok (lookP ps i) (List.mem_of_getElem? (get_of_in h0 h1))
  obtain ⟨hmid, hH⟩ := rmQ_mid h.ndD
  have htk : tickB now = true := by simp [tickB, inB, hn.1, hn.2]
  have key : ∀ p2 : Pr, p2.Ok → untilB p2 = false → (stateR (lookP ps i) ≠ 1) → lookP (ps.set i.toNat p2) i = p2 ∧ RInv (ps.set i.toNat p2) (newR p2 i R) (H ++ T) := by
    intro p2 hok2 hu2 hns
    refine ⟨by rw [lookP_set h0 h1 h0, if_pos rfl], ?_⟩
    have := h.put h0 h1 hok2 (fun hs => absurd hs hns)
    unfold newD at this
    rw [hu2, if_neg (by simp), hmid] at this
    exact this
  obtain ⟨p, hp⟩ : ∃ p, lookP ps i = p := ⟨_, rfl⟩
  rw [hp] at hub hur hpo key
  unfold untilB at hub
  simp only [decide_eq_true_eq] at hub
  have hns : stateR p ≠ 1 := by
    unfold stateR
    split
    · decide
    · rcases hub with h3 | h2
      · rw [h3]; decide
      · rw [h2.1]; decide
  unfold untilR at hur
  rw [if_pos hub] at hur
  rcases hub with h3 | ⟨h2, h2t⟩
  · have hf : releF now (lookP ps i) = some (atP p.til p) := by
      rw [hp]
      unfold releF
      rw [if_pos (by simp [h3]; omega)]
    have h3r := hpo.rest h3
    obtain ⟨k1, k2⟩ := key (atP p.til p) (at_ok hpo ⟨h3r.2.2.2, by omega⟩) rfl hns
    have hact := act_some (may := tickB now) h0 h1 htk hf
    exact ⟨atP p.til p, .inl hact, advP_rele hact, h0, h1, rfl, k1, hH, k2⟩
  · have hf : releF now (lookP ps i) = none := by
      rw [hp]
      unfold releF
      rw [if_neg (by simp [h2])]
    have hf2 : wakeF (lookP ps i) = some { p with st := 1 } := by
      rw [hp]
      unfold wakeF
      rw [if_pos (by simp [h2])]
    have hok2 : ({ p with st := 1 } : Pr).Ok := keeps_wake rfl p _ hpo (by rw [hp] at hf2; exact hf2)
    obtain ⟨k1, k2⟩ := key { p with st := 1 } hok2 (by simp [untilB]) hns
    have hact := act_none' (may := tickB now) h0 h1 htk hf
    have hact2 := act_some (may := true) h0 h1 rfl hf2
    exact ⟨_, .inr ⟨hact, hact2⟩, advP_wake hact (by decide) hact2, h0, h1, by simp [untilB], k1, hH, k2⟩
end

/-- What Advance makes of the table and the rows, process by process. -/
def advL (now : Int) : List Int → List Pr × (Nat → List Int) → List Pr × (Nat → List Int)
  | [], s => s
  | i :: r, s => advL now r (advP now s.1 i, newR (lookP (advP now s.1 i) i) i s.2)

theorem advL_snoc (now i : Int) : ∀ (xs : List Int) (s : List Pr × (Nat → List Int)), advL now (xs ++ [i]) s = (advP now (advL now xs s).1 i, newR (lookP (advP now (advL now xs s).1 i) i) i (advL now xs s).2)
  | [], s => rfl
  | x :: r, s => by rw [List.cons_append, advL, advL_snoc now i r]; rfl

theorem lo_hi_perm (now : Int) (D : List (Int × Int)) : (hi now D ++ srt (lo now D)).Perm D := by
  have h1 : (hi now D ++ srt (lo now D)).Perm (hi now D ++ lo now D) := (srt_perm _).append_left _
  refine h1.trans ?_
  have h2 : hi now D = D.filter (fun q => !(decide (q.2 ≤ now))) := by
    unfold hi
    congr 1
    funext q
    by_cases h : q.2 ≤ now
    · simp [h]
      try omega
    · simp [h]
      try omega
  rw [h2]
  exact (List.perm_append_comm).trans (List.filter_append_perm (fun q : Int × Int => decide (q.2 ≤ now)) D)

theorem RInv.perm {ps : List Pr} {R : Nat → List Int} {D D' : List (Int × Int)} (h : RInv ps R D) (hp : D'.Perm D) : RInv ps R D' :=
  ⟨h.len, h.ok, h.nd, h.mem, (hp.map Prod.fst).nodup_iff.2 h.ndD, fun i a => by rw [hp.mem_iff]; exact h.tm i a⟩

/-- The state when Advance begins: those that are due, behind the others. -/
theorem RInv.due {ps : List Pr} {R : Nat → List Int} {D : List (Int × Int)} (h : RInv ps R D) (now : Int) : RInv ps R (hi now D ++ srt (lo now D)) := h.perm (lo_hi_perm now D)

theorem lo_le {now : Int} {D : List (Int × Int)} {q : Int × Int} (h : q ∈ srt (lo now D)) : q.2 ≤ now := by
  have := (mem_srt _ _).1 h
  unfold lo at this
  rw [List.mem_filter] at this
  simpa using this.2

end Go.Proofs.YtgnjenmicojgnaaGreat
