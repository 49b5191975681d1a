/-
  The plain law of a World: its row and its timers go along with a Dispatch's.
-/
import Derived.Test.YtgnjenmicojgnaaGreatT1w
namespace Go.Proofs.YtgnjenmicojgnaaGreat
set_option linter.unusedVariables false
set_option linter.unusedSimpArgs false
open Go.RowKit

/-- The row behind another priority. -/
def prE (b : Bool) (p : Pr) (i was : Int) (E : List (Int × Int)) : List (Int × Int) :=
  if stateR p = 1 ∧ curR p ≠ was then insW (fun y => if b = true then decide (curR p < y) else decide (curR p ≤ y)) (rmQ E i) (i, curR p) else E

section
variable {ps : List Pr} {R : Nat → List Int} {D : List (Int × Int)} {i : Int} {p' : Pr}

theorem rowE_none (h : RInv ps R D) (hn : prio R i = none) : i ∉ (rowE R).map Prod.fst := by
  rw [h.ids_mem]
  rintro ⟨p, hp⟩
  exact h.prio_not.1 hn p hp
theorem rowE_some (h : RInv ps R D) {q : Nat} (hn : prio R i = some q) : i ∈ (rowE R).map Prod.fst := by
  rw [h.ids_mem]
  exact ⟨q, h.prio_iff.1 hn⟩

theorem RInv.setE (h : RInv ps R D) (fr : Bool) (hok : p'.Ok) (hf : fr = true → prio R i = none) : setE fr p' i (rowE R) = rowE (newR p' i R) := by
  have hc := cur_of_ok hok
  unfold Go.Proofs.YtgnjenmicojgnaaGreat.setE
  by_cases hs : stateR p' = 1
  · rw [if_pos hs]
    cases hp : prio R i with
    | none =>
      have hn := rowE_none h hp
      rw [if_pos (.inl hn), newR_none hs hp, rowE_back _ _ _ (by omega), rmQ_out hn]
      rw [show ((curR p').toNat : Int) = curR p' by omega]
    | some q =>
      have hm := rowE_some h hp
      rw [if_neg, newR_in hs hp]
      rintro (h1 | h1)
      · exact h1 hm
      · rw [hf h1] at hp; cases hp
  · rw [if_neg hs, newR_out hs, h.rowE_rm]

theorem RInv.setE2 (h : RInv ps R D) (hok : p'.Ok) : Go.Proofs.YtgnjenmicojgnaaGreat.setE true p' i (rowE R) = rowE (newR p' i (rmR R i)) := by
  have hc := cur_of_ok hok
  have hn := h.rm_none i
  unfold Go.Proofs.YtgnjenmicojgnaaGreat.setE
  by_cases hs : stateR p' = 1
  · rw [if_pos hs, if_pos (.inr rfl), newR_none hs hn, rowE_back _ _ _ (by omega), h.rowE_rm]
    rw [show ((curR p').toNat : Int) = curR p' by omega]
  · rw [if_neg hs, newR_out hs, rmR_none hn, h.rowE_rm]

theorem RInv.setD (h : RInv ps R D) (fr : Bool) (hf : fr = true → untilB p' = true → i ∉ D.map Prod.fst) : setD fr p' i D = newD p' i D := by
  unfold Go.Proofs.YtgnjenmicojgnaaGreat.setD newD
  by_cases hu : untilB p' = true
  · rw [if_pos hu, if_pos hu]
    by_cases ht : tickOf D i = some (untilR p')
    · have hm := (tickOf_iff h.ndD i _).1 ht
      rw [if_pos ht]
      cases fr with
      | true => exact absurd (List.mem_map.2 ⟨_, hm, rfl⟩) (hf rfl hu)
      | false => rw [if_pos ⟨rfl, hm⟩]
    · rw [if_neg ht, if_neg]
      rintro ⟨_, hm⟩
      exact ht ((tickOf_iff h.ndD i _).2 hm)
  · rw [if_neg hu, if_neg hu]

theorem RInv.prE (h : RInv ps R D) (b : Bool) (h0 : 0 ≤ i) (h1 : i < ps.length) (hok : p'.Ok) (hs : stateR p' = stateR (lookP ps i)) :
    prE b p' i (curR (lookP ps i)) (rowE R) = rowE (mvR b i (curR p').toNat R) := by
  have hc := cur_of_ok hok
  have hc0 := (cur_ok h.ok i).1
  have hp := h.prio_at h0 h1
  unfold Go.Proofs.YtgnjenmicojgnaaGreat.prE
  rw [hs]
  by_cases hst : stateR (lookP ps i) = 1
  · rw [if_pos hst] at hp
    by_cases hcu : curR p' = curR (lookP ps i)
    · rw [if_neg (by rintro ⟨_, h⟩; exact h hcu)]
      rw [mvR_same (by rw [hp, hcu])]
    · rw [if_pos ⟨hst, hcu⟩, mvR_to hp (by omega)]
      rw [← h.rowE_rm]
      cases b with
      | true =>
        simp only [if_true]
        rw [rowE_front _ _ _ (by omega), show ((curR p').toNat : Int) = curR p' by omega]
      | false =>
        simp only [Bool.false_eq_true, if_false]
        rw [rowE_back _ _ _ (by omega), show ((curR p').toNat : Int) = curR p' by omega]
  · rw [if_neg hst] at hp
    rw [if_neg (by rintro ⟨h, _⟩; exact hst h), mvR_none hp]

theorem RInv.elen (h : RInv ps R D) : (rowE R).length ≤ 16 := by
  have hnd : ((rowE R).map Prod.fst).Nodup := by
    have : ∀ n, ((rowN R n).map Prod.fst).Nodup := by
      intro n
      induction n with
      | zero => simp [rowN]
      | succ n ih =>
        rw [rowN, List.map_append, List.map_map, List.nodup_append]
        have e : (Prod.fst ∘ fun i : Int => (i, (n : Int))) = id := rfl
        rw [e, List.map_id]
        refine ⟨h.nd n, ih, fun a ha b hb => ?_⟩
        rintro rfl
        obtain ⟨x, hx, rfl⟩ := List.mem_map.1 hb
        obtain ⟨q, hq, hm, -⟩ := mem_rowN.1 hx
        have := h.one ha hm
        omega
    exact this 64
  have := nd_len (n := ps.length) hnd (fun x hx => by
    obtain ⟨p, hp⟩ := h.ids_mem.1 hx
    have := (h.mem p x).1 hp
    exact ⟨this.1, this.2.1⟩)
  have h2 := h.len
  rw [List.length_map] at this
  omega
end

/-- One that is due: the row and the timers. -/
theorem RInv.advE {ps : List Pr} {R : Nat → List Int} {H T : List (Int × Int)} {i a : Int} {p2 : Pr} (h : RInv ps R (H ++ (i, a) :: T)) (hok : p2.Ok) (hub : untilB p2 = false) (hH : i ∉ H.map Prod.fst) :
    Go.Proofs.YtgnjenmicojgnaaGreat.setE true p2 i (rowE R) = rowE (newR p2 i R) ∧ Go.Proofs.YtgnjenmicojgnaaGreat.setD true p2 i H = H := by
  obtain ⟨h0, h1, hu, -⟩ := (h.tm i a).1 (List.mem_append.2 (.inr (List.mem_cons_self ..)))
  refine ⟨h.setE true hok (fun _ => ?_), ?_⟩
  · rw [h.prio_at h0 h1, if_neg]
    intro hs
    unfold stateR at hs
    unfold untilB at hu
    simp only [decide_eq_true_eq] at hu
    split at hs
    · cases hs
    · rcases hu with h3 | h2 <;> omega
  · unfold Go.Proofs.YtgnjenmicojgnaaGreat.setD
    rw [hub, if_neg (by simp), rmQ_out hH]

end Go.Proofs.YtgnjenmicojgnaaGreat
