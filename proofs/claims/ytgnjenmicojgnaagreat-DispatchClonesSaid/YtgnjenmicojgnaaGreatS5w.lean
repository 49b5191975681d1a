/-
  Plain laws of Advance and of Yield, whole.
-/
import Derived.Test.YtgnjenmicojgnaaGreatT5w
namespace Go.Proofs.YtgnjenmicojgnaaGreat
set_option linter.unusedVariables false
set_option linter.unusedSimpArgs false
open Go.RowKit

theorem advL_inv {now : Int} (h0 : 0 ≤ now) (h1 : now ≤ 1099511627776) {H : List (Int × Int)} : ∀ (L : List (Int × Int)) {ps : List Pr} {R : Nat → List Int}, (∀ q, q ∈ L → q.2 ≤ now) → RInv ps R (H ++ L) →
    RInv (advL now (L.map Prod.fst) (ps, R)).1 (advL now (L.map Prod.fst) (ps, R)).2 H ∧ (advL now (L.map Prod.fst) (ps, R)).1.length = ps.length
  | [], ps, R, _, h => by rw [List.append_nil] at h; exact ⟨h, rfl⟩
  | q :: r, ps, R, hle, h => by
    obtain ⟨qi, qa⟩ := q
    obtain ⟨p2, -, hav, hq0, hq1, hub2, hlk, hqH, hri2⟩ := h.adv (hle _ (List.mem_cons_self ..)) ⟨h0, h1⟩
    have := advL_inv h0 h1 r (fun q hq => hle q (List.mem_cons_of_mem _ hq)) hri2
    rw [List.map_cons, advL]
    show RInv (advL now (r.map Prod.fst) (advP now ps qi, newR (lookP (advP now ps qi) qi) qi R)).1 _ _ ∧ _
    rw [hav, hlk]
    refine ⟨this.1, ?_⟩
    rw [this.2, List.length_set]

theorem RInv.advAll {ps : List Pr} {R : Nat → List Int} {D : List (Int × Int)} (h : RInv ps R D) (now : Int) (h0 : 0 ≤ now) (h1 : now ≤ 1099511627776) :
    RInv ((advL now ((srt (lo now D)).map Prod.fst) (ps, R)).1.map (markP now)) (advL now ((srt (lo now D)).map Prod.fst) (ps, R)).2 (hi now D) ∧ ((advL now ((srt (lo now D)).map Prod.fst) (ps, R)).1.map (markP now)).length = ps.length := by
  obtain ⟨k1, k2⟩ := advL_inv h0 h1 (H := hi now D) (srt (lo now D)) (fun q hq => lo_le hq) (h.due now)
  exact ⟨k1.mark now, by rw [List.length_map]; exact k2⟩

theorem RInv.yield {ps : List Pr} {R : Nat → List Int} {D : List (Int × Int)} {i : Int} (h : RInv ps R D) (h0 : 0 ≤ i) (h1 : i < ps.length) (hs : stateR (lookP ps i) = 1) {q : Nat} (hq : curR (lookP ps i) = q) :
    RInv ps (upd (rmR R i) q (rmR R i q ++ [i])) D ∧ rowE (upd (rmR R i) q (rmR R i q ++ [i])) = insW (fun y => decide ((q : Int) ≤ y)) (rmQ (rowE R) i) (i, (q : Int)) ∧ (prio R i).isSome = true := by
  have hc := cur_ok h.ok i
  have hno : ∀ p, i ∉ rmR R i p := fun p hm => ((h.rm_mem i p i).1 hm).2 rfl
  refine ⟨?_, ?_, ?_⟩
  · refine ⟨h.len, h.ok, put_nd (h.rm_nd i) (snoc_nd (h.rm_nd i _) (hno _)), fun p j => ?_, h.ndD, h.tm⟩
    by_cases e : j = i
    · subst e
      rw [put_self (by simp) hno]
      constructor
      · rintro rfl; exact ⟨h0, h1, hs, hq⟩
      · rintro ⟨_, _, _, e⟩; omega
    · rw [put_mem (i := i) (by simp) p j e, h.rm_mem, h.mem]
      simp [e]
  · rw [rowE_back _ _ _ (by omega), h.rowE_rm]
  · rw [h.prio_at h0 h1, if_pos hs]
    rfl
theorem RInv.no_prio {ps : List Pr} {R : Nat → List Int} {D : List (Int × Int)} {i : Int} (h : RInv ps R D) (hs : stateR (lookP ps i) ≠ 1) : prio R i = none := by
  rw [h.prio_not]
  intro p hm
  exact hs ((h.mem p i).1 hm).2.2.1

theorem Duo.wpost2 {w w' : World} {A : Ad} {U : Vs} {psD psW psW' : List Pr} {R : Nat → List Int} {Q E E' D D' : List (Int × Int)} {now now' : Int} {vE' vD' : Value} (h : Duo w A U psD R Q psW E D now)
    (hw : Wld w' A.x A.t2 A.g2 A.c2 vE' vD' psW' E' D' now') (hk : Kept w w' (fun i => i = A.x ∨ i = A.g2)) (h1 : ∀ b, vE'.ownBlock = some b → U.vE.ownBlock = some b ∨ w.heap.size ≤ b) (h2 : ∀ b, vD'.ownBlock = some b → U.vD.ownBlock = some b ∨ w.heap.size ≤ b) :
    Duo w' A ⟨U.V, U.v, vE', vD'⟩ psD R Q psW' E' D' now' ∧ Fr w w' A U ⟨U.V, U.v, vE', vD'⟩ := by
  have hD := h.dsp.kept hk (fun i hi hs => h.dis i hi (by
    rcases hs with hs | hs
    · exact .inl hs
    · exact .inr (.inr (.inl hs))))
  have hn : ∀ i, inW A.x A.t2 A.g2 vE' vD' i → iW A U i ∨ w.heap.size ≤ i := by
    rintro i (hi | hi | hi | hi | hi)
    · exact .inl (.inl hi)
    · exact .inl (.inr (.inl hi))
    · exact .inl (.inr (.inr (.inl hi)))
    · exact (h1 i hi).imp (fun h => .inr (.inr (.inr (.inl h)))) id
    · exact (h2 i hi).imp (fun h => .inr (.inr (.inr (.inr h)))) id
  refine ⟨⟨hD, hw, fun i hi hw' => ?_⟩, ⟨hk.mono (fun i _ hi => .inr hi), fun i hi => ?_, fun i hi => ?_⟩⟩
  · rcases hn i hw' with h5 | h5
    · exact h.dis i hi h5
    · have := h.dsp.lt hi
      omega
  · rcases hi with hi | hi
    · exact .inl (.inl hi)
    · exact .inl (.inr hi)
  · rcases hi with hi | hi
    · exact .inl (.inl hi)
    · exact (hn i hi).imp (fun h => .inr h) id

end Go.Proofs.YtgnjenmicojgnaaGreat
