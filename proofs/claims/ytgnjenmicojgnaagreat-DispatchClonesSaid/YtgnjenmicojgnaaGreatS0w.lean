/-
  Plain laws of timers in their order, and of the row of those that are ready.
-/
import Derived.Test.YtgnjenmicojgnaaGreatP3w
import Derived.Test.YtgnjenmicojgnaaGreatN4w
namespace Go.Proofs.YtgnjenmicojgnaaGreat
set_option linter.unusedVariables false
set_option linter.unusedSimpArgs false
open Go.RowKit

def Srtd (Q : List (Int × Int)) : Prop := Q.Pairwise (fun a b => a.2 ≤ b.2)

theorem insQ_nil (q : Int × Int) : insQ [] q = [q] := rfl
theorem insQ_cons (p : Int × Int) (r : List (Int × Int)) (q : Int × Int) : insQ (p :: r) q = if p.2 ≤ q.2 then p :: insQ r q else q :: p :: r := by
  unfold insQ
  rw [iQ_cons]
  split <;> simp
theorem mem_insQ (Q : List (Int × Int)) (q x : Int × Int) : x ∈ insQ Q q ↔ x = q ∨ x ∈ Q := by
  induction Q with
  | nil => simp [insQ_nil]
  | cons p r ih =>
    rw [insQ_cons]
    split
    · simp only [List.mem_cons, ih]
      constructor
      · rintro (h | h | h)
        · exact .inr (.inl h)
        · exact .inl h
        · exact .inr (.inr h)
      · rintro (h | h | h)
        · exact .inr (.inl h)
        · exact .inl h
        · exact .inr (.inr h)
    · simp only [List.mem_cons]
theorem insQ_srtd {Q : List (Int × Int)} (h : Srtd Q) (q : Int × Int) : Srtd (insQ Q q) := by
  induction Q with
  | nil => exact List.pairwise_singleton _ _
  | cons p r ih =>
    unfold Srtd at h ih ⊢
    rw [List.pairwise_cons] at h
    rw [insQ_cons]
    split
    · rename_i hp
      rw [List.pairwise_cons]
      refine ⟨fun x hx => ?_, ih h.2⟩
      rcases (mem_insQ r q x).1 hx with rfl | hx
      · exact hp
      · exact h.1 x hx
    · rename_i hp
      rw [List.pairwise_cons, List.pairwise_cons]
      refine ⟨fun x hx => ?_, h⟩
      rcases List.mem_cons.1 hx with rfl | hx
      · omega
      · have := h.1 x hx
        omega
theorem insQ_front {Q : List (Int × Int)} {q : Int × Int} (h : ∀ x, x ∈ Q → q.2 < x.2) : insQ Q q = q :: Q := by
  cases Q with
  | nil => rfl
  | cons p r =>
    rw [insQ_cons, if_neg (by have := h p (List.mem_cons_self ..); omega)]
theorem Srtd.front {p q : Int × Int} {r : List (Int × Int)} (h : Srtd (p :: r)) (hq : q.2 < p.2) : ∀ x, x ∈ p :: r → q.2 < x.2 := by
  unfold Srtd at h
  rw [List.pairwise_cons] at h
  intro x hx
  rcases List.mem_cons.1 hx with rfl | hx
  · exact hq
  · have := h.1 x hx
    omega
theorem flt_insQ (f : Int → Bool) {Q : List (Int × Int)} (h : Srtd Q) (q : Int × Int) : (insQ Q q).filter (fun x => f x.2) = if f q.2 = true then insQ (Q.filter (fun x => f x.2)) q else Q.filter (fun x => f x.2) := by
  induction Q with
  | nil =>
    rw [insQ_nil]
    by_cases e : f q.2 = true <;> simp [e, insQ_nil]
  | cons p r ih =>
    have hr : Srtd r := by
      unfold Srtd at h ⊢
      rw [List.pairwise_cons] at h
      exact h.2
    rw [insQ_cons]
    by_cases hp : p.2 ≤ q.2
    · rw [if_pos hp, List.filter_cons, ih hr]
      by_cases e : f q.2 = true
      · rw [if_pos e, if_pos e]
        by_cases e2 : f p.2 = true
        · rw [List.filter_cons]
          simp only [e2, if_true]
          rw [insQ_cons, if_pos hp]
        · rw [List.filter_cons]
          simp only [e2, if_false]
          simp
      · rw [if_neg e, if_neg e, List.filter_cons]
    · rw [if_neg hp]
      by_cases e : f q.2 = true
      · rw [if_pos e, List.filter_cons]
        simp only [e, if_true]
        rw [insQ_front]
        intro x hx
        exact h.front (by omega) x ((List.mem_filter.1 hx).1)
      · rw [if_neg e, List.filter_cons]
        simp only [e]
        simp

theorem fold_srtd (xs : List (Int × Int)) : ∀ {Q : List (Int × Int)}, Srtd Q → Srtd (xs.foldl insQ Q) := by
  induction xs with
  | nil => exact fun h => h
  | cons a r ih => exact fun h => ih (insQ_srtd h a)
theorem srt_srtd (xs : List (Int × Int)) : Srtd (srt xs) := fold_srtd xs List.Pairwise.nil
theorem fold_flt (f : Int → Bool) (xs : List (Int × Int)) : ∀ {Q : List (Int × Int)}, Srtd Q → (xs.foldl insQ Q).filter (fun x => f x.2) = (xs.filter (fun x => f x.2)).foldl insQ (Q.filter (fun x => f x.2)) := by
  induction xs with
  | nil => exact fun h => rfl
  | cons a r ih =>
    intro Q h
    rw [List.foldl_cons, ih (insQ_srtd h a), flt_insQ f h, List.filter_cons]
    by_cases e : f a.2 = true
    · simp only [e, if_true, List.foldl_cons]
    · simp only [e]
      simp
theorem lo_srt (now : Int) (xs : List (Int × Int)) : lo now (srt xs) = srt (lo now xs) := fold_flt (fun a => decide (a ≤ now)) xs List.Pairwise.nil
theorem hi_srt (now : Int) (xs : List (Int × Int)) : hi now (srt xs) = srt (hi now xs) := fold_flt (fun a => decide (now < a)) xs List.Pairwise.nil
theorem mem_fold (x : Int × Int) (xs : List (Int × Int)) : ∀ (Q : List (Int × Int)), x ∈ xs.foldl insQ Q ↔ x ∈ xs ∨ x ∈ Q := by
  induction xs with
  | nil => intro Q; simp
  | cons a r ih =>
    intro Q
    rw [List.foldl_cons, ih, mem_insQ, List.mem_cons]
    constructor
    · rintro (h | h | h)
      · exact .inl (.inr h)
      · exact .inl (.inl h)
      · exact .inr h
    · rintro ((h | h) | h)
      · exact .inr (.inl h)
      · exact .inl h
      · exact .inr (.inr h)
theorem mem_srt (x : Int × Int) (xs : List (Int × Int)) : x ∈ srt xs ↔ x ∈ xs := by
  have := mem_fold x xs []
  simpa [srt] using this

/-- In order: what is due stands in front. -/
theorem take_lo {Q : List (Int × Int)} (h : Srtd Q) (now : Int) : Q.take (iQ Q now) = lo now Q ∧ Q.drop (iQ Q now) = hi now Q := by
  induction Q with
  | nil => exact ⟨rfl, rfl⟩
  | cons p r ih =>
    have h0 := h
    unfold Srtd at h
    rw [List.pairwise_cons] at h
    rw [iQ_cons]
    by_cases hp : p.2 ≤ now
    · obtain ⟨h1, h2⟩ := ih h.2
      rw [if_pos hp, List.take_succ_cons, List.drop_succ_cons, h1, h2]
      unfold lo hi
      rw [List.filter_cons, List.filter_cons]
      constructor
      · simp [hp]
      · rw [if_neg]
        simpa using hp
    · have hall : ∀ x, x ∈ p :: r → now < x.2 := h0.front (q := (0, now)) (by simpa using hp)
      rw [if_neg hp]
      constructor
      · unfold lo
        rw [List.take_zero, eq_comm, List.filter_eq_nil_iff]
        intro x hx
        have := hall x hx
        simpa using this
      · unfold hi
        rw [List.drop_zero, eq_comm, List.filter_eq_self]
        intro x hx
        simpa using hall x hx

theorem due_ids (L : List (Int × Int)) (now : Int) : (srt L).take (iQ (srt L) now) = srt (lo now L) ∧ (srt L).drop (iQ (srt L) now) = srt (hi now L) := by
  obtain ⟨h1, h2⟩ := take_lo (srt_srtd L) now
  exact ⟨h1.trans (lo_srt now L), h2.trans (hi_srt now L)⟩


theorem insQ_flt (P : Int × Int → Bool) {Q : List (Int × Int)} (h : Srtd Q) (q : Int × Int) : (insQ Q q).filter P = if P q = true then insQ (Q.filter P) q else Q.filter P := by
  have hf : Srtd (Q.filter P) := List.Pairwise.filter P h
  obtain ⟨h1, h2⟩ := take_lo h q.2
  obtain ⟨h3, h4⟩ := take_lo hf q.2
  unfold insQ
  rw [h1, h2, h3, h4, List.filter_append, List.filter_cons]
  unfold lo hi
  rw [List.filter_filter, List.filter_filter, List.filter_filter, List.filter_filter]
  have e1 : (fun a : Int × Int => P a && decide (a.2 ≤ q.2)) = fun a => decide (a.2 ≤ q.2) && P a := by funext a; rw [Bool.and_comm]
  have e2 : (fun a : Int × Int => P a && decide (q.2 < a.2)) = fun a => decide (q.2 < a.2) && P a := by funext a; rw [Bool.and_comm]
  rw [e1, e2]
  by_cases hp : P q = true
  · rw [if_pos hp, if_pos hp]
  · rw [if_neg hp, if_neg hp]
    have := h3
    have h5 := h4
    unfold lo at this
    unfold hi at h5
    rw [List.filter_filter] at this h5
    rw [← this, ← h5, List.take_append_drop]

theorem fold_fltP (P : Int × Int → Bool) (xs : List (Int × Int)) : ∀ {Q : List (Int × Int)}, Srtd Q → (xs.foldl insQ Q).filter P = (xs.filter P).foldl insQ (Q.filter P) := by
  induction xs with
  | nil => intro Q _; rfl
  | cons a r ih =>
    intro Q h
    rw [List.foldl_cons, ih (insQ_srtd h a), insQ_flt P h, List.filter_cons]
    by_cases hp : P a = true
    · rw [if_pos hp, if_pos hp, List.foldl_cons]
    · rw [if_neg hp, if_neg hp]

theorem srt_rm (D : List (Int × Int)) (i : Int) : srt (rmQ D i) = rmQ (srt D) i := (fold_fltP (fun q => q.1 != i) D List.Pairwise.nil).symm

theorem tickOf_iff {D : List (Int × Int)} (h : (D.map Prod.fst).Nodup) (i a : Int) : tickOf D i = some a ↔ (i, a) ∈ D := by
  induction D with
  | nil => simp [tickOf]
  | cons p r ih =>
    rw [List.map_cons, List.nodup_cons] at h
    unfold tickOf at ih ⊢
    rw [List.find?_cons]
    by_cases e : p.1 = i
    · have : (p.1 == i) = true := by simpa using e
      rw [this]
      simp only [Option.map_some, Option.some.injEq, List.mem_cons]
      constructor
      · intro hp
        left
        rw [← e, ← hp]
      · rintro (hp | hp)
        · rw [← hp]
        · exact absurd (List.mem_map.2 ⟨_, hp, e.symm⟩) h.1
    · have : (p.1 == i) = false := by simpa using e
      rw [this, ih h.2, List.mem_cons]
      constructor
      · exact Or.inr
      · rintro (hp | hp)
        · rw [← hp] at e; exact absurd rfl e
        · exact hp

theorem srt_perm (D : List (Int × Int)) : (srt D).Perm D := by
  have : ∀ (xs Q : List (Int × Int)), (xs.foldl insQ Q).Perm (Q ++ xs) := by
    intro xs
    induction xs with
    | nil => intro Q; rw [List.append_nil]; exact List.Perm.refl _
    | cons a r ih =>
      intro Q
      rw [List.foldl_cons]
      refine (ih _).trans ?_
      have h1 : (insQ Q a).Perm (Q ++ [a]) := by
        unfold insQ
        have : (Q.take (iQ Q a.2) ++ a :: Q.drop (iQ Q a.2)).Perm (a :: (Q.take (iQ Q a.2) ++ Q.drop (iQ Q a.2))) := List.perm_middle
        rw [List.take_append_drop] at this
        exact this.trans (List.perm_append_singleton a Q).symm
      have := h1.append_right r
      rwa [List.append_assoc] at this
  exact this D []

theorem srt_nd {D : List (Int × Int)} (h : (D.map Prod.fst).Nodup) : ((srt D).map Prod.fst).Nodup := ((srt_perm D).map Prod.fst).nodup_iff.2 h

theorem tickOf_srt {D : List (Int × Int)} (h : (D.map Prod.fst).Nodup) (i : Int) : tickOf (srt D) i = tickOf D i := by
  cases h1 : tickOf D i with
  | none =>
    have := tickOf_none h1
    exact tickOf_out (fun hm => this (((srt_perm D).map Prod.fst).mem_iff.1 hm))
  | some a =>
    rw [tickOf_iff h] at h1
    rw [tickOf_iff (srt_nd h)]
    exact (mem_srt _ _).2 h1

/-- The document's timers behind a change of a process. -/
def newD (p : Pr) (i : Int) (D : List (Int × Int)) : List (Int × Int) :=
  if untilB p = true then (if tickOf D i = some (untilR p) then D else rmQ D i ++ [(i, untilR p)]) else rmQ D i

theorem newQ_srt {D : List (Int × Int)} (h : (D.map Prod.fst).Nodup) (p : Pr) (i : Int) : newQ p i (srt D) = srt (newD p i D) := by
  unfold newQ newD
  rw [tickOf_srt h]
  split
  · split
    · rfl
    · rw [srt_snoc, srt_rm]
  · rw [srt_rm]

/-- Insertion behind all that pass. -/
def insW (f : Int → Bool) (E : List (Int × Int)) (q : Int × Int) : List (Int × Int) :=
  E.take (E.takeWhile (fun x => f x.2)).length ++ q :: E.drop (E.takeWhile (fun x => f x.2)).length
theorem insW_pass (f : Int → Bool) (A B : List (Int × Int)) (q : Int × Int) (h : ∀ x, x ∈ A → f x.2 = true) : insW f (A ++ B) q = A ++ insW f B q := by
  induction A with
  | nil => rfl
  | cons a r ih =>
    have ha := h a (List.mem_cons_self ..)
    have := ih (fun x hx => h x (List.mem_cons_of_mem _ hx))
    unfold insW at this ⊢
    rw [List.cons_append, List.takeWhile_cons, if_pos ha, List.length_cons, List.take_succ_cons, List.drop_succ_cons, List.cons_append, this, List.cons_append]
theorem insW_fail (f : Int → Bool) (B : List (Int × Int)) (q : Int × Int) (h : ∀ x, x ∈ B → f x.2 = false) : insW f B q = q :: B := by
  have : B.takeWhile (fun x => f x.2) = [] := by
    cases B with
    | nil => rfl
    | cons b r => rw [List.takeWhile_cons, if_neg (by rw [h b (List.mem_cons_self ..)]; simp)]
  unfold insW
  rw [this]
  rfl

/-- The rows below n, the highest first, each id with its row. -/
def rowN (R : Nat → List Int) : Nat → List (Int × Int)
  | 0 => []
  | n + 1 => (R n).map (fun i => (i, (n : Int))) ++ rowN R n
def rowE (R : Nat → List Int) : List (Int × Int) := rowN R 64

theorem rowN_congr {R R' : Nat → List Int} : ∀ (n : Nat), (∀ p, p < n → R p = R' p) → rowN R n = rowN R' n
  | 0, _ => rfl
  | n + 1, h => by rw [rowN, rowN, h n (by omega), rowN_congr n (fun p hp => h p (by omega))]
theorem mem_rowN {R : Nat → List Int} {x : Int × Int} : ∀ {n : Nat}, x ∈ rowN R n ↔ ∃ p : Nat, p < n ∧ x.1 ∈ R p ∧ x.2 = p
  | 0 => by simp [rowN]
  | n + 1 => by
    rw [rowN, List.mem_append, mem_rowN, List.mem_map]
    constructor
    · rintro (⟨i, hi, rfl⟩ | ⟨p, hp, h1, h2⟩)
      · exact ⟨n, by omega, hi, rfl⟩
      · exact ⟨p, by omega, h1, h2⟩
    · rintro ⟨p, hp, h1, h2⟩
      by_cases e : p = n
      · subst e
        exact .inl ⟨x.1, h1, by rw [← h2]⟩
      · exact .inr ⟨p, by omega, h1, h2⟩

theorem rowN_flt (R R' : Nat → List Int) (i : Int) : ∀ (n : Nat), (∀ p, p < n → R' p = (R p).filter (fun j => j != i)) → rowN R' n = rmQ (rowN R n) i
  | 0, _ => rfl
  | n + 1, h => by
    rw [rowN, rowN, rowN_flt R R' i n (fun p hp => h p (by omega)), h n (by omega)]
    unfold rmQ
    rw [List.filter_append, List.filter_map]
    rfl

theorem rowN_ins (f : Int → Bool) (R : Nat → List Int) (q : Nat) (i : Int) (xs : List Int) (n : Nat) (hq : q < n) (hhi : ∀ p : Nat, q < p → f p = true) (hlo : ∀ p : Nat, p < q → f p = false)
    (hx : xs.map (fun j => (j, (q : Int))) ++ rowN R q = insW f ((R q).map (fun j => (j, (q : Int))) ++ rowN R q) (i, (q : Int))) : rowN (upd R q xs) n = insW f (rowN R n) (i, (q : Int)) := by
  induction n with
  | zero => omega
  | succ n ih =>
    by_cases e : n = q
    · subst e
      rw [rowN, rowN, upd_same, rowN_congr (R' := R) n (fun p hp => upd_other _ _ (by omega))]
      exact hx
    · rw [rowN, rowN, upd_other _ _ e, ih (by omega), insW_pass]
      intro x hx
      obtain ⟨j, -, rfl⟩ := List.mem_map.1 hx
      exact hhi n (by omega)

theorem rowE_back (R : Nat → List Int) (q : Nat) (i : Int) (hq : q < 64) : rowE (upd R q (R q ++ [i])) = insW (fun y => decide ((q : Int) ≤ y)) (rowE R) (i, (q : Int)) := by
  refine rowN_ins _ R q i _ 64 hq (fun p hp => by simp; omega) (fun p hp => by simp; omega) ?_
  rw [insW_pass _ _ _ _ (fun x hx => by obtain ⟨j, -, rfl⟩ := List.mem_map.1 hx; simp), insW_fail _ _ _ (fun x hx => by obtain ⟨p, hp, -, e⟩ := mem_rowN.1 hx; rw [e]; simp; omega)]
  simp
theorem rowE_front (R : Nat → List Int) (q : Nat) (i : Int) (hq : q < 64) : rowE (upd R q (i :: R q)) = insW (fun y => decide ((q : Int) < y)) (rowE R) (i, (q : Int)) := by
  refine rowN_ins _ R q i _ 64 hq (fun p hp => by simp; omega) (fun p hp => by simp; omega) ?_
  rw [insW_fail]
  · simp
  · intro x hx
    rcases List.mem_append.1 hx with hx | hx
    · obtain ⟨j, -, rfl⟩ := List.mem_map.1 hx
      simp
    · obtain ⟨p, hp, -, e⟩ := mem_rowN.1 hx
      rw [e]
      simp
      omega

theorem rowE_ids (R : Nat → List Int) : (rowE R).map Prod.fst = allR R := by
  have : ∀ k, k ≤ 64 → (rowE R).map Prod.fst = dn R k ++ (rowN R (64 - k)).map Prod.fst := by
    intro k
    induction k with
    | zero => intro _; rfl
    | succ k ih =>
      intro hk
      rw [ih (by omega), dn_succ, List.append_assoc]
      obtain ⟨n, hn⟩ : ∃ n, 64 - k = n + 1 := ⟨63 - k, by omega⟩
      rw [hn, rowN, List.map_append, List.map_map, show 64 - (k + 1) = n by omega, show 63 - k = n by omega]
      congr 1
      have : (Prod.fst ∘ fun i : Int => (i, (n : Int))) = id := rfl
      rw [this, List.map_id]
  have h := this 64 (Nat.le_refl _)
  rw [h]
  simp [rowN, allR]

end Go.Proofs.YtgnjenmicojgnaaGreat
