/-
  The plain law of DispatchTurns: the row of the processes that have been started, all of one priority.
-/
import Derived.Test.YtgnjenmicojgnaaKa
import Derived.Test.YtgnjenmicojgnaaG2
namespace Go.Proofs.Ytgnjenmicojgnaa
set_option linter.unusedVariables false
set_option linter.unusedSimpArgs false
open Go.RowKit

theorem upd_upd {α : Type} (V : Nat → α) (p : Nat) (a b : α) : upd (upd V p a) p b = upd V p b := by
  funext q
  unfold upd
  split <;> rfl

def sAt (x : Int) : At := ⟨x, 0, 0, 0, 0⟩
def sP (x b : Int) : Pr := ⟨x, 0, 0, 0, 0, 1, false, x, 0, 0, b, 0, false⟩
/-- The row in which all are of priority p. -/
def rowR (p : Nat) (row : List Int) : Nat → List Int := upd r0 p row

theorem rowR_at (p : Nat) (row : List Int) : rowR p row p = row := upd_same _ _ _
theorem rowR_put (p : Nat) (row xs : List Int) : upd (rowR p row) p xs = rowR p xs := upd_upd _ _ _ _
theorem rowR_nil (p : Nat) : rowR p [] = r0 := by
  funext q
  unfold rowR upd r0
  split <;> rfl
theorem rowR_prio {p : Nat} {row : List Int} {i : Int} (hp : p < 64) (h : i ∈ row) : prio (rowR p row) i = some p :=
  prio_first hp (by rw [rowR_at]; exact h) (fun q hq => by rw [rowR, upd_other _ _ (by omega)]; simp [r0])
theorem rowR_none {p : Nat} {row : List Int} {i : Int} (h : i ∉ row) : prio (rowR p row) i = none :=
  prio_not (fun q hq => by
    unfold rowR upd r0
    split
    · exact h
    · simp)
theorem rowR_all {p : Nat} (hp : p < 64) (row : List Int) : allR (rowR p row) = row := by
  have hlow : ∀ m, m ≤ p → dn (rowR p row) (63 - p + 1 + m) = row := by
    intro m
    induction m with
    | zero =>
      intro _
      rw [Nat.add_zero, dn_succ, dn_empty (fun i hi => by rw [rowR, upd_other _ _ (by omega)]; rfl), show 63 - (63 - p) = p by omega, rowR_at]
      rfl
    | succ m ih =>
      intro hm
      rw [← Nat.add_assoc, dn_succ, ih (by omega), rowR, upd_other _ _ (by omega)]
      simp [r0]
  unfold allR
  have := hlow p (Nat.le_refl _)
  rwa [show 63 - p + 1 + p = 64 by omega] at this
theorem rowR_len {p : Nat} {row : List Int} (h : row.length ≤ 1000) (q : Nat) : (rowR p row q).length ≤ 1000 := upd_le (fun _ => by simp [r0]) h q

theorem state_sP (x b : Int) : stateR (sP x b) = 1 := rfl
theorem until_sP (x b : Int) : untilB (sP x b) = false := rfl
theorem cur_sP (b : Int) : curR (sP 7 b) = (7 : Nat) := rfl

structure TInv (n cnt : Nat) (row : List Int) (ps : List Pr) : Prop where
  len : ps.length = n
  rl : row.length = cnt
  cn : cnt ≤ n
  rng : ∀ x, x ∈ row → 0 ≤ x ∧ x < cnt
  nd : row.Nodup
  up : ∀ j, j < cnt → ∃ b, ps[j]? = some (sP 7 b)
  dorm : ∀ j, cnt ≤ j → j < n → ps[j]? = some (prOf (sAt 7))

theorem TInv.zero (n : Nat) : TInv n 0 [] ((List.replicate n (sAt 7)).map prOf) :=
  ⟨by simp, rfl, by omega, fun x hx => by simp at hx, List.nodup_nil, fun j hj => absurd hj (Nat.not_lt_zero _), fun j _ hj => by simp [hj]⟩

theorem look_get {ps : List Pr} {j : Nat} {p : Pr} (h : ps[j]? = some p) : lookP ps (j : Int) = p := look_at h

theorem start_sP {k : Int} (hk : 0 ≤ k ∧ k ≤ 1000) : startF k (prOf (sAt 7)) = some (sP 7 k) := by
  unfold startF startP prOf sAt sP
  simp

theorem TInv.start {n cnt : Nat} {row : List Int} {ps : List Pr} (h : TInv n cnt row ps) (hc : cnt < n) {k : Int} (hk : 0 ≤ k ∧ k ≤ 1000) :
    act (startF k) (tickB k) ps (cnt : Int) = (ps.set cnt (sP 7 k), 0) ∧ TInv n (cnt + 1) (row ++ [(cnt : Int)]) (ps.set cnt (sP 7 k)) ∧ lookP (ps.set cnt (sP 7 k)) (cnt : Int) = sP 7 k ∧ (cnt : Int) ∉ row := by
  have hno : (cnt : Int) ∉ row := fun hm => by have := h.rng _ hm; omega
  have hcl : cnt < ps.length := by rw [h.len]; exact hc
  refine ⟨?_, ⟨by simpa using h.len, by simp [h.rl], hc, fun x hx => ?_, ?_, fun j hj => ?_, fun j h1 h2 => ?_⟩, ?_, hno⟩
  · have ht : tickB k = true := tick_in hk.1 (by omega)
    have := act_in (f := startF k) (may := tickB k) (ps := ps) (i := (cnt : Int)) (p := prOf (sAt 7)) (by omega) (by simpa using h.dorm cnt (Nat.le_refl _) hc)
    rw [this]
    unfold stepP codeP
    rw [ht, start_sP hk]
    simp
  · rw [List.mem_append, List.mem_singleton] at hx
    rcases hx with hx | rfl
    · have := h.rng x hx
      omega
    · omega
  · rw [List.nodup_append]
    exact ⟨h.nd, by simp, fun a ha b hb => by rw [List.mem_singleton] at hb; rintro rfl; exact hno (hb ▸ ha)⟩
  · by_cases e : cnt = j
    · subst e
      exact ⟨k, by rw [List.getElem?_set, if_pos rfl, if_pos hcl]⟩
    · obtain ⟨b, hb⟩ := h.up j (by omega)
      exact ⟨b, by rw [List.getElem?_set, if_neg e]; exact hb⟩
  · rw [List.getElem?_set, if_neg (by omega)]
    exact h.dorm j (by omega) h2
  · exact look_get (by rw [List.getElem?_set, if_pos rfl, if_pos hcl])

theorem TInv.turn {n cnt : Nat} {x : Int} {row : List Int} {ps : List Pr} (h : TInv n cnt (x :: row) ps) : TInv n cnt (row ++ [x]) ps := by
  have hnd := h.nd
  rw [List.nodup_cons] at hnd
  refine ⟨h.len, by have := h.rl; simp at this ⊢; omega, h.cn, fun y hy => h.rng y ?_, ?_, h.up, h.dorm⟩
  · rw [List.mem_append, List.mem_singleton] at hy
    rcases hy with hy | rfl
    · exact List.mem_cons_of_mem _ hy
    · exact List.mem_cons_self ..
  · rw [List.nodup_append]
    exact ⟨hnd.2, by simp, fun a ha b hb => by rw [List.mem_singleton] at hb; rintro rfl; exact hnd.1 (hb ▸ ha)⟩

theorem TInv.head {n cnt : Nat} {x : Int} {row : List Int} {ps : List Pr} (h : TInv n cnt (x :: row) ps) : ∃ b, lookP ps x = sP 7 b ∧ 0 ≤ x ∧ x < n ∧ x ∉ row := by
  obtain ⟨h1, h2⟩ := h.rng x (List.mem_cons_self ..)
  obtain ⟨j, rfl⟩ : ∃ j : Nat, x = j := ⟨x.toNat, by omega⟩
  obtain ⟨b, hb⟩ := h.up j (by omega)
  have hnd := h.nd
  rw [List.nodup_cons] at hnd
  have := h.cn
  exact ⟨b, look_get hb, h1, by omega, hnd.1⟩

end Go.Proofs.Ytgnjenmicojgnaa
