/-
  The plain law behind ProcGrid: releases of one process lie on the grid.
-/
import Derived.Test.YtgnjenmicojgnaaB6
namespace Go.Proofs.Ytgnjenmicojgnaa
set_option linter.unusedVariables false
set_option linter.unusedSimpArgs false
open Go.RowKit

/-- A slice of whole numbers that came in. -/
def Nums (w : World) (K : IntKind) (A : Option Addr) (n : Nat) (zs : List Int) (lo hi : Int) : Prop :=
  n ≠ 0 → ∃ b o, A = some ⟨b, o, none⟩ ∧ b < w.heap.size ∧ ∀ i, i < n → w.cell? ⟨b, o + i, none⟩ = some (.int K (zs.getD i 0)) ∧ lo ≤ zs.getD i 0 ∧ zs.getD i 0 ≤ hi

structure Same5 (p : Pr) (a : At) : Prop where
  pri : p.pri = a.pri
  per : p.per = a.per
  cap : p.cap = a.cap
  dl : p.dl = a.dl
  off : p.off = a.off

/-- ProcGrid's loop: behind k rounds. -/
structure GInv (a : At) (k : Nat) (nw bg : Int) (p : Pr) : Prop where
  same : Same5 p a
  ok : p.Ok
  held : p.held = false
  now : 0 ≤ nw ∧ nw ≤ (k + 1) * 1200000
  pos : 0 ≤ bg
  st : (p.st = 1 ∧ p.beg = bg ∧ bg ≤ nw) ∨ (p.st = 3 ∧ p.til = bg ∧ nw < bg ∧ bg ≤ nw + 1048576)

theorem act_one (f : Pr → Option Pr) (may : Bool) (p p' : Pr) (hm : may = true) (h : f p = some p') : act f may [p] 0 = ([p'], 0) := by
  subst hm
  simp [act, h]
theorem act_state (f : Pr → Option Pr) (may : Bool) (p : Pr) (hm : may = true) (h : f p = none) : act f may [p] 0 = ([p], 10) := by
  subst hm
  simp [act, h]
theorem one_ok {p : Pr} (h : p.Ok) : ∀ q, q ∈ [p] → q.Ok := by
  intro q hq
  rw [List.mem_singleton] at hq
  subst hq
  exact h
theorem look_one (p : Pr) : lookP [p] 0 = p := by simp [lookP]

theorem tick_in {n : Int} (h0 : 0 ≤ n) (h1 : n ≤ 1099511627776) : tickB n = true := by simp [tickB, inB, h0, h1]

/-- Start, of one process that is dormant. -/
theorem grid_start (a : At) (s : Int) (ha : a.may = true) (hs : 0 ≤ s ∧ s ≤ 65535) : ∃ p, act (startF s) (tickB s) [prOf a] 0 = ([p], 0) ∧ GInv a 0 s (s + a.off) p := by
  have hok := ok_fresh ha
  have hk := keeps_start s (tick_in hs.1 (by omega)) (prOf a) (startP s (prOf a)) hok (by simp [startF, prOf])
  refine ⟨startP s (prOf a), act_one _ _ _ _ (tick_in hs.1 (by omega)) (by simp [startF, prOf]), ?_⟩
  have ho := hok.off
  simp only [prOf] at ho
  constructor
  · unfold startP; split <;> constructor <;> rfl
  · exact hk
  · unfold startP; split <;> rfl
  · omega
  · omega
  · unfold startP
    split
    · rename_i h; left; simp [prOf] at h ⊢; omega
    · rename_i h; right; simp [prOf] at h ⊢; omega

/-- A resting process at its tick. -/
theorem grid_release {a : At} {k : Nat} {nw bg : Int} {p : Pr} (h : GInv a k nw bg p) (hk : k < 40) (hst : p.st = 3) :
    act (releF (bg - 1)) (tickB (bg - 1)) [p] 0 = ([p], 10) ∧ ∃ p', act (releF bg) (tickB bg) [p] 0 = ([p'], 0) ∧ p'.st = 1 ∧ p'.beg = bg ∧ p'.held = false ∧ p'.Ok ∧ Same5 p' a := by
  have h1 := h.now
  rcases h.st with ⟨h2, _⟩ | ⟨_, ht, hlt, hle⟩
  · omega
  have hk1 : (k : Int) + 1 ≤ 40 := by omega
  have hb : nw ≤ 40 * 1200000 := by omega
  have htk : tickB bg = true := tick_in h.pos (by omega)
  have hr : releF bg p = some (atP p.til p) := by simp [releF, hst, ht]
  refine ⟨act_state _ _ _ (tick_in (by omega) (by omega)) ?_, _, act_one _ _ _ _ htk hr, rfl, ht, h.held, keeps_rele bg htk p _ h.ok hr, ⟨h.same.pri, h.same.per, h.same.cap, h.same.dl, h.same.off⟩⟩
  simp [releF, hst, ht]
  omega

/-- A release that is done. -/
theorem grid_done {a : At} {k : Nat} {nw bg : Int} {p : Pr} (hs : Same5 p a) (hok : p.Ok) (hh : p.held = false) (hst : p.st = 1) (hb : p.beg = bg) (hle : bg ≤ nw) (h0 : 0 ≤ nw ∧ nw ≤ (k + 2) * 1200000) (hk : k < 40) (hper : a.per ≠ 0) :
    ∃ p', act (doneF nw) (tickB nw) [p] 0 = ([p'], 0) ∧ doneR [p] 0 nw = bg + a.per ∧ GInv a (k + 1) nw (bg + a.per) p' ∧ (stateR p' = 1 ↔ bg + a.per ≤ nw) := by
  have hp := hok.per
  rw [hs.per] at hp
  have hbp := hok.beg
  have htk : tickB nw = true := tick_in h0.1 (by omega)
  have hd : doneF nw p = some (doneP nw p) := by simp [doneF, hst, hh]
  have hact := act_one _ _ _ _ htk hd
  have hper' : ¬ p.per = 0 := by rw [hs.per]; exact hper
  refine ⟨_, hact, ?_, ?_, ?_⟩
  · unfold doneR
    rw [hact]
    simp only [if_true, Int.toNat_zero, List.getElem?_cons_zero, Option.map_some, Option.getD_some]
    unfold doneN
    rw [if_neg hper', hb, hs.per]
  · have hko := keeps_done nw htk p _ hok hd
    unfold doneP at hko ⊢
    rw [if_neg hper'] at hko ⊢
    by_cases hc : p.beg + p.per ≤ nw
    · rw [if_pos hc] at hko ⊢
      rw [hb, hs.per] at hc hko ⊢
      refine ⟨⟨hs.pri, hs.per, hs.cap, hs.dl, hs.off⟩, hko, hh, ⟨h0.1, by have := h0.2; omega⟩, by omega, .inl ⟨rfl, rfl, hc⟩⟩
    · rw [if_neg hc] at hko ⊢
      rw [hb, hs.per] at hc hko ⊢
      refine ⟨⟨hs.pri, hs.per, hs.cap, hs.dl, hs.off⟩, hko, hh, ⟨h0.1, by have := h0.2; omega⟩, by omega, .inr ⟨rfl, rfl, by omega, by omega⟩⟩
  · unfold doneP
    rw [if_neg hper', hb, hs.per]
    split <;> simp [stateR, atP, restP, hh] <;> omega

end Go.Proofs.Ytgnjenmicojgnaa
