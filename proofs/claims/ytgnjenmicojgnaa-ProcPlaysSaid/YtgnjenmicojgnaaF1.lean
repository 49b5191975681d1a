/-
  The plain law of Same: two tables are the same just if the document's two slices are.
-/
import Derived.Test.YtgnjenmicojgnaaG1
import Derived.Test.YtgnjenmicojgnaaE5
namespace Go.Proofs.Ytgnjenmicojgnaa
set_option linter.unusedVariables false
set_option linter.unusedSimpArgs false
open Go.RowKit

theorem sameB_eq {p q : Pr} : sameB p q = true ↔ p = q := by
  obtain ⟨a1, a2, a3, a4, a5, a6, a7, a8, a9, a10, a11, a12, a13⟩ := p
  obtain ⟨b1, b2, b3, b4, b5, b6, b7, b8, b9, b10, b11, b12, b13⟩ := q
  simp [sameB]

theorem rsameB_eq {p q : Rf} : rsameB p q = true ↔ p = q := by
  obtain ⟨a1, a2, a3, a4, a5, a6, a7, a8, a9, a10, a11, a12, a13⟩ := p
  obtain ⟨b1, b2, b3, b4, b5, b6, b7, b8, b9, b10, b11, b12, b13⟩ := q
  simp [rsameB]

/-- What the document keeps of a process, from what the table keeps of it. -/
def toR (p : Pr) : Rf := ⟨p.pri, p.per, p.cap, p.dl, p.off, p.st, p.held, p.til, p.beg, p.used, p.missed, if p.st = 0 then p.pri else p.base, p.raised⟩

theorem bare_seen {p : Pr} {r : Rf} (hp : p.Ok) (h : Rel p r) : bareR r = toR (seenP p) := by
  obtain ⟨e1, e2, e3, e4, e5, e6, e7, e8, e9, e10, e11, e12, e13, ho⟩ := h
  obtain ⟨h1, h2⟩ := hp.st
  obtain ⟨r1, r2, r3, r4, r5, r6, r7, r8, r9, r10, r11, r12, r13⟩ := r
  simp only at e1 e2 e3 e4 e5 e6 e7 e8 e9 e10 e11 e12 e13
  unfold bareR seenP toR
  by_cases c0 : p.st = 0
  · simp [e6, c0, freshR, sleepP, e1, e2, e3, e4, e5]
  · by_cases c1 : p.st = 1
    · simp [e6, c1, e1, e2, e3, e4, e5, e7, e8, e9, e10, e11, e12, e13]
    · by_cases c2 : p.st = 2
      · simp [e6, c2, e1, e2, e3, e4, e5, e7, e8, e9, e10, e11, e12, e13]
      · have c3 : p.st = 3 := by omega
        simp [e6, c3, e1, e2, e3, e4, e5, e7, e8, e9, e10, e11, e12, e13]

theorem toR_inj {p q : Pr} (hp : p.st = 0 → p.base = 0) (hq : q.st = 0 → q.base = 0) (h : toR p = toR q) : p = q := by
  obtain ⟨a1, a2, a3, a4, a5, a6, a7, a8, a9, a10, a11, a12, a13⟩ := p
  obtain ⟨b1, b2, b3, b4, b5, b6, b7, b8, b9, b10, b11, b12, b13⟩ := q
  unfold toR at h
  simp only [Rf.mk.injEq] at h
  simp only at hp hq
  obtain ⟨rfl, rfl, rfl, rfl, rfl, rfl, rfl, rfl, rfl, rfl, rfl, h12, rfl⟩ := h
  by_cases c0 : a6 = 0
  · rw [hp c0, hq c0]
  · rw [if_neg c0, if_neg c0] at h12
    rw [h12]

theorem seen_base (p : Pr) : (seenP p).st = 0 → (seenP p).base = 0 := by
  unfold seenP
  intro h
  split
  · rfl
  · rename_i c0
    rw [if_neg c0] at h
    split at h
    · exact absurd h c0
    · split at h
      · exact absurd h c0
      · exact absurd h c0

theorem same_rel {ps qs : List Pr} {rs ss : List Rf} (hp : ∀ p, p ∈ ps → p.Ok) (hq : ∀ p, p ∈ qs → p.Ok) (h : RelL ps rs) (k : RelL qs ss) : sameL ps qs = rsameL rs ss := by
  rw [Bool.eq_iff_iff, sameL_iff, rsameL_iff]
  unfold SameP RSameP
  rw [h.1, k.1]
  refine and_congr_right fun hl => ⟨fun H i r s hr hs => ?_, fun H i p q hi hj => ?_⟩
  · have hil : i < rs.length := (List.getElem?_eq_some_iff.1 hr).1
    obtain ⟨p, hi⟩ : ∃ p, ps[i]? = some p := ⟨_, List.getElem?_eq_getElem (by rw [h.1]; exact hil)⟩
    obtain ⟨q, hj⟩ : ∃ q, qs[i]? = some q := ⟨_, List.getElem?_eq_getElem (by rw [k.1, ← hl]; exact hil)⟩
    have := sameB_eq.1 (H i p q hi hj)
    rw [rsameB_eq, bare_seen (hp p (List.mem_of_getElem? hi)) (h.2 i p r hi hr), bare_seen (hq q (List.mem_of_getElem? hj)) (k.2 i q s hj hs), this]
  · have hil : i < ps.length := (List.getElem?_eq_some_iff.1 hi).1
    obtain ⟨r, hr⟩ : ∃ r, rs[i]? = some r := ⟨_, List.getElem?_eq_getElem (by rw [← h.1]; exact hil)⟩
    obtain ⟨s, hs⟩ : ∃ s, ss[i]? = some s := ⟨_, List.getElem?_eq_getElem (by rw [← hl, ← h.1]; exact hil)⟩
    have := rsameB_eq.1 (H i r s hr hs)
    rw [bare_seen (hp p (List.mem_of_getElem? hi)) (h.2 i p r hi hr), bare_seen (hq q (List.mem_of_getElem? hj)) (k.2 i q s hj hs)] at this
    exact sameB_eq.2 (toR_inj (seen_base p) (seen_base q) this)

theorem same_symm (ps qs : List Pr) : sameL qs ps = sameL ps qs := by
  rw [Bool.eq_iff_iff, sameL_iff, sameL_iff]
  constructor <;> rintro ⟨h1, h2⟩ <;> exact ⟨h1.symm, fun i p q hp hq => sameB_eq.2 (sameB_eq.1 (h2 i q p hq hp)).symm⟩

end Go.Proofs.Ytgnjenmicojgnaa
