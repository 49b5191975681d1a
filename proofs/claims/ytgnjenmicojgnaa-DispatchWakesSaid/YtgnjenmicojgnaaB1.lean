/-
  Plain lemmas on rows of processes, and the step of New.
-/
import Derived.Test.YtgnjenmicojgnaaB0
import Derived.Deep.RegionHeld3
import Derived.Deep.AppendLies
import Derived.Deep.RegionLaw
namespace Go.Proofs.Ytgnjenmicojgnaa
set_option linter.unusedVariables false
set_option linter.unusedSimpArgs false
open Go.RowKit

def flat (ps : List Pr) : List Value := ps.flatMap fun p => p.cells.toList

theorem flat_length (ps : List Pr) : (flat ps).length = ps.length * 13 := by
  unfold flat
  induction ps with
  | nil => rfl
  | cons p ps ih => rw [List.flatMap_cons, List.length_append, ih]; simp [Pr.cells]; omega

theorem flat_get : ∀ (ps : List Pr) (i k : Nat) (p : Pr), ps[i]? = some p → k < 13 → (flat ps)[i * 13 + k]? = p.cells[k]?
  | [], i, k, p, h, _ => by simp at h
  | q :: ps, 0, k, p, h, hk => by
    simp at h
    subst h
    unfold flat
    rw [List.flatMap_cons, Nat.zero_mul, Nat.zero_add, List.getElem?_append_left (by simp [Pr.cells]; omega)]
    simp
  | q :: ps, i + 1, k, p, h, hk => by
    have ih := flat_get ps i k p (by simpa using h) hk
    unfold flat at ih ⊢
    rw [List.flatMap_cons, List.getElem?_append_right (by simp [Pr.cells]; omega)]
    have e : (i + 1) * 13 + k - q.cells.toList.length = i * 13 + k := by simp [Pr.cells]; omega
    rw [e]
    exact ih

theorem flat_snoc (ps : List Pr) (p : Pr) : flat (ps ++ [p]) = flat ps ++ p.cells.toList := by simp [flat]

theorem prAt_of {w : World} {g o : Nat} {p : Pr} (h : ∀ k, k < 13 → w.cell? ⟨g, o + k, none⟩ = p.cells[k]?) : PrAt w g o p where
  c0 := h 0 (by omega)
  c1 := h 1 (by omega)
  c2 := h 2 (by omega)
  c3 := h 3 (by omega)
  c4 := h 4 (by omega)
  c5 := h 5 (by omega)
  c6 := h 6 (by omega)
  c7 := h 7 (by omega)
  c8 := h 8 (by omega)
  c9 := h 9 (by omega)
  c10 := h 10 (by omega)
  c11 := h 11 (by omega)
  c12 := h 12 (by omega)

theorem prAt_to {w : World} {g o : Nat} {p : Pr} (h : PrAt w g o p) : ∀ k, k < 13 → w.cell? ⟨g, o + k, none⟩ = p.cells[k]?
  | 0, _ => h.c0
  | 1, _ => h.c1
  | 2, _ => h.c2
  | 3, _ => h.c3
  | 4, _ => h.c4
  | 5, _ => h.c5
  | 6, _ => h.c6
  | 7, _ => h.c7
  | 8, _ => h.c8
  | 9, _ => h.c9
  | 10, _ => h.c10
  | 11, _ => h.c11
  | 12, _ => h.c12
  | k + 13, hk => by omega

/-- A table out of a row that the call owns. -/
theorem tab_of_own {w : World} {t base : Nat} {va : Option Addr} {vc : Nat} {ps : List Pr} (hh : w.heap[t]? = some (.cells #[.slice va ps.length vc] 80 (0, 0)))
    (ho : w.ownsRow base 86 13 (.slice va ps.length vc) ps.length (flat ps)) (h0 : ps.length = 0 → Value.slice va ps.length vc = .slice none 0 0) (hl : ps.length ≤ 16) :
    ∃ g c, Tab w t g c ps ∧ (ps.length ≠ 0 → base ≤ g) := by
  by_cases hz : ps.length = 0
  · refine ⟨0, 0, ⟨?_, fun h => absurd hz h, hl⟩, fun h => absurd hz h⟩
    rw [hh, h0 hz]
    simp [slc, hz]
  · rcases ho.2 with ⟨_, h⟩ | ⟨g, cap, cur, hv, hg, hc, _⟩
    · exact absurd h hz
    · injection hv with hva _ hvc
      subst hva hvc
      refine ⟨g, vc, ⟨?_, fun _ => ⟨⟨_, hc⟩, fun i p hi => prAt_of fun k hk => ?_⟩, hl⟩, fun _ => hg⟩
      · rw [hh]; simp [slc, hz]
      · have hil : i < ps.length := (List.getElem?_eq_some_iff.1 hi).1
        rw [← flat_get ps i k p hi hk]
        exact ho.cellAt (i * 13 + k) (by omega)

/-- The cells of a table's processes, as append reads them. -/
theorem tab_news {w : World} {t g c : Nat} {ps : List Pr} (h : Tab w t g c ps) (hl : ps.length ≠ 0) : ∀ j u, (flat ps)[j]? = some u → w.cell? ((⟨g, 0, none⟩ : Addr).add j) = some u := by
  intro j u hu
  have hj : j < ps.length * 13 := by
    have := (List.getElem?_eq_some_iff.1 hu).1
    rwa [flat_length] at this
  have hadd : (⟨g, 0, none⟩ : Addr).add j = ⟨g, j, none⟩ := by unfold Addr.add; split <;> simp_all
  have hi : j / 13 < ps.length := by omega
  have hp : ps[j / 13]? = some ps[j / 13] := List.getElem?_eq_getElem hi
  have hP := (h.rows hl).2 _ _ hp
  have e := prAt_to hP (j % 13) (by omega)
  have f := flat_get ps (j / 13) (j % 13) _ hp (by omega)
  have hjj : j / 13 * 13 + j % 13 = j := by omega
  rw [hjj] at e f
  rw [hadd, e, ← f, hu]

theorem flat_one (ps : List Pr) : ∀ u ∈ flat ps, u.oneCell' = true := by
  intro u hu
  unfold flat at hu
  rw [List.mem_flatMap] at hu
  obtain ⟨p, _, hp⟩ := hu
  simp [Pr.cells] at hp
  rcases hp with h | h | h | h | h | h | h | h | h | h | h | h | h <;> subst h <;> rfl

/-- What a process is asked for. -/
structure At where
  pri : Int
  per : Int
  cap : Int
  dl : Int
  off : Int

structure AtAt (w : World) (b o : Nat) (a : At) : Prop where
  c0 : w.cell? ⟨b, o, none⟩ = some (.int .i64 a.pri)
  c1 : w.cell? ⟨b, o + 1, none⟩ = some (.int .i64 a.per)
  c2 : w.cell? ⟨b, o + 2, none⟩ = some (.int .i64 a.cap)
  c3 : w.cell? ⟨b, o + 3, none⟩ = some (.int .i64 a.dl)
  c4 : w.cell? ⟨b, o + 4, none⟩ = some (.int .i64 a.off)

def At.may (a : At) : Bool := mayB a.pri a.per a.cap a.dl a.off
def prOf (a : At) : Pr := ⟨a.pri, a.per, a.cap, a.dl, a.off, 0, false, 0, 0, 0, 0, 0, false⟩
def newOk (l : List At) : Bool := decide (l.length ≤ 16) && l.all At.may

/-- A slice value whose elements are what processes are asked for. -/
def AtRow (w : World) (A : Option Addr) (l : List At) : Prop := l.length ≠ 0 → ∃ b o, A = some ⟨b, o, none⟩ ∧ b < w.heap.size ∧ ∀ k a, l[k]? = some a → AtAt w b (o + k * 5) a

theorem info86 : (Try.prog.info? 86).map (fun i => (i.zero, i.size, i.bytes)) = some (some (.agg zeroP.cells), 13, 104) := by kernel_rfl

/-- New's loop: what holds behind k rounds. -/
def NewRel (w : World) (l : List At) (k : Nat) (va : Option Addr) (vc : Nat) (wr : World) : Prop :=
  wr.heap[w.heap.size]? = some (.cells #[.slice va k vc] 80 (0, 0)) ∧ wr.ownsRow (w.heap.size + 1) 86 13 (.slice va k vc) k (flat ((l.take k).map prOf)) ∧ Below w.heap.size w wr ∧
    (k = 0 → Value.slice va k vc = .slice none 0 0) ∧ (l.take k).all At.may = true

theorem new_start (w : World) (l : List At) : NewRel w l 0 none 0 (w.alloc (.cells #[.slice none 0 0] 80)) := by
  refine ⟨heap_alloc_new w _, ?_, (Below.refl _ _).alloc (Nat.le_refl _) _, fun _ => rfl, rfl⟩
  exact World.ownsRow_nil _ _ _ _

theorem take_snoc' {α : Type} (l : List α) (k : Nat) (a : α) (h : l[k]? = some a) : l.take (k + 1) = l.take k ++ [a] := by
  rw [List.take_add_one, h]; rfl

theorem new_step {w wr w1 w2 : World} {l : List At} {k : Nat} {va : Option Addr} {vc : Nat} {a : At} {o : Obj} (h : NewRel w l k va vc wr) (hlk : l[k]? = some a) (hm : a.may = true)
    (hb1 : Below (wr.alloc o).heap.size (wr.alloc o) w1) {p : Obj} {gg cap : Nat}
    (hown2 : w2.ownsRow (w.heap.size + 1) 86 13 (.slice (some ⟨gg, 0, none⟩) (k + 1) cap) (k + 1) (flat ((l.take k).map prOf) ++ (prOf a).cells.toList))
    (hgrow : (w1.alloc p).drew.grownBy w2 (Value.ownBlock (.slice va k vc))) :
    NewRel w l (k + 1) (some ⟨gg, 0, none⟩) cap (w2.setCell ⟨w.heap.size, 0, none⟩ (.slice (some ⟨gg, 0, none⟩) (k + 1) cap)) := by
  obtain ⟨hh, hown, hb, -, hall⟩ := h
  have htl : w.heap.size < wr.heap.size := Row.lt ⟨_, hh⟩
  have hs1 := hb1.size
  rw [World.size_alloc] at hs1
  have hne : some w.heap.size ≠ Value.ownBlock (.slice va k vc) := fun he => by have := (hown.lt _ he.symm).1; omega
  have e1 : w1.heap[w.heap.size]? = wr.heap[w.heap.size]? := (hb1.block _ (by simp; omega)).trans (Below.heap_alloc _ _ _ htl)
  have e2 : w2.heap[w.heap.size]? = some (.cells #[.slice va k vc] 80 (0, 0)) := by
    rw [hgrow.block _ (by simp; omega) hne]
    exact (Below.heap_alloc w1 p _ (by omega)).trans (e1.trans hh)
  have hb2 : Below w.heap.size w w2 := by
    have k1 : Below w.heap.size w w1 := (hb.alloc hb.size o).trans (hb1.mono (by simp; omega))
    have k2 : Below w.heap.size w (w1.alloc p).drew := (k1.alloc k1.size p).drew
    exact k2.grown hgrow k2.size (fun g hg => by have := (hown.lt g hg).1; omega)
  refine ⟨?_, ?_, hb2.setCell (Nat.le_refl _) _, fun h => by omega, ?_⟩
  · simp [World.setCell, Array.getElem?_modify, e2]
  · rw [take_snoc' l k a hlk, List.map_append, List.map_singleton, flat_snoc]
    exact ownsRow_setCell_below hown2 (by simp) _
  · rw [take_snoc' l k a hlk, List.all_append, hall]
    simp [hm]

end Go.Proofs.Ytgnjenmicojgnaa
