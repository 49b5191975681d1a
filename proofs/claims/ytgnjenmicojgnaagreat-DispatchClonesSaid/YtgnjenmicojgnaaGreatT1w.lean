/-
  The statements' World in memory: a table, a row, timers, a clock.
-/
import Derived.Test.YtgnjenmicojgnaaGreatT0w
import Derived.Test.YtgnjenmicojgnaaGreatP4w
import Derived.Test.YtgnjenmicojgnaaGreatN5w
import Derived.Deep.RegionLaw
namespace Go.Proofs.YtgnjenmicojgnaaGreat
set_option linter.unusedVariables false
set_option linter.unusedSimpArgs false
open Go.RowKit

/-- Block x is a World: its table at t (the processes in block g), its row, its timers, its clock. -/
structure Wld (w : World) (x t g c : Nat) (vE vD : Value) (ps : List Pr) (E D : List (Int × Int)) (now : Int) : Prop where
  hdr : w.heap[x]? = some (.cells #[.pointer (some ⟨t, 0, none⟩), vE, vD, .int .i64 now] 48 (0, 0))
  gl : g < w.heap.size
  T : Tab w t g c ps
  ok : ∀ p, p ∈ ps → p.Ok
  xg : x ≠ g
  E : OwnP 88 w vE E
  D : OwnP 99 w vD D
  Ex : ∀ b, vE.ownBlock = some b → b ≠ x ∧ b ≠ g
  Dx : ∀ b, vD.ownBlock = some b → b ≠ x ∧ b ≠ g

def inW (x t g : Nat) (vE vD : Value) (i : Nat) : Prop := i = x ∨ i = t ∨ i = g ∨ vE.ownBlock = some i ∨ vD.ownBlock = some i

section
variable {w w1 w' : World} {x t g c : Nat} {vE vD u : Value} {ps ps' : List Pr} {E E' D D' : List (Int × Int)} {now : Int}

theorem Wld.xl (h : Wld w x t g c vE vD ps E D now) : x < w.heap.size := (Array.getElem?_eq_some_iff.1 h.hdr).1
theorem Wld.c0 (h : Wld w x t g c vE vD ps E D now) : w.cell? ⟨x, 0, none⟩ = some (.pointer (some ⟨t, 0, none⟩)) := by rw [cell_of_row w x 0 _ 48 (0, 0) h.hdr]; rfl
theorem Wld.c1 (h : Wld w x t g c vE vD ps E D now) : w.cell? ⟨x, 1, none⟩ = some vE := by rw [cell_of_row w x 1 _ 48 (0, 0) h.hdr]; rfl
theorem Wld.c2 (h : Wld w x t g c vE vD ps E D now) : w.cell? ⟨x, 2, none⟩ = some vD := by rw [cell_of_row w x 2 _ 48 (0, 0) h.hdr]; rfl
theorem Wld.c3 (h : Wld w x t g c vE vD ps E D now) : w.cell? ⟨x, 3, none⟩ = some (.int .i64 now) := by rw [cell_of_row w x 3 _ 48 (0, 0) h.hdr]; rfl
theorem Wld.fz (h : Wld w x t g c vE vD ps E D now) (j : Nat) : w.frozen? ⟨x, j, none⟩ = false := by simp [World.frozen?, h.hdr]
theorem Wld.tx (h : Wld w x t g c vE vD ps E D now) : t ≠ x := by
  rintro rfl
  have := h.T.hdr
  rw [h.hdr] at this
  injection this with this
  injection this with _ e _
  exact absurd e (by decide)

theorem Wld.lt (h : Wld w x t g c vE vD ps E D now) {i : Nat} (hi : inW x t g vE vD i) : i < w.heap.size := by
  rcases hi with rfl | rfl | rfl | hi | hi
  · exact h.xl
  · exact h.T.lt
  · exact h.gl
  · exact h.E.lt i hi
  · exact h.D.lt i hi

theorem Wld.keep (h : Wld w x t g c vE vD ps E D now) (hs : w.heap.size ≤ w'.heap.size) (hb : ∀ i, inW x t g vE vD i → w'.heap[i]? = w.heap[i]?) : Wld w' x t g c vE vD ps E D now :=
  ⟨(hb x (.inl rfl)).trans h.hdr, Nat.lt_of_lt_of_le h.gl hs, h.T.keep2 (hb t (.inr (.inl rfl))) (hb g (.inr (.inr (.inl rfl)))), h.ok, h.xg, h.E.keep (fun k hk => hb k (.inr (.inr (.inr (.inl hk))))), h.D.keep (fun k hk => hb k (.inr (.inr (.inr (.inr hk))))), h.Ex, h.Dx⟩
theorem Wld.below (h : Wld w x t g c vE vD ps E D now) (hb : Below w.heap.size w w') : Wld w' x t g c vE vD ps E D now := h.keep hb.size (fun i hi => hb.block i (h.lt hi))
theorem Wld.kept (h : Wld w x t g c vE vD ps E D now) {S : Nat → Prop} (hk : Kept w w' S) (hs : ∀ i, inW x t g vE vD i → ¬ S i) : Wld w' x t g c vE vD ps E D now := h.keep hk.size (fun i hi => hk.block i (h.lt hi) (hs i hi))

theorem keep2_of {w w' : World} {t g c : Nat} {ps : List Pr} (h : Tab w t g c ps) (ht : w'.heap[t]? = w.heap[t]?) (hg : w'.heap[g]? = w.heap[g]?) : Tab w' t g c ps := h.keep2 ht hg

theorem Wld.tab (h : Wld w x t g c vE vD ps E D now) (hT : Tab w' t g c ps') (hok : ∀ p, p ∈ ps' → p.Ok) (ha : Apart w.heap.size w w' g) : Wld w' x t g c vE vD ps' E D now :=
  ⟨(ha.block x h.xl h.xg).trans h.hdr, Nat.lt_of_lt_of_le h.gl ha.size, hT, hok, h.xg, h.E.keep (fun k hk => ha.block k (h.E.lt k hk) (h.Ex k hk).2), h.D.keep (fun k hk => ha.block k (h.D.lt k hk) (h.Dx k hk).2), h.Ex, h.Dx⟩

theorem Wld.setE (h : Wld w x t g c vE vD ps E D now) (hb : Below w.heap.size w w1) (ho : OwnP 88 w1 u E') (hf : ∀ b, u.ownBlock = some b → w.heap.size ≤ b) :
    Wld (w1.setCell ⟨x, 1, none⟩ u) x t g c u vD ps E' D now ∧ Kept w (w1.setCell ⟨x, 1, none⟩ u) (fun i => i = x ∨ i = g) := by
  have h1 := h.below hb
  have hxl := h.xl
  have hgl := h.gl
  have hk := Kept.setCell w1 x 1 u
  refine ⟨⟨?_, by rw [show (w1.setCell ⟨x, 1, none⟩ u).heap.size = w1.heap.size by simp]; exact h1.gl, h1.T.keep2 (heap_setCell_other h.tx) (heap_setCell_other (Ne.symm h.xg)), h.ok, h.xg, ho.keep (fun k hk => heap_setCell_other (by have := hf k hk; omega)), h1.D.keep (fun k hk => heap_setCell_other (h.Dx k hk).1), fun b hb => ⟨by have := hf b hb; omega, by have := hf b hb; omega⟩, h.Dx⟩, ?_⟩
  · rw [heap_setCell h1.hdr]; rfl
  · exact (Kept.of_below hb).trans hk (fun i _ hi => .inl hi)
theorem Wld.setD (h : Wld w x t g c vE vD ps E D now) (hb : Below w.heap.size w w1) (ho : OwnP 99 w1 u D') (hf : ∀ b, u.ownBlock = some b → w.heap.size ≤ b) :
    Wld (w1.setCell ⟨x, 2, none⟩ u) x t g c vE u ps E D' now ∧ Kept w (w1.setCell ⟨x, 2, none⟩ u) (fun i => i = x ∨ i = g) := by
  have h1 := h.below hb
  have hxl := h.xl
  have hgl := h.gl
  have hk := Kept.setCell w1 x 2 u
  refine ⟨⟨?_, by rw [show (w1.setCell ⟨x, 2, none⟩ u).heap.size = w1.heap.size by simp]; exact h1.gl, h1.T.keep2 (heap_setCell_other h.tx) (heap_setCell_other (Ne.symm h.xg)), h.ok, h.xg, h1.E.keep (fun k hk => heap_setCell_other (h.Ex k hk).1), ho.keep (fun k hk => heap_setCell_other (by have := hf k hk; omega)), h.Ex, fun b hb => ⟨by have := hf b hb; omega, by have := hf b hb; omega⟩⟩, ?_⟩
  · rw [heap_setCell h1.hdr]; rfl
  · exact (Kept.of_below hb).trans hk (fun i _ hi => .inl hi)
theorem Wld.setNow (h : Wld w x t g c vE vD ps E D now) (n : Int) :
    Wld (w.setCell ⟨x, 3, none⟩ (.int .i64 n)) x t g c vE vD ps E D n ∧ Kept w (w.setCell ⟨x, 3, none⟩ (.int .i64 n)) (fun i => i = x ∨ i = g) := by
  have hk := Kept.setCell w x 3 (.int .i64 n)
  refine ⟨⟨?_, by rw [show (w.setCell ⟨x, 3, none⟩ (.int .i64 n)).heap.size = w.heap.size by simp]; exact h.gl, h.T.keep2 (heap_setCell_other h.tx) (heap_setCell_other (Ne.symm h.xg)), h.ok, h.xg, h.E.keep (fun k hk => heap_setCell_other (h.Ex k hk).1), h.D.keep (fun k hk => heap_setCell_other (h.Dx k hk).1), h.Ex, h.Dx⟩, ?_⟩
  · rw [heap_setCell h.hdr]; rfl
  · exact hk.mono (fun i _ hi => .inl hi)
end

/-- What an operation on a World leaves. -/
def WPost (w : World) (x t g c : Nat) (vE vD : Value) (ps : List Pr) (E D : List (Int × Int)) (now : Int) (r : Value) (e : Ending) (w' : World) : Prop :=
  e = .returned r ∧ ∃ vE' vD', Wld w' x t g c vE' vD' ps E D now ∧ Kept w w' (fun i => i = x ∨ i = g) ∧ (∀ b, vE'.ownBlock = some b → vE.ownBlock = some b ∨ w.heap.size ≤ b) ∧ (∀ b, vD'.ownBlock = some b → vD.ownBlock = some b ∨ w.heap.size ≤ b)

section
variable {w w1 w' : World} {x t g c : Nat} {vE vD vE1 vD1 : Value} {ps : List Pr} {E D : List (Int × Int)} {now : Int}
theorem WPost.trans {r : Value} {e : Ending} (hk : Kept w w1 (fun i => i = x ∨ i = g)) (h1 : ∀ b, vE1.ownBlock = some b → vE.ownBlock = some b ∨ w.heap.size ≤ b) (h2 : ∀ b, vD1.ownBlock = some b → vD.ownBlock = some b ∨ w.heap.size ≤ b) (h : WPost w1 x t g c vE1 vD1 ps E D now r e w') :
    WPost w x t g c vE vD ps E D now r e w' := by
  obtain ⟨he, vE', vD', hW, hk', k1, k2⟩ := h
  refine ⟨he, vE', vD', hW, hk.trans hk' (fun _ _ hi => hi), fun b hb => ?_, fun b hb => ?_⟩
  · rcases k1 b hb with h5 | h5
    · exact h1 b h5
    · exact .inr (Nat.le_trans hk.size h5)
  · rcases k2 b hb with h5 | h5
    · exact h2 b h5
    · exact .inr (Nat.le_trans hk.size h5)
theorem WPost.id {r : Value} (h : Wld w x t g c vE vD ps E D now) : WPost w x t g c vE vD ps E D now r (.returned r) w := ⟨rfl, vE, vD, h, Kept.refl _ _, fun b hb => .inl hb, fun b hb => .inl hb⟩
theorem WPost.to {r r' : Value} {e : Ending} (h : WPost w x t g c vE vD ps E D now r e w') : WPost w x t g c vE vD ps E D now r' (.returned r') w' := ⟨rfl, h.2⟩
theorem WPost.after {r : Value} {e : Ending} (hb : Below w.heap.size w w1) (h : WPost w1 x t g c vE vD ps E D now r e w') : WPost w x t g c vE vD ps E D now r e w' :=
  WPost.trans (Kept.of_below hb) (fun b hb => .inl hb) (fun b hb => .inl hb) h
end

/-- The row and the timers behind settle. -/
def setE (fr : Bool) (p : Pr) (i : Int) (E : List (Int × Int)) : List (Int × Int) :=
  if stateR p = 1 then (if i ∉ E.map Prod.fst ∨ fr = true then insW (fun y => decide (curR p ≤ y)) (rmQ E i) (i, curR p) else E) else rmQ E i
def setD (fr : Bool) (p : Pr) (i : Int) (D : List (Int × Int)) : List (Int × Int) :=
  if untilB p = true then (if fr = false ∧ (i, untilR p) ∈ D then D else rmQ D i ++ [(i, untilR p)]) else rmQ D i

end Go.Proofs.YtgnjenmicojgnaaGreat
