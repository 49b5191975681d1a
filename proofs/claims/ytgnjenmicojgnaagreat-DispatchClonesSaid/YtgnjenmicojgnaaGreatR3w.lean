/-
  How the arguments of the Dispatch statements are opened. No condition.
-/
import Derived.Test.YtgnjenmicojgnaaGreatTdw
import Derived.WalkKit
import Derived.ProofKit
import Derived.OpenShut
import Derived.ChangeOld
import Derived.Below
import Derived.Lib.SmallJoins
import Derived.Deep.Slices
import Derived.Deep.Fields
import Derived.ChangeSame
namespace Go.Proofs.YtgnjenmicojgnaaGreat
open Go.ChangeShapes Go.WideShapes Go.ChangeAt Go.RowKit Go.Joins Go.Deep
set_option linter.unusedVariables false
set_option linter.unusedSimpArgs false

theorem own : ownKnob Tryz.prog.godebug = none := by kernel_rfl
theorem laidOut : laidOutB Tryz.prog = true := by kernel_rfl

section
variable {H : Type} {enc : TypeId × Value → H} {P : Program} {w : World} {base : Nat} {spare : Nat → Bool} {held : Bool}
theorem open_slice_fields {t e : TypeId} {fs : Array Field} {fuel : Nat} {cs : List Value} {x : DataW H × List MemPlace} (ht : P.underlying t = some (.slice e)) (he : P.underlying e = some (.struct fs))
    (hone : oneCellFields P fs = true) (hC : P.cellsOf e = fs.size) (h : DataW.trod enc P w base spare held fuel t cs = some x) :
    (cs = [.slice none 0 0] ∧ x = (.nil, [])) ∨
    ∃ (a : Addr) (len cap m : Nat) (D : Nat → DataW H) (Pl : Nat → List MemPlace), cs = [.slice (some a) len cap] ∧ base ≤ a.block ∧ len ≤ cap ∧ cap ≤ maxLen ∧ m = (if spare a.block then cap else len) ∧
      x = (.slice ((List.range len).map D) ((List.range (m - len)).map fun j => D (len + j)), MemPlace.row a (m * fs.size) ++ (List.range m).flatMap Pl) ∧
      ∀ i, i < m → ∃ (ys : List (DataW H × List MemPlace)) (n : Nat), D i = .agg (ys.map (·.1)) ∧ Pl i = ys.flatMap (·.2) ∧ ys.length = fs.size ∧
        ∀ (j : Nat) (f : Field), fs[j]? = some f → ∃ (v : Value) (y : DataW H × List MemPlace), w.cell? (a.add (i * fs.size + j)) = some v ∧ ys[j]? = some y ∧ DataW.trod enc P w base spare held n f.type [v] = some y := by
  rcases open_slice ht h with h0 | ⟨a, len, cap, m, n, D, Pl, hcs, hb, hl, hm, hmm, hx, hi⟩
  · exact .inl h0
  · refine .inr ⟨a, len, cap, m, D, Pl, hcs, hb, hl, hm, hmm, by rw [hC] at hx; exact hx, fun i him => ?_⟩
    obtain ⟨cs', hc, ht'⟩ := hi i him
    rw [hC] at hc
    obtain ⟨ys, n', hn', hy, hlen, hyl, hf⟩ := DataW.trod_struct he ht'
    obtain ⟨_, hcl, hat⟩ := World.cells?_some hc
    simp only [Prod.mk.injEq] at hy
    refine ⟨ys, n', hy.1, hy.2, hyl, fun j f hj => ?_⟩
    obtain ⟨ho, hk⟩ := hone_of hone j f hj
    have hjl : j < fs.size := (Array.getElem?_eq_some_iff.1 hj).1
    have hcell := hat j hjl
    have hv : cs'[j]? = some (cs'[j]'(by omega)) := List.getElem?_eq_getElem (by omega)
    have h1 := hf j f hj
    rw [ho, hk] at h1
    have hone' : (cs'.drop j).take 1 = [cs'[j]'(by omega)] := by
      rw [List.drop_eq_getElem_cons (by omega)]
      rfl
    rw [hone'] at h1
    have hys : ys[j]? = some (ys[j]'(by omega)) := List.getElem?_eq_getElem (by omega)
    refine ⟨_, _, ?_, hys, h1.trans hys⟩
    rw [← Go.Deep.add_add, hcell, hv]
end

theorem add_none {b off j : Nat} : (⟨b, off, none⟩ : Addr).add j = ⟨b, off + j, none⟩ := by unfold Addr.add; split <;> simp_all

theorem slice_caps {H : Type} {enc : TypeId × Value → H} {W : World} {a0 : Option Addr} {len0 cap0 : Nat} {d0 : DataW H} {p0 : List MemPlace}
    (h0 : DataW.Trod enc Tryz.prog W 0 (fun _ => true) true 22 (.slice a0 len0 cap0) d0 p0) : len0 ≤ cap0 ∧ cap0 ≤ 9223372036854775807 ∧ (a0 = none → len0 = 0 ∧ cap0 = 0) := by
  obtain ⟨fuel, hf⟩ := h0
  rcases open_slice_fields Tryz.underlying22 Tryz.underlying65 (by kernel_rfl) (by kernel_rfl) hf with ⟨hcs, _⟩ | ⟨a, len, cap, m, D, Pl, hcs, _, hl, hm, _⟩
  · simp [Value.cells] at hcs
    obtain ⟨rfl, rfl, rfl⟩ := hcs
    exact ⟨by omega, by omega, fun _ => ⟨rfl, rfl⟩⟩
  · simp [Value.cells] at hcs
    obtain ⟨rfl, rfl, rfl⟩ := hcs
    unfold maxLen at hm
    exact ⟨hl, hm, fun h => by cases h⟩

set_option maxRecDepth 100000 in
theorem open_attrs {H : Type} {enc : TypeId × Value → H} {W : World} {a0 : Option Addr} {len0 cap0 : Nat} {d0 : DataW H} {p0 : List MemPlace}
    (h0 : DataW.Trod enc Tryz.prog W 0 (fun _ => true) true 22 (.slice a0 len0 cap0) d0 p0) : ∃ l : List At, l.length = len0 ∧ AtRow W a0 l := by
  obtain ⟨fuel, hf⟩ := h0
  rcases open_slice_fields Tryz.underlying22 Tryz.underlying65 (by kernel_rfl) (by kernel_rfl) hf with ⟨hcs, _⟩ | ⟨a, len, cap, m, D, Pl, hcs, _, hl, _, hm, _, hi⟩
  · simp [Value.cells] at hcs
    obtain ⟨rfl, rfl, rfl⟩ := hcs
    exact ⟨[], rfl, fun h => absurd rfl h⟩
  · simp [Value.cells] at hcs
    obtain ⟨rfl, rfl, rfl⟩ := hcs
    rw [if_pos rfl] at hm
    obtain ⟨b, off, spot⟩ := a
    have hel : ∀ i, i < len0 → ∃ x : At, W.cell? ((⟨b, off, spot⟩ : Addr).add (i * 5)) = some (.int .i64 x.pri) ∧ W.cell? ((⟨b, off, spot⟩ : Addr).add (i * 5 + 1)) = some (.int .i64 x.per) ∧ W.cell? ((⟨b, off, spot⟩ : Addr).add (i * 5 + 2)) = some (.int .i64 x.cap) ∧ W.cell? ((⟨b, off, spot⟩ : Addr).add (i * 5 + 3)) = some (.int .i64 x.dl) ∧ W.cell? ((⟨b, off, spot⟩ : Addr).add (i * 5 + 4)) = some (.int .i64 x.off) := by
      intro i hil
      obtain ⟨ys, k, _, _, _, hfl⟩ := hi i (by omega)
      obtain ⟨v0, y0, c0, _, t0⟩ := hfl 0 _ rfl
      obtain ⟨v1, y1, c1, _, t1⟩ := hfl 1 _ rfl
      obtain ⟨v2, y2, c2, _, t2⟩ := hfl 2 _ rfl
      obtain ⟨v3, y3, c3, _, t3⟩ := hfl 3 _ rfl
      obtain ⟨v4, y4, c4, _, t4⟩ := hfl 4 _ rfl
      obtain ⟨x0, e0, -, -⟩ := DataW.trod_int Tryz.underlying3 t0
      obtain ⟨x1, e1, -, -⟩ := DataW.trod_int Tryz.underlying3 t1
      obtain ⟨x2, e2, -, -⟩ := DataW.trod_int Tryz.underlying3 t2
      obtain ⟨x3, e3, -, -⟩ := DataW.trod_int Tryz.underlying3 t3
      obtain ⟨x4, e4, -, -⟩ := DataW.trod_int Tryz.underlying3 t4
      simp at e0 e1 e2 e3 e4
      subst e0 e1 e2 e3 e4
      exact ⟨⟨x0, x1, x2, x3, x4⟩, c0, c1, c2, c3, c4⟩
    by_cases hz : len0 = 0
    · exact ⟨[], by simp [hz], fun h => absurd rfl h⟩
    · obtain ⟨x, hx, _⟩ := hel 0 (by omega)
      have hspot : spot = none := by simpa [Addr.add] using World.cell?_spot hx
      subst hspot
      let F : Nat → At := fun i => if h : i < len0 then Classical.choose (hel i h) else ⟨0, 0, 0, 0, 0⟩
      have hF : ∀ i (h : i < len0), F i = Classical.choose (hel i h) := fun i h => dif_pos h
      refine ⟨(List.range len0).map F, by simp, fun _ => ⟨b, off, rfl, World.block_lt_of_cell? W _ (by simpa [Addr.add] using hx), fun k x hk => ?_⟩⟩
      rw [List.getElem?_map] at hk
      have hkl : k < len0 := by
        rcases Nat.lt_or_ge k len0 with h | h
        · exact h
        · rw [List.getElem?_eq_none (by simpa using h)] at hk; cases hk
      rw [List.getElem?_range hkl] at hk
      simp only [Option.map_some, Option.some.injEq] at hk
      have hs := Classical.choose_spec (hel k hkl)
      rw [← hF k hkl, hk] at hs
      rw [add_none, add_none, add_none, add_none, add_none] at hs
      exact ⟨hs.1, hs.2.1, hs.2.2.1, hs.2.2.2.1, hs.2.2.2.2⟩

set_option maxRecDepth 100000 in
theorem open_ops {H : Type} {enc : TypeId × Value → H} {W : World} {a0 : Option Addr} {len0 cap0 : Nat} {d0 : DataW H} {p0 : List MemPlace}
    (h0 : DataW.Trod enc Tryz.prog W 0 (fun _ => true) true 23 (.slice a0 len0 cap0) d0 p0) : ∃ l : List OpV, l.length = len0 ∧ Ops W a0 l := by
  obtain ⟨fuel, hf⟩ := h0
  rcases open_slice_fields Tryz.underlying23 Tryz.underlying32 (by kernel_rfl) (by kernel_rfl) hf with ⟨hcs, _⟩ | ⟨a, len, cap, m, D, Pl, hcs, _, hl, _, hm, _, hi⟩
  · simp [Value.cells] at hcs
    obtain ⟨rfl, rfl, rfl⟩ := hcs
    exact ⟨[], rfl, fun h => absurd rfl h⟩
  · simp [Value.cells] at hcs
    obtain ⟨rfl, rfl, rfl⟩ := hcs
    rw [if_pos rfl] at hm
    obtain ⟨b, off, spot⟩ := a
    have hel : ∀ i, i < len0 → ∃ x : OpV, W.cell? ((⟨b, off, spot⟩ : Addr).add (i * 4)) = some (.int .i64 x.kd) ∧ W.cell? ((⟨b, off, spot⟩ : Addr).add (i * 4 + 1)) = some (.int .i64 x.i) ∧ W.cell? ((⟨b, off, spot⟩ : Addr).add (i * 4 + 2)) = some (.int .i64 x.n) ∧ W.cell? ((⟨b, off, spot⟩ : Addr).add (i * 4 + 3)) = some (.int .i64 x.b) := by
      intro i hil
      obtain ⟨ys, k, _, _, _, hfl⟩ := hi i (by omega)
      obtain ⟨v0, y0, c0, _, t0⟩ := hfl 0 _ rfl
      obtain ⟨v1, y1, c1, _, t1⟩ := hfl 1 _ rfl
      obtain ⟨v2, y2, c2, _, t2⟩ := hfl 2 _ rfl
      obtain ⟨v3, y3, c3, _, t3⟩ := hfl 3 _ rfl
      obtain ⟨x0, e0, -, -⟩ := DataW.trod_int Tryz.underlying3 t0
      obtain ⟨x1, e1, -, -⟩ := DataW.trod_int Tryz.underlying3 t1
      obtain ⟨x2, e2, -, -⟩ := DataW.trod_int Tryz.underlying3 t2
      obtain ⟨x3, e3, -, -⟩ := DataW.trod_int Tryz.underlying3 t3
      simp at e0 e1 e2 e3
      subst e0 e1 e2 e3
      exact ⟨⟨x0, x1, x2, x3⟩, c0, c1, c2, c3⟩
    by_cases hz : len0 = 0
    · exact ⟨[], by simp [hz], fun h => absurd rfl h⟩
    · obtain ⟨x, hx, _⟩ := hel 0 (by omega)
      have hspot : spot = none := by simpa [Addr.add] using World.cell?_spot hx
      subst hspot
      let F : Nat → OpV := fun i => if h : i < len0 then Classical.choose (hel i h) else ⟨0, 0, 0, 0⟩
      have hF : ∀ i (h : i < len0), F i = Classical.choose (hel i h) := fun i h => dif_pos h
      refine ⟨(List.range len0).map F, by simp, fun _ => ⟨b, off, rfl, World.block_lt_of_cell? W _ (by simpa [Addr.add] using hx), fun k x hk => ?_⟩⟩
      rw [List.getElem?_map] at hk
      have hkl : k < len0 := by
        rcases Nat.lt_or_ge k len0 with h | h
        · exact h
        · rw [List.getElem?_eq_none (by simpa using h)] at hk; cases hk
      rw [List.getElem?_range hkl] at hk
      simp only [Option.map_some, Option.some.injEq] at hk
      have hs := Classical.choose_spec (hel k hkl)
      rw [← hF k hkl, hk] at hs
      rw [add_none, add_none, add_none, add_none] at hs
      exact ⟨hs.1, hs.2.1, hs.2.2.1, hs.2.2.2⟩

end Go.Proofs.YtgnjenmicojgnaaGreat
