/-
  Slices of ints that a structure owns: what append does to one, for whatever is appended.
-/
import Derived.Test.YtgnjenmicojgnaaB9
import Derived.Lib.AppendZeros
import Derived.Laws.AppendOwn
namespace Go.Proofs.Ytgnjenmicojgnaa
set_option linter.unusedVariables false
set_option linter.unusedSimpArgs false
open Go.RowKit

def iv (xs : List Int) : List Value := xs.map (Value.int .i64)
theorem iv_length (xs : List Int) : (iv xs).length = xs.length := List.length_map ..
theorem iv_one (xs : List Int) : ∀ u ∈ iv xs, u.oneCell' = true := by
  intro u hu
  unfold iv at hu
  rw [List.mem_map] at hu
  obtain ⟨x, _, rfl⟩ := hu
  rfl
theorem iv_append (xs ys : List Int) : iv (xs ++ ys) = iv xs ++ iv ys := List.map_append ..

/-- The slice v holds xs; its block, if it has one, holds it alone. -/
def Own (w : World) (v : Value) (xs : List Int) : Prop := w.ownsRow 0 3 1 v xs.length (iv xs)

theorem Own.nil (w : World) : Own w (.slice none 0 0) [] := World.ownsRow_nil w 0 3 1

theorem Own.lt {w : World} {v : Value} {xs : List Int} (h : Own w v xs) : ∀ k, v.ownBlock = some k → k < w.heap.size := fun k hk => (World.ownsRow.lt h k hk).2

theorem Own.keep {w w' : World} {v : Value} {xs : List Int} (h : Own w v xs) (hb : ∀ k, v.ownBlock = some k → w'.heap[k]? = w.heap[k]?) : Own w' v xs := by
  refine ⟨h.1, ?_⟩
  rcases h.2 with hn | ⟨g, cap, cur, rfl, hb0, hg, rest⟩
  · exact .inl hn
  · exact .inr ⟨g, cap, cur, rfl, hb0, (hb g rfl).trans hg, rest⟩

/-- What a slice of ints is as a value. -/
theorem Own.shape {w : World} {v : Value} {xs : List Int} (h : Own w v xs) : (v = .slice none 0 0 ∧ xs = []) ∨ ∃ g c cur, v = .slice (some ⟨g, 0, none⟩) xs.length c ∧ w.heap[g]? = some (.cells cur 3 (0, 0)) ∧ cur.size = c ∧ xs.length ≤ c ∧ c ≤ maxLen ∧ ∀ (i : Nat) (x : Int), xs[i]? = some x → cur[i]? = some (.int .i64 x) := by
  rcases h.2 with ⟨rfl, h0⟩ | ⟨g, cap, cur, rfl, hb0, hg, hn, hm, hs, ht⟩
  · exact .inl ⟨rfl, List.eq_nil_of_length_eq_zero h0⟩
  · refine .inr ⟨g, cap, cur, rfl, hg, by omega, hn, hm, fun i x hx => ?_⟩
    have hi : i < xs.length := (List.getElem?_eq_some_iff.1 hx).1
    have : (iv xs)[i]? = some (.int .i64 x) := by unfold iv; rw [List.getElem?_map, hx]; rfl
    rw [← ht, List.getElem?_take, if_pos (by omega)] at this
    simpa using this

theorem Own.make {w : World} {g c : Nat} {cur : Array Value} {xs : List Int} (hg : w.heap[g]? = some (.cells cur 3 (0, 0))) (hs : cur.size = c) (hn : xs.length ≤ c) (hm : c ≤ maxLen) (hc : ∀ (i : Nat) (x : Int), xs[i]? = some x → cur[i]? = some (.int .i64 x)) :
    Own w (.slice (some ⟨g, 0, none⟩) xs.length c) xs := by
  refine ⟨by rw [iv_length, Nat.mul_one], .inr ⟨g, c, cur, rfl, Nat.zero_le _, hg, hn, hm, by omega, ?_⟩⟩
  apply List.ext_getElem?
  intro i
  rw [List.getElem?_take]
  unfold iv
  rw [List.getElem?_map]
  by_cases hi : i < xs.length * 1
  · rw [if_pos hi]
    have hi' : i < xs.length := by omega
    rw [List.getElem?_eq_getElem hi', Array.getElem?_toList]
    exact hc i _ (List.getElem?_eq_getElem hi')
  · rw [if_neg hi, List.getElem?_eq_none_iff.2 (by omega)]
    rfl

/-- What an operand is that is appended: ints, in a slice of any type. -/
def Reads (w : World) (x : Value) (ys : List Int) : Prop := ∃ ax c, x = .slice ax ys.length c ∧ (ys ≠ [] → ∃ a, ax = some a ∧ ∀ (j : Nat) (u : Value), (iv ys)[j]? = some u → w.cell? (a.add j) = some u)

theorem Own.reads {w : World} {v : Value} {xs : List Int} (h : Own w v xs) : Reads w v xs := by
  rcases h.2 with ⟨rfl, h0⟩ | ⟨g, cap, cur, rfl, _⟩
  · have := List.eq_nil_of_length_eq_zero h0
    subst this
    exact ⟨none, 0, rfl, fun h => absurd rfl h⟩
  · exact ⟨_, _, rfl, fun _ => ⟨_, rfl, World.ownsRow.cells h rfl⟩⟩

theorem append_types {P : Program} {t tx ty e e' : TypeId} (ht : P.underlying t = some (.slice e)) (hx : P.underlying tx = some (.slice e')) (a : Option Addr) (n c : Nat) (x : Value) (w : World) :
    (Builtin.append_ #[t, tx] ty #[.slice a n c, x]).run P w = (Builtin.append_ #[t, t] ty #[.slice a n c, x]).run P w := by
  unfold Builtin.append_
  simp [run_underlying ht, run_underlying hx]

theorem run_append_none {P : Program} {t tx ty e e' : TypeId} (ht : P.underlying t = some (.slice e)) (hx : P.underlying tx = some (.slice e')) {i : TypeInfo} (hi : P.info? e = some i) (a : Option Addr) (n c : Nat) (hn : n ≤ c) (c' : Nat) (w : World) :
    (Builtin.append_ #[t, tx] ty #[.slice a n c, .slice none 0 c']).run P w = .ok (.slice a n c) w := by
  rw [append_types ht hx]
  cases a <;> simp [Builtin.append_, run_underlying ht, sizeOf, typeInfo, hi, Builtin.lenOf, Builtin.firstCells, loadCells, loadCellsFrom, hn, storeCells]

theorem infoInt : (Try.prog.info? 3).map (fun i => (i.zero, i.size, i.bytes)) = some (some (.int .i64 0), 1, 8) := by kernel_rfl

/-- append to a slice that is owned: it grows in place, or lies in a block of its own. -/
theorem own_append {t tx ty e' : TypeId} (ht : Try.prog.underlying t = some (.slice 3)) (hx : Try.prog.underlying tx = some (.slice e')) {w : World} {v x : Value} {xs ys : List Int} (h : Own w v xs) (hy : Reads w x ys) (hl : xs.length + ys.length ≤ 1000000) :
    ∃ v' w', (Builtin.append_ #[t, tx] ty #[v, x]).run Try.prog w = .ok v' w' ∧ Own w' v' (xs ++ ys) ∧ w.grownBy w' v.ownBlock ∧ (∀ k, v'.ownBlock = some k → v.ownBlock = some k ∨ w.heap.size ≤ k) := by
  obtain ⟨i0, hi0, hz0, hz1, hz2⟩ := info_parts infoInt
  have mk : ∀ {v' : Value} {w' : World}, w'.ownsRow 0 3 1 v' (xs.length + ys.length) (iv xs ++ iv ys) → Own w' v' (xs ++ ys) := fun hh => by unfold Own; rw [iv_append, List.length_append]; exact hh
  obtain ⟨ax, c, rfl, hr⟩ := hy
  by_cases hy0 : ys = []
  · subst hy0
    have hv : ∃ a n c0, v = .slice a n c0 ∧ n ≤ c0 := by
      rcases h.2 with ⟨rfl, h0⟩ | ⟨g, cap, cur, rfl, _, _, hn, _⟩
      · exact ⟨_, _, _, rfl, Nat.le_refl _⟩
      · exact ⟨_, _, _, rfl, hn⟩
    cases ax with
    | none =>
      obtain ⟨a, n, c0, rfl, hn⟩ := hv
      exact ⟨_, w, run_append_none ht hx hi0 a n c0 hn c w, by rw [List.append_nil]; exact h, ⟨rfl, rfl, rfl, Nat.le_refl _, fun _ _ _ => rfl⟩, fun k hk => .inl hk⟩
    | some a =>
      have hrun : ∃ v' w', (Builtin.append_ #[t, tx] ty #[v, .slice (some a) 0 c]).run Try.prog w = .ok v' w' ∧ v' = v ∧ w' = w := by
        obtain ⟨a', n, c0, rfl, hn⟩ := hv
        refine ⟨_, w, ?_, rfl, rfl⟩
        rw [append_types ht hx]
        cases a' <;> simp [Builtin.append_, run_underlying ht, sizeOf, typeInfo, hi0, Builtin.lenOf, Builtin.firstCells, loadCells, loadCellsFrom, hn, storeCells]
      obtain ⟨v', w', h1, rfl, rfl⟩ := hrun
      exact ⟨_, _, h1, by rw [List.append_nil]; exact h, ⟨rfl, rfl, rfl, Nat.le_refl _, fun _ _ _ => rfl⟩, fun k hk => .inl hk⟩
  · obtain ⟨a, rfl, hnews⟩ := hr hy0
    have hly : ys.length ≠ 0 := fun e => hy0 (List.eq_nil_of_length_eq_zero e)
    have hm : xs.length + ys.length ≤ maxLen := by unfold maxLen; omega
    have hlen : (iv ys).length = ys.length * 1 := by rw [iv_length, Nat.mul_one]
    obtain ⟨v', w', h1, h2, h3, h4⟩ := run_append_own (P := Try.prog) w 0 t ty 3 i0 _ 1 8 ht hi0 hz0 hz1 hz2 rfl (by decide) v xs.length (iv xs) h a ys.length c (iv ys) hlen hnews (iv_one ys) hm (by omega) (Nat.zero_le _)
    have hv : ∃ a n c0, v = .slice a n c0 := by
      rcases h.2 with ⟨rfl, h0⟩ | ⟨g, cap, cur, rfl, _⟩
      · exact ⟨_, _, _, rfl⟩
      · exact ⟨_, _, _, rfl⟩
    refine ⟨v', w', by obtain ⟨a, n, c0, rfl⟩ := hv; rw [append_types ht hx]; exact h1, mk h2, h3, fun k hk => ?_⟩
    rcases h.2 with ⟨rfl, h0⟩ | ⟨g, cap, cur, rfl, hb0, hg, hn, hmc, hs, htk⟩
    · have hx0 := List.eq_nil_of_length_eq_zero h0
      subst hx0
      obtain ⟨v2, w2, k1, k2, k3, k4⟩ := run_append_own (P := Try.prog) w w.heap.size t ty 3 i0 _ 1 8 ht hi0 hz0 hz1 hz2 rfl (by decide) (.slice none 0 0) 0 [] (World.ownsRow_nil w _ _ _) a ys.length c (iv ys) hlen hnews (iv_one ys) (by simpa using hm) (by simp at hl ⊢; omega) (Nat.le_refl _)
      have := h1.symm.trans k1
      injection this with e1 e2
      subst e1 e2
      exact .inr (World.ownsRow.lt k2 k hk).1
    · by_cases hroom : xs.length + ys.length ≤ cap
      · have hr := run_append_room (P := Try.prog) w t ty 3 i0 ht hi0 g xs.length cap cur hg a ys.length c (iv ys) (by rw [hz1]; exact hlen) hnews (iv_one ys) hroom (by rw [hz1, iv_length]; omega)
        have := h1.symm.trans hr
        injection this with e1 e2
        subst e1
        exact .inl hk
      · have holds := World.ownsRow.cells h (g := g) rfl
        have hr := run_append_grow (P := Try.prog) w t ty 3 i0 _ ht hi0 hz0 ⟨g, 0, none⟩ xs.length cap (iv xs) (by rw [hz1, iv_length, Nat.mul_one]) holds a ys.length c (iv ys) (by rw [hz1]; exact hlen) hnews (by omega) (by omega) (growslice_fits (by omega) (by rw [hz2]; omega))
        have := h1.symm.trans hr
        injection this with e1 e2
        subst e1
        simp only [Value.ownBlock] at hk
        injection hk with hk
        exact .inr (by omega)

end Go.Proofs.Ytgnjenmicojgnaa
