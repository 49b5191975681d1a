/-
  Slices of pairs of ints that a structure owns: what append does to one.
-/
import Derived.Test.YtgnjenmicojgnaaGreatQj
namespace Go.Proofs.YtgnjenmicojgnaaGreat
set_option linter.unusedVariables false
set_option linter.unusedSimpArgs false
open Go.RowKit

def pv (qs : List (Int × Int)) : List Value := flatG tmC qs
theorem pv_length (qs : List (Int × Int)) : (pv qs).length = qs.length * 2 := flatG_length tmC_length qs
theorem pv_one (qs : List (Int × Int)) : ∀ u ∈ pv qs, u.oneCell' = true := by
  intro u hu
  unfold pv flatG at hu
  rw [List.mem_flatMap] at hu
  obtain ⟨q, _, hu⟩ := hu
  simp [tmC] at hu
  rcases hu with rfl | rfl <;> rfl
theorem pv_append (xs ys : List (Int × Int)) : pv (xs ++ ys) = pv xs ++ pv ys := by unfold pv flatG; rw [List.flatMap_append]
theorem pv_get {qs : List (Int × Int)} {i : Nat} {q : Int × Int} (h : qs[i]? = some q) : (pv qs)[i * 2]? = some (.int .i64 q.1) ∧ (pv qs)[i * 2 + 1]? = some (.int .i64 q.2) :=
  ⟨flatG_get tmC_length qs i 0 q h (by omega), flatG_get tmC_length qs i 1 q h (by omega)⟩
theorem pv_drop (qs : List (Int × Int)) (k : Nat) : (pv qs).drop (k * 2) = pv (qs.drop k) := by
  induction k generalizing qs with
  | zero => simp
  | succ k ih =>
    cases qs with
    | nil => simp [pv, flatG]
    | cons q r =>
      have : pv (q :: r) = .int .i64 q.1 :: .int .i64 q.2 :: pv r := by simp [pv, flatG, tmC]
      rw [this, show (k + 1) * 2 = k * 2 + 2 by omega]
      simp only [List.drop_succ_cons]
      exact ih r
theorem pv_take (qs : List (Int × Int)) (k : Nat) : (pv qs).take (k * 2) = pv (qs.take k) := by
  induction k generalizing qs with
  | zero => simp [pv, flatG]
  | succ k ih =>
    cases qs with
    | nil => simp [pv, flatG]
    | cons q r =>
      have h2 : ∀ (q : Int × Int) (r : List (Int × Int)), pv (q :: r) = .int .i64 q.1 :: .int .i64 q.2 :: pv r := fun q r => by simp [pv, flatG, tmC]
      rw [h2, show (k + 1) * 2 = k * 2 + 2 by omega]
      simp only [List.take_succ_cons]
      rw [h2, ih r]

/-- The slice v, of elements of type T, holds qs; its block, if it has one, holds it alone. -/
def OwnP (T : TypeId) (w : World) (v : Value) (qs : List (Int × Int)) : Prop := w.ownsRow 0 T 2 v qs.length (pv qs)

theorem OwnP.nil (T : TypeId) (w : World) : OwnP T w (.slice none 0 0) [] := World.ownsRow_nil w 0 T 2
theorem OwnP.lt {T : TypeId} {w : World} {v : Value} {qs : List (Int × Int)} (h : OwnP T w v qs) : ∀ k, v.ownBlock = some k → k < w.heap.size := fun k hk => (World.ownsRow.lt h k hk).2
theorem OwnP.keep {T : TypeId} {w w' : World} {v : Value} {qs : List (Int × Int)} (h : OwnP T w v qs) (hb : ∀ k, v.ownBlock = some k → w'.heap[k]? = w.heap[k]?) : OwnP T w' v qs := by
  refine ⟨h.1, ?_⟩
  rcases h.2 with hn | ⟨g, cap, cur, rfl, hb0, hg, rest⟩
  · exact .inl hn
  · exact .inr ⟨g, cap, cur, rfl, hb0, (hb g rfl).trans hg, rest⟩
theorem OwnP.alloc {T : TypeId} {w : World} {v : Value} {qs : List (Int × Int)} (h : OwnP T w v qs) (o : Obj) : OwnP T (w.alloc o) v qs := h.keep (fun k hk => Below.heap_alloc w o k (h.lt k hk))
theorem OwnP.below {T : TypeId} {w w' : World} {v : Value} {qs : List (Int × Int)} (h : OwnP T w v qs) (hb : Below w.heap.size w w') : OwnP T w' v qs := h.keep (fun k hk => hb.block k (h.lt k hk))
theorem OwnP.sl {T : TypeId} {w : World} {v : Value} {qs : List (Int × Int)} (h : OwnP T w v qs) : ∃ a c, v = .slice a qs.length c := by
  rcases h.2 with ⟨h1, h0⟩ | ⟨g, cap, cur, hv, _⟩
  · exact ⟨none, 0, by rw [h1, h0]⟩
  · exact ⟨_, _, hv⟩
theorem OwnP.shape {T : TypeId} {w : World} {v : Value} {qs : List (Int × Int)} (h : OwnP T w v qs) : (v = .slice none 0 0 ∧ qs = []) ∨ ∃ g c cur, v = .slice (some ⟨g, 0, none⟩) qs.length c ∧ w.heap[g]? = some (.cells cur T (0, 0)) ∧ cur.size = c * 2 ∧ qs.length ≤ c ∧ c ≤ maxLen ∧ ∀ (j : Nat) (u : Value), (pv qs)[j]? = some u → cur[j]? = some u := by
  rcases h.2 with ⟨rfl, h0⟩ | ⟨g, cap, cur, rfl, hb0, hg, hn, hm, hs, ht⟩
  · exact .inl ⟨rfl, List.eq_nil_of_length_eq_zero h0⟩
  · refine .inr ⟨g, cap, cur, rfl, hg, hs, hn, hm, fun j u hu => ?_⟩
    have hj := (List.getElem?_eq_some_iff.1 hu).1
    rw [pv_length] at hj
    rw [← ht, List.getElem?_take, if_pos hj] at hu
    simpa using hu
theorem OwnP.make {T : TypeId} {w : World} {g c : Nat} {cur : Array Value} {qs : List (Int × Int)} (hg : w.heap[g]? = some (.cells cur T (0, 0))) (hs : cur.size = c * 2) (hn : qs.length ≤ c) (hm : c ≤ maxLen) (hc : ∀ (j : Nat) (u : Value), (pv qs)[j]? = some u → cur[j]? = some u) :
    OwnP T w (.slice (some ⟨g, 0, none⟩) qs.length c) qs := by
  refine ⟨pv_length qs, .inr ⟨g, c, cur, rfl, Nat.zero_le _, hg, hn, hm, hs, ?_⟩⟩
  apply List.ext_getElem?
  intro i
  rw [List.getElem?_take]
  by_cases hi : i < qs.length * 2
  · rw [if_pos hi, Array.getElem?_toList]
    have hi' : i < (pv qs).length := by rw [pv_length]; exact hi
    rw [List.getElem?_eq_getElem hi']
    exact hc i _ (List.getElem?_eq_getElem hi')
  · rw [if_neg hi, List.getElem?_eq_none_iff.2 (by rw [pv_length]; omega)]
/-- The two cells of the i-th one. -/
theorem OwnP.at {T : TypeId} {w : World} {v : Value} {qs : List (Int × Int)} (h : OwnP T w v qs) {i : Nat} {q : Int × Int} (hq : qs[i]? = some q) : ∃ g c, v = .slice (some ⟨g, 0, none⟩) qs.length c ∧ g < w.heap.size ∧ w.cell? ⟨g, i * 2, none⟩ = some (.int .i64 q.1) ∧ w.cell? ⟨g, i * 2 + 1, none⟩ = some (.int .i64 q.2) := by
  rcases h.shape with ⟨_, h0⟩ | ⟨g, c, cur, h1, h2, h3, h4, h5, h6⟩
  · rw [h0] at hq
    simp at hq
  · obtain ⟨e1, e2⟩ := pv_get hq
    refine ⟨g, c, h1, (Array.getElem?_eq_some_iff.1 h2).1, ?_, ?_⟩
    · rw [cell_of_row w g _ cur T (0, 0) h2]
      exact h6 _ _ e1
    · rw [cell_of_row w g _ cur T (0, 0) h2]
      exact h6 _ _ e2

/-- An operand that is appended: pairs, in a slice of any type. -/
def ReadsP (w : World) (x : Value) (ys : List (Int × Int)) : Prop := ∃ ax c, x = .slice ax ys.length c ∧ (ys ≠ [] → ∃ a, ax = some a ∧ ∀ (j : Nat) (u : Value), (pv ys)[j]? = some u → w.cell? (a.add j) = some u)

theorem own_appendP {T t ty : TypeId} (ht : Tryz.prog.underlying t = some (.slice T)) (hT : (Tryz.prog.info? T).map (fun i => (i.zero, i.size, i.bytes)) = some (some (.agg #[.int .i64 0, .int .i64 0]), 2, 16)) {w : World} {v x : Value} {xs ys : List (Int × Int)} (h : OwnP T w v xs) (hy : ReadsP w x ys) (hl : xs.length + ys.length ≤ 1000000) :
    ∃ v' w', (Builtin.append_ #[t, t] ty #[v, x]).run Tryz.prog w = .ok v' w' ∧ OwnP T w' v' (xs ++ ys) ∧ w.grownBy w' v.ownBlock ∧ (∀ k, v'.ownBlock = some k → v.ownBlock = some k ∨ w.heap.size ≤ k) := by
  obtain ⟨i0, hi0, hz0, hz1, hz2⟩ := info_parts hT
  have mk : ∀ {v' : Value} {w' : World}, w'.ownsRow 0 T 2 v' (xs.length + ys.length) (pv xs ++ pv ys) → OwnP T w' v' (xs ++ ys) := fun hh => by unfold OwnP; rw [pv_append, List.length_append]; exact hh
  obtain ⟨ax, c, rfl, hr⟩ := hy
  by_cases hy0 : ys = []
  · subst hy0
    have hv : ∃ a n c0, v = .slice a n c0 ∧ n ≤ c0 := by
      rcases h.2 with ⟨rfl, h0⟩ | ⟨g, cap, cur, rfl, _, _, hn, _⟩
      · exact ⟨_, _, _, rfl, Nat.le_refl _⟩
      · exact ⟨_, _, _, rfl, hn⟩
    have hrun : ∃ v' w', (Builtin.append_ #[t, t] ty #[v, .slice ax 0 c]).run Tryz.prog w = .ok v' w' ∧ v' = v ∧ w' = w := by
      obtain ⟨a', n, c0, rfl, hn⟩ := hv
      refine ⟨_, w, ?_, rfl, rfl⟩
      cases ax <;> cases a' <;> simp [Builtin.append_, run_underlying ht, sizeOf, typeInfo, hi0, hz1, Builtin.lenOf, Builtin.firstCells, loadCells, loadCellsFrom, hn, storeCells]
    obtain ⟨v', w', h1, rfl, rfl⟩ := hrun
    exact ⟨_, _, h1, by rw [List.append_nil]; exact h, ⟨rfl, rfl, rfl, Nat.le_refl _, fun _ _ _ => rfl⟩, fun k hk => .inl hk⟩
  · obtain ⟨a, rfl, hnews⟩ := hr hy0
    have hly : ys.length ≠ 0 := fun e => hy0 (List.eq_nil_of_length_eq_zero e)
    have hm : xs.length + ys.length ≤ maxLen := by unfold maxLen; omega
    have hlen := pv_length ys
    obtain ⟨v', w', h1, h2, h3, h4⟩ := run_append_own (P := Tryz.prog) w 0 t ty T i0 _ 2 16 ht hi0 hz0 hz1 hz2 rfl (by decide) v xs.length (pv xs) h a ys.length c (pv ys) hlen hnews (pv_one ys) hm (by omega) (Nat.zero_le _)
    refine ⟨v', w', h1, mk h2, h3, fun k hk => ?_⟩
    rcases h.2 with ⟨rfl, h0⟩ | ⟨g, cap, cur, rfl, hb0, hg, hn, hmc, hs, htk⟩
    · have hx0 := List.eq_nil_of_length_eq_zero h0
      subst hx0
      obtain ⟨v2, w2, k1, k2, k3, k4⟩ := run_append_own (P := Tryz.prog) w w.heap.size t ty T i0 _ 2 16 ht hi0 hz0 hz1 hz2 rfl (by decide) (.slice none 0 0) 0 [] (World.ownsRow_nil w _ _ _) a ys.length c (pv ys) hlen hnews (pv_one ys) (by simpa using hm) (by simp at hl ⊢; omega) (Nat.le_refl _)
      have := h1.symm.trans k1
      injection this with e1 e2
      subst e1 e2
      exact .inr (World.ownsRow.lt k2 k hk).1
    · by_cases hroom : xs.length + ys.length ≤ cap
      · have hr := run_append_room (P := Tryz.prog) w t ty T i0 ht hi0 g xs.length cap cur hg a ys.length c (pv ys) (by rw [hz1]; exact hlen) hnews (pv_one ys) hroom (by rw [hz1, pv_length, hs]; omega)
        have := h1.symm.trans hr
        injection this with e1 e2
        subst e1
        exact .inl hk
      · have holds := World.ownsRow.cells h (g := g) rfl
        have hr := run_append_grow (P := Tryz.prog) w t ty T i0 _ ht hi0 hz0 ⟨g, 0, none⟩ xs.length cap (pv xs) (by rw [hz1, pv_length]) holds a ys.length c (pv ys) (by rw [hz1]; exact hlen) hnews (by omega) (by omega) (growslice_fits (by omega) (by rw [hz2]; omega))
        have := h1.symm.trans hr
        injection this with e1 e2
        subst e1
        simp only [Value.ownBlock] at hk
        injection hk with hk
        exact .inr (by omega)

theorem info131 : (Tryz.prog.info? 131).map (fun i => (i.zero, i.size, i.bytes)) = some (some (.agg #[.int .i64 0, .int .i64 0]), 2, 16) := by kernel_rfl
theorem info99 : (Tryz.prog.info? 99).map (fun i => (i.zero, i.size, i.bytes)) = some (some (.agg #[.int .i64 0, .int .i64 0]), 2, 16) := by kernel_rfl

end Go.Proofs.YtgnjenmicojgnaaGreat
