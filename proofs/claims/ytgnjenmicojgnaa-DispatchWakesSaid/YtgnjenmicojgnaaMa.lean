/-
  Slices of pairs of ints that a structure owns: what append does to one.
  Delete on a slice of timers that is owned.
  Insert into a slice of timers, ahead of one: where there is room, and where there is none.
  Insert into a slice of timers, ahead of one, where there is no room.
  Insert of one timer into a slice of timers that is owned.
-/
import Derived.Test.YtgnjenmicojgnaaJ9w
namespace Go.Proofs.Ytgnjenmicojgnaa
set_option linter.unusedVariables false
set_option linter.unusedSimpArgs false
open Go.RowKit

def pv (qs : List (Int × Int)) : List Value := flatG tmC qs
theorem pv_length (qs : List (Int × Int)) : (pv qs).length = qs.length * 2 := flatG_length tmC_length qs
theorem pv_one (qs : List (Int × Int)) : ∀ u ∈ pv qs, u.oneCell' = true := by
  intro u hu
  unfold pv flatG at hu
  rw [List.mem_flatMap] at hu
  obtain ⟨q, _, hu⟩ := hu
  simp [tmC] at hu
  rcases hu with rfl | rfl <;> rfl
theorem pv_append (xs ys : List (Int × Int)) : pv (xs ++ ys) = pv xs ++ pv ys := by unfold pv flatG; rw [List.flatMap_append]
theorem pv_get {qs : List (Int × Int)} {i : Nat} {q : Int × Int} (h : qs[i]? = some q) : (pv qs)[i * 2]? = some (.int .i64 q.1) ∧ (pv qs)[i * 2 + 1]? = some (.int .i64 q.2) :=
  ⟨flatG_get tmC_length qs i 0 q h (by omega), flatG_get tmC_length qs i 1 q h (by omega)⟩
theorem pv_drop (qs : List (Int × Int)) (k : Nat) : (pv qs).drop (k * 2) = pv (qs.drop k) := by
  induction k generalizing qs with
  | zero => simp
  | succ k ih =>
    cases qs with
    | nil => simp [pv, flatG]
    | cons q r =>
      have : pv (q :: r) = .int .i64 q.1 :: .int .i64 q.2 :: pv r := by simp [pv, flatG, tmC]
      rw [this, show (k + 1) * 2 = k * 2 + 2 by omega]
      simp only [List.drop_succ_cons]
      exact ih r
theorem pv_take (qs : List (Int × Int)) (k : Nat) : (pv qs).take (k * 2) = pv (qs.take k) := by
  induction k generalizing qs with
  | zero => simp [pv, flatG]
  | succ k ih =>
    cases qs with
    | nil => simp [pv, flatG]
    | cons q r =>
      have h2 : ∀ (q : Int × Int) (r : List (Int × Int)), pv (q :: r) = .int .i64 q.1 :: .int .i64 q.2 :: pv r := fun q r => by simp [pv, flatG, tmC]
      rw [h2, show (k + 1) * 2 = k * 2 + 2 by omega]
      simp only [List.take_succ_cons]
      rw [h2, ih r]

/-- The slice v, of elements of type T, holds qs; its block, if it has one, holds it alone. -/
def OwnP (T : TypeId) (w : World) (v : Value) (qs : List (Int × Int)) : Prop := w.ownsRow 0 T 2 v qs.length (pv qs)

theorem OwnP.nil (T : TypeId) (w : World) : OwnP T w (.slice none 0 0) [] := World.ownsRow_nil w 0 T 2
theorem OwnP.lt {T : TypeId} {w : World} {v : Value} {qs : List (Int × Int)} (h : OwnP T w v qs) : ∀ k, v.ownBlock = some k → k < w.heap.size := fun k hk => (World.ownsRow.lt h k hk).2
theorem OwnP.keep {T : TypeId} {w w' : World} {v : Value} {qs : List (Int × Int)} (h : OwnP T w v qs) (hb : ∀ k, v.ownBlock = some k → w'.heap[k]? = w.heap[k]?) : OwnP T w' v qs := by
  refine ⟨h.1, ?_⟩
  rcases h.2 with hn | ⟨g, cap, cur, rfl, hb0, hg, rest⟩
  · exact .inl hn
  · exact .inr ⟨g, cap, cur, rfl, hb0, (hb g rfl).trans hg, rest⟩
theorem OwnP.alloc {T : TypeId} {w : World} {v : Value} {qs : List (Int × Int)} (h : OwnP T w v qs) (o : Obj) : OwnP T (w.alloc o) v qs := h.keep (fun k hk => Below.heap_alloc w o k (h.lt k hk))
theorem OwnP.below {T : TypeId} {w w' : World} {v : Value} {qs : List (Int × Int)} (h : OwnP T w v qs) (hb : Below w.heap.size w w') : OwnP T w' v qs := h.keep (fun k hk => hb.block k (h.lt k hk))
theorem OwnP.sl {T : TypeId} {w : World} {v : Value} {qs : List (Int × Int)} (h : OwnP T w v qs) : ∃ a c, v = .slice a qs.length c := by
  rcases h.2 with ⟨h1, h0⟩ | ⟨g, cap, cur, hv, _⟩
  · exact ⟨none, 0, by rw [h1, h0]⟩
  · exact ⟨_, _, hv⟩
theorem OwnP.shape {T : TypeId} {w : World} {v : Value} {qs : List (Int × Int)} (h : OwnP T w v qs) : (v = .slice none 0 0 ∧ qs = []) ∨ ∃ g c cur, v = .slice (some ⟨g, 0, none⟩) qs.length c ∧ w.heap[g]? = some (.cells cur T (0, 0)) ∧ cur.size = c * 2 ∧ qs.length ≤ c ∧ c ≤ maxLen ∧ ∀ (j : Nat) (u : Value), (pv qs)[j]? = some u → cur[j]? = some u := by
  rcases h.2 with ⟨rfl, h0⟩ | ⟨g, cap, cur, rfl, hb0, hg, hn, hm, hs, ht⟩
  · exact .inl ⟨rfl, List.eq_nil_of_length_eq_zero h0⟩
  · refine .inr ⟨g, cap, cur, rfl, hg, hs, hn, hm, fun j u hu => ?_⟩
    have hj := (List.getElem?_eq_some_iff.1 hu).1
    rw [pv_length] at hj
    rw [← ht, List.getElem?_take, if_pos hj] at hu
    simpa using hu
theorem OwnP.make {T : TypeId} {w : World} {g c : Nat} {cur : Array Value} {qs : List (Int × Int)} (hg : w.heap[g]? = some (.cells cur T (0, 0))) (hs : cur.size = c * 2) (hn : qs.length ≤ c) (hm : c ≤ maxLen) (hc : ∀ (j : Nat) (u : Value), (pv qs)[j]? = some u → cur[j]? = some u) :
    OwnP T w (.slice (some ⟨g, 0, none⟩) qs.length c) qs := by
  refine ⟨pv_length qs, .inr ⟨g, c, cur, rfl, Nat.zero_le _, hg, hn, hm, hs, ?_⟩⟩
  apply List.ext_getElem?
  intro i
  rw [List.getElem?_take]
  by_cases hi : i < qs.length * 2
  · rw [if_pos hi, Array.getElem?_toList]
    have hi' : i < (pv qs).length := by rw [pv_length]; exact hi
    rw [List.getElem?_eq_getElem hi']
    exact hc i _ (List.getElem?_eq_getElem hi')
  · rw [if_neg hi, List.getElem?_eq_none_iff.2 (by rw [pv_length]; omega)]
/-- The two cells of the i-th one. -/
theorem OwnP.at {T : TypeId} {w : World} {v : Value} {qs : List (Int × Int)} (h : OwnP T w v qs) {i : Nat} {q : Int × Int} (hq : qs[i]? = some q) : ∃ g c, v = .slice (some ⟨g, 0, none⟩) qs.length c ∧ g < w.heap.size ∧ w.cell? ⟨g, i * 2, none⟩ = some (.int .i64 q.1) ∧ w.cell? ⟨g, i * 2 + 1, none⟩ = some (.int .i64 q.2) := by
  rcases h.shape with ⟨_, h0⟩ | ⟨g, c, cur, h1, h2, h3, h4, h5, h6⟩
  · rw [h0] at hq
    simp at hq
  · obtain ⟨e1, e2⟩ := pv_get hq
    refine ⟨g, c, h1, (Array.getElem?_eq_some_iff.1 h2).1, ?_, ?_⟩
    · rw [cell_of_row w g _ cur T (0, 0) h2]
      exact h6 _ _ e1
    · rw [cell_of_row w g _ cur T (0, 0) h2]
      exact h6 _ _ e2

/-- An operand that is appended: pairs, in a slice of any type. -/
def ReadsP (w : World) (x : Value) (ys : List (Int × Int)) : Prop := ∃ ax c, x = .slice ax ys.length c ∧ (ys ≠ [] → ∃ a, ax = some a ∧ ∀ (j : Nat) (u : Value), (pv ys)[j]? = some u → w.cell? (a.add j) = some u)

theorem own_appendP {T t ty : TypeId} (ht : Try.prog.underlying t = some (.slice T)) (hT : (Try.prog.info? T).map (fun i => (i.zero, i.size, i.bytes)) = some (some (.agg #[.int .i64 0, .int .i64 0]), 2, 16)) {w : World} {v x : Value} {xs ys : List (Int × Int)} (h : OwnP T w v xs) (hy : ReadsP w x ys) (hl : xs.length + ys.length ≤ 1000000) :
    ∃ v' w', (Builtin.append_ #[t, t] ty #[v, x]).run Try.prog w = .ok v' w' ∧ OwnP T w' v' (xs ++ ys) ∧ w.grownBy w' v.ownBlock ∧ (∀ k, v'.ownBlock = some k → v.ownBlock = some k ∨ w.heap.size ≤ k) := by
  obtain ⟨i0, hi0, hz0, hz1, hz2⟩ := info_parts hT
  have mk : ∀ {v' : Value} {w' : World}, w'.ownsRow 0 T 2 v' (xs.length + ys.length) (pv xs ++ pv ys) → OwnP T w' v' (xs ++ ys) := fun hh => by unfold OwnP; rw [pv_append, List.length_append]; exact hh
  obtain ⟨ax, c, rfl, hr⟩ := hy
  by_cases hy0 : ys = []
  · subst hy0
    have hv : ∃ a n c0, v = .slice a n c0 ∧ n ≤ c0 := by
      rcases h.2 with ⟨rfl, h0⟩ | ⟨g, cap, cur, rfl, _, _, hn, _⟩
      · exact ⟨_, _, _, rfl, Nat.le_refl _⟩
      · exact ⟨_, _, _, rfl, hn⟩
    have hrun : ∃ v' w', (Builtin.append_ #[t, t] ty #[v, .slice ax 0 c]).run Try.prog w = .ok v' w' ∧ v' = v ∧ w' = w := by
      obtain ⟨a', n, c0, rfl, hn⟩ := hv
      refine ⟨_, w, ?_, rfl, rfl⟩
      cases ax <;> cases a' <;> simp [Builtin.append_, run_underlying ht, sizeOf, typeInfo, hi0, hz1, Builtin.lenOf, Builtin.firstCells, loadCells, loadCellsFrom, hn, storeCells]
    obtain ⟨v', w', h1, rfl, rfl⟩ := hrun
    exact ⟨_, _, h1, by rw [List.append_nil]; exact h, ⟨rfl, rfl, rfl, Nat.le_refl _, fun _ _ _ => rfl⟩, fun k hk => .inl hk⟩
  · obtain ⟨a, rfl, hnews⟩ := hr hy0
    have hly : ys.length ≠ 0 := fun e => hy0 (List.eq_nil_of_length_eq_zero e)
    have hm : xs.length + ys.length ≤ maxLen := by unfold maxLen; omega
    have hlen := pv_length ys
    obtain ⟨v', w', h1, h2, h3, h4⟩ := run_append_own (P := Try.prog) w 0 t ty T i0 _ 2 16 ht hi0 hz0 hz1 hz2 rfl (by decide) v xs.length (pv xs) h a ys.length c (pv ys) hlen hnews (pv_one ys) hm (by omega) (Nat.zero_le _)
    refine ⟨v', w', h1, mk h2, h3, fun k hk => ?_⟩
    rcases h.2 with ⟨rfl, h0⟩ | ⟨g, cap, cur, rfl, hb0, hg, hn, hmc, hs, htk⟩
    · have hx0 := List.eq_nil_of_length_eq_zero h0
      subst hx0
      obtain ⟨v2, w2, k1, k2, k3, k4⟩ := run_append_own (P := Try.prog) w w.heap.size t ty T i0 _ 2 16 ht hi0 hz0 hz1 hz2 rfl (by decide) (.slice none 0 0) 0 [] (World.ownsRow_nil w _ _ _) a ys.length c (pv ys) hlen hnews (pv_one ys) (by simpa using hm) (by simp at hl ⊢; omega) (Nat.le_refl _)
      have := h1.symm.trans k1
      injection this with e1 e2
      subst e1 e2
      exact .inr (World.ownsRow.lt k2 k hk).1
    · by_cases hroom : xs.length + ys.length ≤ cap
      · have hr := run_append_room (P := Try.prog) w t ty T i0 ht hi0 g xs.length cap cur hg a ys.length c (pv ys) (by rw [hz1]; exact hlen) hnews (pv_one ys) hroom (by rw [hz1, pv_length, hs]; omega)
        have := h1.symm.trans hr
        injection this with e1 e2
        subst e1
        exact .inl hk
      · have holds := World.ownsRow.cells h (g := g) rfl
        have hr := run_append_grow (P := Try.prog) w t ty T i0 _ ht hi0 hz0 ⟨g, 0, none⟩ xs.length cap (pv xs) (by rw [hz1, pv_length]) holds a ys.length c (pv ys) (by rw [hz1]; exact hlen) hnews (by omega) (by omega) (growslice_fits (by omega) (by rw [hz2]; omega))
        have := h1.symm.trans hr
        injection this with e1 e2
        subst e1
        simp only [Value.ownBlock] at hk
        injection hk with hk
        exact .inr (by omega)

theorem info143 : (Try.prog.info? 143).map (fun i => (i.zero, i.size, i.bytes)) = some (some (.agg #[.int .i64 0, .int .i64 0]), 2, 16) := by kernel_rfl
theorem info127 : (Try.prog.info? 127).map (fun i => (i.zero, i.size, i.bytes)) = some (some (.agg #[.int .i64 0, .int .i64 0]), 2, 16) := by kernel_rfl

end Go.Proofs.Ytgnjenmicojgnaa

namespace Go.Proofs.Ytgnjenmicojgnaa
set_option linter.unusedVariables false
set_option linter.unusedSimpArgs false
open Go.RowKit

theorem zeros_pair (n : Nat) : (Builtin.zeroCells (Value.agg #[.int .i64 0, .int .i64 0]).cells n).toList = List.replicate (n * 2) (.int .i64 0) := by
  apply List.ext_getElem
  · simp [Builtin.zeroCells, Value.cells]
  · intro i h1 h2
    simp [Builtin.zeroCells, Value.cells]
    have : i % 2 = 0 ∨ i % 2 = 1 := by omega
    rcases this with h | h <;> rw [h] <;> rfl

theorem run_clear_pair (w : World) (b o n c ty : Nat) (hn : 0 < n) (hc : ∀ j, j < n * 2 → (w.cell? ⟨b, o + j, none⟩).isSome = true) (hf : ∀ j, j < n * 2 → w.frozen? ⟨b, o + j, none⟩ = false) :
    (Builtin.clear_ #[134] ty #[.slice (some ⟨b, o, none⟩) n c]).run Try.prog w = .ok (.tuple #[]) (w.setCells b o (List.replicate (n * 2) (.int .i64 0))) := by
  have hst := run_storeCells_cells (P := Try.prog) b o (List.replicate (n * 2) (.int .i64 0)) 0 w (by simpa using hc) (by simpa using hf) (by intro v hv'; rw [List.eq_of_mem_replicate hv']; rfl)
  simp only [Nat.add_zero] at hst
  have hz := zeros_pair n
  obtain ⟨m, rfl⟩ : ∃ m, n = m + 1 := ⟨n - 1, by omega⟩
  simp [Builtin.clear_, run_underlying Try.underlying134, Try.zeroValue143, hz, hst]

set_option maxRecDepth 100000 in
set_option maxHeartbeats 4000000 in
theorem tdelete_any (g n c k j : Nat) (qs : List (Int × Int)) (w : World) (h : OwnP 143 w (.slice (some ⟨g, 0, none⟩) n c) qs) (hn : n = qs.length) (hkj : k < j) (hjn : j ≤ n) :
    Calls Try.prog 123 #[.slice (some ⟨g, 0, none⟩) n c, .int .i64 k, .int .i64 j] w fun e w' => e = .returned (.slice (some ⟨g, 0, none⟩) (k + (n - j)) c) ∧ OwnP 143 w' (.slice (some ⟨g, 0, none⟩) (k + (n - j)) c) (qs.take k ++ qs.drop j) ∧ Kept w w' (fun i => i = g) := by
  obtain ⟨i0, hi0, hz0, hz1, hz2⟩ := info_parts info143
  rcases h.shape with ⟨hv, _⟩ | ⟨g', c', cur, hv, hg, hs, hnc, hm, hc⟩
  · cases hv
  injection hv with e1 e2 e3
  injection e1 with e1
  injection e1 with e1
  subst e1 e3
  have hlen : (pv (qs.drop j)).length = (n - j) * 2 := by rw [pv_length, List.length_drop, hn]
  have hdrop : pv (qs.drop j) = (pv qs).drop (j * 2) := (pv_drop qs j).symm
  obtain ⟨A, hA, hsrc⟩ : ∃ A : Addr, (if c = j then some (⟨g, 0, none⟩ : Addr) else some ⟨g, j * 2, none⟩) = some A ∧ Hid (∀ (t : Nat) (u : Value), (pv (qs.drop j))[t]? = some u → w.drew.cell? (A.add t) = some u) := by
    by_cases h : c = j
    · refine ⟨⟨g, 0, none⟩, by simp [h], fun t u hu => ?_⟩
      have ht := (List.getElem?_eq_some_iff.1 hu).1
      rw [hlen] at ht
      omega
    · refine ⟨⟨g, j * 2, none⟩, by simp [h], fun t u hu => ?_⟩
      rw [Addr.add_lit]
      show w.cell? _ = _
      rw [cell_of_row w g _ cur 143 (0, 0) hg]
      rw [hdrop, List.getElem?_drop] at hu
      exact hc _ _ hu
  have hspare : Hid (∀ t, t < (pv (qs.drop j)).length → (w.drew.cell? ⟨g, 0 + k * 2 + t, none⟩).isSome = true ∧ w.drew.frozen? ⟨g, 0 + k * 2 + t, none⟩ = false) := by
    intro t ht
    rw [hlen] at ht
    refine ⟨?_, ?_⟩
    · show (w.cell? _).isSome = true
      rw [cell_of_row w g _ cur 143 (0, 0) hg, Array.getElem?_eq_getElem (by omega)]
      rfl
    · show w.frozen? _ = false
      simp [World.frozen?, hg]
  obtain ⟨W1, hW1⟩ : ∃ W1, W1 = w.drew.setCells g (0 + k * 2) (pv (qs.drop j)) := ⟨_, rfl⟩
  obtain ⟨cur1, hg1, hs1, hc1⟩ := heap_setCells (pv (qs.drop j)) (0 + k * 2) w.drew cur hg
  rw [← hW1] at hg1
  have hcl : ∀ ty c', (Builtin.clear_ #[134] ty #[.slice (some ⟨g, (k + (n - j)) * 2, none⟩) (n - (k + (n - j))) c']).run Try.prog W1 = .ok (.tuple #[]) (W1.setCells g ((k + (n - j)) * 2) (List.replicate ((n - (k + (n - j))) * 2) (.int .i64 0))) :=
    fun ty c' => run_clear_pair W1 g ((k + (n - j)) * 2) (n - (k + (n - j))) c' ty (by omega) (fun t ht => by rw [cell_of_row W1 g _ cur1 143 (0, 0) hg1, Array.getElem?_eq_getElem (by omega)]; rfl) (fun t ht => by simp [World.frozen?, hg1])
  have HC1 := Lib.hid hc1
  have HS1 := Lib.hid hs1
  have HG1 := Lib.hid hg1
  have HN := Lib.hid hn
  have HW := Lib.hid hW1
  have HC := Lib.hid hc
  have HLEN := Lib.hid hlen
  have HDROP := Lib.hid hdrop
  have HS := Lib.hid hs
  have HM := Lib.hid hm
  have HKJ := Lib.hid hkj
  have hkj' : k ≤ j := by omega
  have hkc : k ≤ c := by omega
  have hkc1 : j ≤ c := by omega
  have hnc1 : n ≤ c := by omega
  have hcm : c ≤ 9223372036854775807 := by unfold maxLen at hm; omega
  have hne : ¬ (k : Int) = (j : Int) := by omega
  have hneb : ((k : Int) == (j : Int)) = false := by simp; omega
  clear hc1 hg hs1 hg1 hn hW1 hc h hnc hm hlen hdrop e2 hs
  have mixed := mixed
  go_enter Try.func123, Try.ntmps123
  go_wp2_with fail
  go_region_law_o (refine step_append_room rfl (.tmp 22) (.tmp 25) 134 rfl 143 i0 2 Try.underlying134 hi0 hz1 g 0 k c (by simp [Act.eval, Act.put]) A (n - j) (c - j) (pv (qs.drop j)) (by simp [Act.eval, Act.put]) HLEN.out hsrc.out (pv_one _) (by omega) hspare.out ?_; rw [← HW.out])
  go_wp2
  go_ret
  obtain ⟨cur2, hg2, hs2, hc2⟩ := heap_setCells (List.replicate ((n - (k + (n - j))) * 2) (.int .i64 0)) ((k + (n - j)) * 2) W1 cur1 HG1.out
  have hn := HN.out
  have hll : (qs.take k ++ qs.drop j).length = k + (n - j) := by rw [List.length_append, List.length_take, List.length_drop]; omega
  have hs := HS.out
  have hs1 := HS1.out
  have hlen := HLEN.out
  refine ⟨rfl, ?_, ?_⟩
  · have := OwnP.make (T := 143) (qs := qs.take k ++ qs.drop j) (c := c) hg2 (by omega) (by omega) HM.out (fun i u hu => ?_)
    · rw [hll] at this
      exact this
    · have hil := (List.getElem?_eq_some_iff.1 hu).1
      rw [pv_length, hll] at hil
      rw [hc2 i (by omega), if_neg (by omega), HC1.out i (by omega)]
      rw [pv_append, ← pv_take] at hu
      by_cases hik : i < k * 2
      · rw [if_neg (by omega)]
        rw [List.getElem?_append_left (by rw [List.length_take, pv_length]; omega), List.getElem?_take, if_pos hik] at hu
        exact HC.out i u hu
      · rw [if_pos (by omega)]
        rw [List.getElem?_append_right (by rw [List.length_take, pv_length]; omega), List.length_take, pv_length, show min (k * 2) (qs.length * 2) = 0 + k * 2 by omega] at hu
        exact hu
  · have h1 : Kept w W1 (fun i => i = g) := by
      have := Kept.setCells w.drew g (0 + k * 2) (pv (qs.drop j))
      rw [← HW.out] at this
      exact ⟨this.os, this.tape, this.output, this.size, this.block⟩
    exact h1.trans (Kept.setCells W1 g _ _) (fun _ _ h => h)

end Go.Proofs.Ytgnjenmicojgnaa

namespace Go.Proofs.Ytgnjenmicojgnaa
set_option linter.unusedVariables false
set_option linter.unusedSimpArgs false
open Go.RowKit

theorem run_copy_pair (w : World) (ty : TypeId) (b o dLen dCap : Nat) (a : Addr) (sLen sCap k : Nat) (cs : List Value)
    (hk : Nat.min sLen dLen = k) (hn : cs.length = k * 2)
    (hsrc : ∀ j v, cs[j]? = some v → w.cell? (a.add j) = some v) (hc : ∀ j, j < cs.length → (w.cell? ⟨b, o + j, none⟩).isSome = true) (hf : ∀ j, j < cs.length → w.frozen? ⟨b, o + j, none⟩ = false) (h1 : ∀ v ∈ cs, v.oneCell' = true) :
    (Builtin.copy_ #[134, 134] ty #[.slice (some ⟨b, o, none⟩) dLen dCap, .slice (some a) sLen sCap]).run Try.prog w = .ok (goInt k) (w.setCells b o cs) := by
  have hl := run_loadCells_list (P := Try.prog) w a cs hsrc
  have hst := run_storeCells_cells (P := Try.prog) b o cs 0 w (by simpa using hc) (by simpa using hf) h1
  obtain ⟨i0, hi0, hz0, hz1, hz2⟩ := info_parts info143
  simp [Builtin.copy_, run_underlying Try.underlying134, Builtin.lenOf, Builtin.firstCells, sizeOf, typeInfo, hi0, hz1, hk, ← hn, hl, hst]

set_option maxHeartbeats 4000000 in
set_option maxRecDepth 100000 in
theorem tinsert_shift (b off n c i vb voff m vc : Nat) (cs vs : List Value) (w : World) (hi : i < n) (hm : 0 < m) (hroom : n + m ≤ c) (hc63 : c ≤ 9223372036854775807) (hvb : vb ≠ b)
    (hcl : cs.length = n * 2) (hvl : vs.length = m * 2)
    (hcs : ∀ j v, cs[j]? = some v → w.cell? ⟨b, off + j, none⟩ = some v) (hsp : ∀ j, j < (n + m) * 2 → (w.cell? ⟨b, off + j, none⟩).isSome = true) (hfz : ∀ j, j < (n + m) * 2 → w.frozen? ⟨b, off + j, none⟩ = false)
    (hvs : ∀ j v, vs[j]? = some v → w.cell? ⟨vb, voff + j, none⟩ = some v) (h1c : ∀ v ∈ cs, v.oneCell' = true) (h1v : ∀ v ∈ vs, v.oneCell' = true)
    (tA tB : TypeId) (kA kB : Nat) (hsa : w.shape? vb = some (tA, kA)) (hsb : w.shape? b = some (tB, kB)) (hkB : kB ≠ 0) (hfa : w.frozen? ⟨vb, voff, none⟩ = false) (hfe : w.frozen? ⟨vb, kA, none⟩ = false) :
    Calls Try.prog 129 #[.slice (some ⟨b, off, none⟩) n c, .int .i64 i, .slice (some ⟨vb, voff, none⟩) m vc] w fun e w' =>
      e = .returned (.slice (some ⟨b, off, none⟩) (n + m) c) ∧ w' = (w.drew.setCells b (off + (i + m) * 2) (cs.drop (i * 2))).setCells b (off + i * 2) vs := by
  have hz1 : ¬ ((m : Int) = 0) := by omega
  have hz2 : ¬ ((i : Int) = (n : Int)) := by omega
  have hov : ∀ lb cb, (callFunc 133 #[.slice (some ⟨vb, voff, none⟩) m vc, .slice (some ⟨b, off + (i + m) * 2, none⟩) lb cb]).run Try.prog w = .ok (.value (.bool false)) w := fun lb cb => by
    rw [run_callFunc_extern Try.func133 (by kernel_rfl) (by kernel_rfl) (by kernel_rfl) (e := Extern.SlicesOverlaps.overlaps #[134, 134] #[4]) (by kernel_rfl),
      Lib.run_overlaps_apart w 134 4 143 Try.underlying134 2 Try.sizeOf143 ⟨vb, voff, none⟩ ⟨b, off + (i + m) * 2, none⟩ m vc lb cb hvb tA tB kA kB hsa hsb hkB hfa hfe]
    rfl
  have hdl : (cs.drop (i * 2)).length = (n - i) * 2 := by rw [List.length_drop, hcl]; omega
  have mixed := mixed
  have hw1 : IntKind.i64.wrap ((i : Int) + (m : Int)) = (i : Int) + (m : Int) := by rw [IntKind.wrap_i64]; omega
  have hb1 : (0 : Int) ≤ (i : Int) + (m : Int) := by omega
  have hin : i ≤ n := by omega
  have htn : ((i : Int) + (m : Int)).toNat = i + m := by omega
  have hb2 : ¬ (c = i + m) := by omega
  have hb3 : (i : Int) ≤ (n : Int) + (m : Int) := by omega
  have hb4 : ¬ (c = i) := by omega
  have hcp1 : ∀ ty dc sc, (Builtin.copy_ #[134, 134] ty #[.slice (some ⟨b, off + (i + m) * 2, none⟩) (n + m - (i + m)) dc, .slice (some ⟨b, off + i * 2, none⟩) (n + m - i) sc]).run Try.prog w.drew = .ok (goInt (n - i : Nat)) (w.drew.setCells b (off + (i + m) * 2) (cs.drop (i * 2))) := fun ty dc sc =>
    run_copy_pair w.drew ty b (off + (i + m) * 2) (n + m - (i + m)) dc ⟨b, off + i * 2, none⟩ (n + m - i) sc (n - i) (cs.drop (i * 2)) (by simp only [Nat.min_def]; split <;> omega) hdl
      (fun j v hj => by rw [Addr.add_lit, Nat.add_assoc]; exact hcs (i * 2 + j) v (by rwa [List.getElem?_drop] at hj))
      (fun j hj => by rw [Nat.add_assoc]; exact hsp _ (by omega)) (fun j hj => by rw [Nat.add_assoc]; exact hfz _ (by omega)) (fun v hv => h1c v (List.mem_of_mem_drop hv))
  obtain ⟨W1, hW1⟩ : ∃ W1, W1 = w.drew.setCells b (off + (i + m) * 2) (cs.drop (i * 2)) := ⟨_, rfl⟩
  have hsp1 : ∀ k, k < (n + m) * 2 → (W1.cell? ⟨b, off + k, none⟩).isSome = true := fun k hk => by
    rw [hW1]
    exact isSome_setCells b _ _ _ (fun j hj => by rw [Nat.add_assoc]; exact hsp _ (by omega)) _ (hsp k hk)
  have hcp2 : ∀ (W : World), (∀ x, W.cell? x = W1.cell? x) → (∀ x, W.frozen? x = W1.frozen? x) → ∀ ty dc, (Builtin.copy_ #[134, 134] ty #[.slice (some ⟨b, off + i * 2, none⟩) (n + m - i) dc, .slice (some ⟨vb, voff, none⟩) m vc]).run Try.prog W = .ok (goInt m) (W.setCells b (off + i * 2) vs) := fun W hWc hWf ty dc =>
    run_copy_pair W ty b (off + i * 2) (n + m - i) dc ⟨vb, voff, none⟩ m vc m vs (by simp only [Nat.min_def]; split <;> omega) hvl
      (fun j v hj => by
        rw [Addr.add_lit, hWc, hW1, World.cell?_setCells_out b _ _ _ _ (fun h _ => absurd h hvb)]
        exact hvs j v hj)
      (fun j hj => by rw [hWc, Nat.add_assoc]; exact hsp1 _ (by omega)) (fun j hj => by rw [hWf, hW1, World.frozen?_setCells, Nat.add_assoc]; exact hfz _ (by omega)) h1v
  rw [← hW1] at hcp1
  go_enter Try.func129, Try.ntmps129
  go_wp2_with (simp only [hov])
  go_region_law_o (refine step_copy_runI rfl _ _ 134 134 rfl _ _ (by simp [Act.eval, Act.put]) (by simp [Act.eval, Act.put]) (hcp1 _ _ _) ?_)
  go_wp2_with (at_builtin; refine wpList_copy_runI _ rfl _ _ 134 134 rfl _ _ rfl rfl (hcp2 _ (fun _ => rfl) (fun _ => rfl) _ _) ?_)
  go_ret
  first | exact ⟨rfl, rfl⟩ | exact ⟨rfl, by rw [hW1]⟩

end Go.Proofs.Ytgnjenmicojgnaa

namespace Go.Proofs.Ytgnjenmicojgnaa
set_option linter.unusedVariables false
set_option linter.unusedSimpArgs false
open Go.RowKit

set_option maxHeartbeats 4000000 in
set_option maxRecDepth 100000 in
theorem tinsert_grow (b off n c i vb voff m vc : Nat) (cs vs : List Value) (w : World) (hi : i < n) (hm : 0 < m) (hnc : n ≤ c) (hroom : c < n + m) (hbig : (n + m) * 16 ≤ 140737488355328)
    (hcl : cs.length = n * 2) (hvl : vs.length = m * 2)
    (hcs : ∀ j v, cs[j]? = some v → w.cell? ⟨b, off + j, none⟩ = some v)
    (hvs : ∀ j v, vs[j]? = some v → w.cell? ⟨vb, voff + j, none⟩ = some v) (h1c : ∀ v ∈ cs, v.oneCell' = true) (h1v : ∀ v ∈ vs, v.oneCell' = true) :
    Calls Try.prog 129 #[.slice (some ⟨b, off, none⟩) n c, .int .i64 i, .slice (some ⟨vb, voff, none⟩) m vc] w fun e w' =>
      e = .returned (.slice (some ⟨w.heap.size, 0, none⟩) (n + m) (grownCap w (n + m) c 143)) ∧
      w' = (((w.alloc (.cells ((cs.take (i * 2)).toArray ++ Builtin.zeroCells (Value.agg #[.int .i64 0, .int .i64 0]).cells (n + m - i) ++ Builtin.zeroCells (Value.agg #[.int .i64 0, .int .i64 0]).cells (grownCap w (n + m) c 143 - (n + m))) 143)).drew.setCells w.heap.size (i * 2) vs).drew).setCells w.heap.size ((i + m) * 2) (cs.drop (i * 2)) := by
  have mixed := mixed
  obtain ⟨i0, hi0, hz0, hzs, hzb⟩ := info_parts info143
  have hz1 : ¬ ((m : Int) = 0) := by omega
  have hz2 : ¬ ((i : Int) = (n : Int)) := by omega
  have hz3 : (c : Int) < (n : Int) + (m : Int) := by omega
  have hbw : b < w.heap.size := block_lt_of_cell (hcs 0 _ (List.getElem?_eq_getElem (by omega)))
  have hvw : vb < w.heap.size := block_lt_of_cell (hvs 0 _ (List.getElem?_eq_getElem (by omega)))
  have hkk : (n : Int) + (m : Int) - (i : Int) = ((n + m - i : Nat) : Int) := by omega
  have hik : i + (n + m - i) = n + m := by omega
  have hold : (Builtin.firstCells i0.size i (.slice (some ⟨b, off, none⟩) i c)).run Try.prog w.drew = .ok (cs.take (i * 2)).toArray w.drew := by
    rw [hzs]
    exact run_firstCells_some w.drew 2 i ⟨b, off, none⟩ i c (cs.take (i * 2)) (by rw [List.length_take]; omega) (fun j v hj => by
      rw [Addr.add_lit]
      rw [List.getElem?_take] at hj
      split at hj
      · exact hcs j v hj
      · cases hj)
  have hrz : ∀ ty, (Builtin.append_ #[134, 3] ty #[.slice (some ⟨b, off, none⟩) i c, .int .i64 ((n : Int) + (m : Int) - (i : Int))]).run Try.prog w =
      .ok (.slice (some ⟨w.heap.size, 0, none⟩) (n + m) (grownCap w (n + m) c 143)) (w.drew.alloc (.cells ((cs.take (i * 2)).toArray ++ Builtin.zeroCells (Value.agg #[.int .i64 0, .int .i64 0]).cells (n + m - i) ++ Builtin.zeroCells (Value.agg #[.int .i64 0, .int .i64 0]).cells (grownCap w (n + m) c 143 - (n + m))) 143)) := fun ty => by
    have h := Lib.run_append_grow_zeros w 134 3 ty 143 i0 _ .i64 .i64 Try.underlying134 Try.underlying3 hi0 hz0 (some ⟨b, off, none⟩) i c (cs.take (i * 2)) hold (n + m - i) (by omega) (by omega) (by omega) (by omega) (by rw [hzb]; omega) (by rw [hzb, hik]; exact growslice_fits hroom hbig)
    rw [hik] at h
    rw [hkk]
    exact h
  obtain ⟨G, hG⟩ : ∃ G, G = grownCap w (n + m) c 143 := ⟨_, rfl⟩
  obtain ⟨ROW, hROW⟩ : ∃ ROW : Array Value, ROW = (cs.take (i * 2)).toArray ++ Builtin.zeroCells (Value.agg #[.int .i64 0, .int .i64 0]).cells (n + m - i) ++ Builtin.zeroCells (Value.agg #[.int .i64 0, .int .i64 0]).cells (G - (n + m)) := ⟨_, rfl⟩
  rw [← hG] at hrz ⊢
  rw [← hROW] at hrz ⊢
  have hRl : (n + m) * 2 ≤ ROW.size := by
    rw [hROW]
    simp [Builtin.zeroCells, Value.cells]
    omega
  obtain ⟨W1, hW1⟩ : ∃ W1, W1 = w.drew.alloc (.cells ROW 143) := ⟨_, rfl⟩
  rw [← hW1] at hrz
  have hN : ∀ j, j < (n + m) * 2 → (W1.cell? ⟨w.heap.size, j, none⟩).isSome = true := fun j hj => by
    rw [hW1, World.cell?_alloc_at (w := w.drew) ROW _ w.heap.size j rfl, Array.getElem?_eq_getElem (by omega)]; rfl
  have hNf : ∀ j, W1.frozen? ⟨w.heap.size, j, none⟩ = false := fun j => by rw [hW1]; exact World.frozen?_alloc_at (w := w.drew) ROW _ w.heap.size j rfl
  have hOb : ∀ j v, w.cell? ⟨b, j, none⟩ = some v → W1.cell? ⟨b, j, none⟩ = some v := fun j v h => by rw [hW1, World.cell?_alloc_past (w := w.drew) _ b j hbw]; exact h
  have hOv : ∀ j v, w.cell? ⟨vb, j, none⟩ = some v → W1.cell? ⟨vb, j, none⟩ = some v := fun j v h => by rw [hW1, World.cell?_alloc_past (w := w.drew) _ vb j hvw]; exact h
  have hcpA : ∀ (W : World), (∀ x, W.cell? x = W1.cell? x) → (∀ x, W.frozen? x = W1.frozen? x) → ∀ ty dc, (Builtin.copy_ #[134, 134] ty #[.slice (some ⟨w.heap.size, i * 2, none⟩) (n + m - i) dc, .slice (some ⟨vb, voff, none⟩) m vc]).run Try.prog W = .ok (goInt m) (W.setCells w.heap.size (i * 2) vs) := fun W hWc hWf ty dc =>
    run_copy_pair W ty w.heap.size (i * 2) (n + m - i) dc ⟨vb, voff, none⟩ m vc m vs (by simp only [Nat.min_def]; split <;> omega) hvl
      (fun j v hj => by rw [Addr.add_lit, hWc]; exact hOv _ v (hvs j v hj))
      (fun j hj => by rw [hWc]; exact hN _ (by omega)) (fun j hj => by rw [hWf]; exact hNf _) h1v
  have hGn : n + m ≤ G := by rw [hG]; exact grownCap_ge w _ _ _
  have hG63 : G ≤ 9223372036854775807 := by
    have := grownCap_le_maxLen w (n + m) c 143 (by unfold maxLen; omega)
    rw [← hG] at this
    unfold maxLen at this
    omega
  have hGi : ¬ (G = i) := by omega
  have hGim : ¬ (G = i + m) := by omega
  have hci : ¬ (c = i) := by omega
  have hbN : b ≠ w.heap.size := by omega
  have hdl : (cs.drop (i * 2)).length = (n - i) * 2 := by rw [List.length_drop, hcl]; omega
  have hcpB : ∀ (W : World), (∀ x, W.cell? x = (W1.setCells w.heap.size (i * 2) vs).cell? x) → (∀ x, W.frozen? x = (W1.setCells w.heap.size (i * 2) vs).frozen? x) → ∀ ty dc sc, (Builtin.copy_ #[134, 134] ty #[.slice (some ⟨w.heap.size, (i + m) * 2, none⟩) (n + m - (i + m)) dc, .slice (some ⟨b, off + i * 2, none⟩) (n - i) sc]).run Try.prog W = .ok (goInt (n - i : Nat)) (W.setCells w.heap.size ((i + m) * 2) (cs.drop (i * 2))) := fun W hWc hWf ty dc sc =>
    run_copy_pair W ty w.heap.size ((i + m) * 2) (n + m - (i + m)) dc ⟨b, off + i * 2, none⟩ (n - i) sc (n - i) (cs.drop (i * 2)) (by simp only [Nat.min_def]; split <;> omega) hdl
      (fun j v hj => by
        rw [Addr.add_lit, hWc, World.cell?_setCells_out _ _ _ _ _ (fun h _ => absurd h hbN), Nat.add_assoc]
        exact hOb _ v (hcs (i * 2 + j) v (by rwa [List.getElem?_drop] at hj)))
      (fun j hj => by rw [hWc]; exact isSome_setCells _ _ _ _ (fun t ht => hN _ (by omega)) _ (hN _ (by omega)))
      (fun j hj => by rw [hWf, World.frozen?_setCells]; exact hNf _) (fun v hv => h1c v (List.mem_of_mem_drop hv))
  subst hW1
  have hE1 : ∀ x, ((w.alloc (.cells ROW 143)).drew).cell? x = (w.drew.alloc (.cells ROW 143)).cell? x := fun x => rfl
  have hE2 : ∀ x, ((w.alloc (.cells ROW 143)).drew).frozen? x = (w.drew.alloc (.cells ROW 143)).frozen? x := fun x => rfl
  have hF1 : ∀ x, (((w.alloc (.cells ROW 143)).drew.setCells w.heap.size (i * 2) vs).drew).cell? x = ((w.drew.alloc (.cells ROW 143)).setCells w.heap.size (i * 2) vs).cell? x := fun x => rfl
  have hF2 : ∀ x, (((w.alloc (.cells ROW 143)).drew.setCells w.heap.size (i * 2) vs).drew).frozen? x = ((w.drew.alloc (.cells ROW 143)).setCells w.heap.size (i * 2) vs).frozen? x := fun x => rfl
  have hw1 : IntKind.i64.wrap ((i : Int) + (m : Int)) = (i : Int) + (m : Int) := by rw [IntKind.wrap_i64]; omega
  have hb1 : (0 : Int) ≤ (i : Int) + (m : Int) := by omega
  have hin : i ≤ n := by omega
  have htn : ((i : Int) + (m : Int)).toNat = i + m := by omega
  have hb3 : (i : Int) ≤ (n : Int) := by omega
  clear hkk hik hold hROW hG hRl
  go_enter Try.func129, Try.ntmps129
  go_wp2_with (first
    | (at_builtin; refine Lib.wpList_append_run _ rfl _ _ _ _ rfl _ _ rfl rfl _ _ (hrz _) ?_)
    | (at_builtin; refine wpList_copy_runI _ rfl _ _ 134 134 rfl _ _ rfl rfl (hcpA _ hE1 hE2 _ _) ?_)
    | (at_builtin; refine wpList_copy_runI _ rfl _ _ 134 134 rfl _ _ rfl rfl (hcpB _ (fun _ => rfl) (fun _ => rfl) _ _ _) ?_))
  go_region_law_o (refine step_copy_runI rfl _ _ 134 134 rfl (.slice (some ⟨w.heap.size, (i + m) * 2, none⟩) (n + m - (i + m)) (G - (i + m))) (.slice (some ⟨b, off + i * 2, none⟩) (n - i) (c - i)) (by simp [Act.eval, Act.put]) (by simp [Act.eval, Act.put]) (hcpB _ hF1 hF2 3 (G - (i + m)) (c - i)) ?_)
  go_wp2
  go_ret
  exact ⟨rfl, rfl⟩

end Go.Proofs.Ytgnjenmicojgnaa

namespace Go.Proofs.Ytgnjenmicojgnaa
set_option linter.unusedVariables false
set_option linter.unusedSimpArgs false
open Go.RowKit

def InsPostP (w : World) (v : Value) (qs : List (Int × Int)) (e : Ending) (w' : World) : Prop :=
  ∃ a c, e = .returned (.slice a qs.length c) ∧ OwnP 143 w' (.slice a qs.length c) qs ∧ Kept w w' (fun i => v.ownBlock = some i) ∧ (∀ k, (Value.slice a qs.length c).ownBlock = some k → v.ownBlock = some k ∨ w.heap.size ≤ k)

theorem one_reads {w : World} {vb : Nat} {q : Int × Int} (hv : w.heap[vb]? = some (.cells #[.int .i64 q.1, .int .i64 q.2] 143 (0, 0))) : ReadsP w (.slice (some ⟨vb, 0, none⟩) 1 1) [q] :=
  ⟨_, _, rfl, fun _ => ⟨_, rfl, fun j u hu => by
    rw [Addr.add_lit, cell_of_row w vb _ _ 143 (0, 0) hv]
    match j, hu with
    | 0, hu => simp [pv, flatG, tmC] at hu; subst hu; rfl
    | 1, hu => simp [pv, flatG, tmC] at hu; subst hu; rfl
    | j + 2, hu => simp [pv, flatG, tmC] at hu⟩⟩

set_option maxRecDepth 100000 in
set_option maxHeartbeats 1000000 in
theorem tinsert_end (v : Value) (n vb : Nat) (qs : List (Int × Int)) (q : Int × Int) (w : World) (h : OwnP 143 w v qs) (hn : qs.length = n) (hl : n ≤ 1000) (hv : w.heap[vb]? = some (.cells #[.int .i64 q.1, .int .i64 q.2] 143 (0, 0))) :
    Calls Try.prog 129 #[v, .int .i64 n, .slice (some ⟨vb, 0, none⟩) 1 1] w (InsPostP w v (qs ++ [q])) := by
  obtain ⟨v', w2, hrun, ho, hg, hf⟩ := own_appendP (t := 134) (ty := 134) Try.underlying134 info143 h (one_reads hv) (by simp; omega)
  obtain ⟨a', c', rfl⟩ := ho.sl
  obtain ⟨m, hm⟩ : ∃ m, (qs ++ [q]).length = m := ⟨_, rfl⟩
  rw [hm] at hrun ho hf
  have HP : Hid (InsPostP w v (qs ++ [q]) (.returned (.slice a' m c')) w2) := ⟨a', c', by rw [hm], by rw [hm]; exact ho, Kept.of_grown hg (fun i hi => hi), by rw [hm]; exact hf⟩
  rcases h.shape with ⟨h1, h2⟩ | ⟨g, c, cur, h1, h2, h3, h4, h5, h6⟩
  · subst h1
    subst h2
    obtain rfl : n = 0 := hn.symm
    clear h ho hg hf hv hm hn
    go_enter Try.func129, Try.ntmps129
    go_wp2_with (first | (at_builtin; refine Lib.wpList_append_run _ rfl _ _ _ _ rfl _ _ rfl rfl _ _ hrun ?_))
    go_ret
    exact HP.out
  · rw [hn] at h1 h4
    subst h1
    have hcm : c ≤ 9223372036854775807 := by unfold maxLen at h5; omega
    clear h ho hg hf hv hm hn h2 h3 h5 h6
    go_enter Try.func129, Try.ntmps129
    go_wp2_with (first | (at_builtin; refine Lib.wpList_append_run _ rfl _ _ _ _ rfl _ _ rfl rfl _ _ hrun ?_))
    all_goals (go_ret; exact HP.out)

set_option maxRecDepth 100000 in
set_option maxHeartbeats 1000000 in
theorem tinsert_any (v : Value) (n i vb : Nat) (qs : List (Int × Int)) (q : Int × Int) (w : World) (h : OwnP 143 w v qs) (hn : qs.length = n) (hi : i ≤ n) (hl : n ≤ 1000) (hv : w.heap[vb]? = some (.cells #[.int .i64 q.1, .int .i64 q.2] 143 (0, 0))) (hne : v.ownBlock ≠ some vb) :
    Calls Try.prog 129 #[v, .int .i64 i, .slice (some ⟨vb, 0, none⟩) 1 1] w (InsPostP w v (qs.take i ++ q :: qs.drop i)) := by
  by_cases hin : i = n
  · subst hin
    have := tinsert_end v i vb qs q w h hn hl hv
    rw [List.take_of_length_le (by omega), List.drop_of_length_le (by omega)]
    exact this
  rcases h.shape with ⟨_, h0⟩ | ⟨g, c, cur, h1, hg, hs, hnc, hm, hc⟩
  · rw [h0] at hn
    simp at hn
    omega
  subst h1
  rw [hn]
  rw [hn] at hnc
  have hlen : (qs.take i ++ q :: qs.drop i).length = n + 1 := by simp; omega
  have hpl : (pv qs).length = n * 2 := by rw [pv_length, hn]
  have hcs : ∀ (j : Nat) (u : Value), (pv qs)[j]? = some u → w.cell? ⟨g, 0 + j, none⟩ = some u := fun j u hu => by
    rw [Nat.zero_add, cell_of_row w g j cur 143 (0, 0) hg]
    exact hc j u hu
  have hvs : ∀ (j : Nat) (u : Value), (pv [q])[j]? = some u → w.cell? ⟨vb, 0 + j, none⟩ = some u := fun j u hu => by
    rw [cell_of_row w vb _ _ 143 (0, 0) hv]
    match j, hu with
    | 0, hu => simp [pv, flatG, tmC] at hu; subst hu; rfl
    | 1, hu => simp [pv, flatG, tmC] at hu; subst hu; rfl
    | j + 2, hu => simp [pv, flatG, tmC] at hu
  have hvg : vb ≠ g := fun e => hne (by rw [e]; rfl)
  have hgl : g < w.heap.size := (Array.getElem?_eq_some_iff.1 hg).1
  have hnew : ∀ (k : Nat) (u : Value), (pv (qs.take i ++ q :: qs.drop i))[k]? = some u → (if k < i * 2 then (pv qs)[k]? else if k < i * 2 + 2 then (pv [q])[k - i * 2]? else (pv qs)[k - 2]?) = some u := by
    intro k u hu
    have e1 : pv (qs.take i ++ q :: qs.drop i) = (pv qs).take (i * 2) ++ (pv [q] ++ (pv qs).drop (i * 2)) := by
      rw [pv_append, ← pv_take, show q :: qs.drop i = [q] ++ qs.drop i by rfl, pv_append, ← pv_drop]
    have l1 : ((pv qs).take (i * 2)).length = i * 2 := by rw [List.length_take, hpl]; omega
    have l2 : (pv [q]).length = 2 := pv_length _
    rw [e1] at hu
    by_cases h1 : k < i * 2
    · rw [if_pos h1]
      rw [List.getElem?_append_left (by omega), List.getElem?_take, if_pos h1] at hu
      exact hu
    · rw [if_neg h1]
      rw [List.getElem?_append_right (by omega), l1] at hu
      by_cases h2 : k < i * 2 + 2
      · rw [if_pos h2]
        rw [List.getElem?_append_left (by omega)] at hu
        exact hu
      · rw [if_neg h2]
        rw [List.getElem?_append_right (by omega), l2, List.getElem?_drop, show i * 2 + (k - i * 2 - 2) = k - 2 by omega] at hu
        exact hu
  have hnl : (pv (qs.take i ++ q :: qs.drop i)).length = (n + 1) * 2 := by rw [pv_length, hlen]
  have hdl : ((pv qs).drop (i * 2)).length = (n - i) * 2 := by rw [List.length_drop, hpl]; omega
  have hq2 : (pv [q]).length = 2 := pv_length _
  by_cases hroom : n + 1 ≤ c
  · refine (tinsert_shift g 0 n c i vb 0 1 1 (pv qs) (pv [q]) w (by omega) (by omega) hroom (by unfold maxLen at hm; omega) hvg hpl hq2 hcs (fun j hj => by rw [cell_of_row w g _ cur 143 (0, 0) hg, Array.getElem?_eq_getElem (by omega)]; rfl) (fun j hj => by simp [World.frozen?, hg]) hvs (pv_one _) (pv_one _) 143 143 2 (c * 2) (by simp [World.shape?, hv]) (by simp [World.shape?, hg, hs]) (by omega) (by simp [World.frozen?, hv]) (by simp [World.frozen?, hv])).mono ?_
    rintro e w' ⟨rfl, hw'⟩
    obtain ⟨cur1, hg1, hs1, hc1⟩ := heap_setCells ((pv qs).drop (i * 2)) (0 + (i + 1) * 2) w.drew cur hg
    obtain ⟨cur2, hg2, hs2, hc2⟩ := heap_setCells (pv [q]) (0 + i * 2) _ cur1 hg1
    rw [← hw'] at hg2
    unfold InsPostP
    rw [hlen]
    refine ⟨some ⟨g, 0, none⟩, c, rfl, ?_, ?_, fun k hk => .inl hk⟩
    · have := OwnP.make (T := 143) (qs := qs.take i ++ q :: qs.drop i) (c := c) hg2 (by omega) (by omega) hm (fun k u hu => ?_)
      · rw [hlen] at this
        exact this
      · have hkl := (List.getElem?_eq_some_iff.1 hu).1
        rw [hnl] at hkl
        have hu2 := hnew k u hu
        rw [hc2 k (by omega), hq2]
        by_cases h1 : k < i * 2
        · rw [if_pos h1] at hu2
          rw [if_neg (by omega), hc1 k (by omega), if_neg (by omega)]
          exact hc k u hu2
        · rw [if_neg h1] at hu2
          by_cases h2 : k < i * 2 + 2
          · rw [if_pos h2] at hu2
            rw [if_pos (by omega), show k - (0 + i * 2) = k - i * 2 by omega]
            exact hu2
          · rw [if_neg h2] at hu2
            rw [if_neg (by omega), hc1 k (by omega), if_pos (by omega), List.getElem?_drop, show i * 2 + (k - (0 + (i + 1) * 2)) = k - 2 by omega]
            exact hu2
    · have k1 : Kept w (w.drew.setCells g (0 + (i + 1) * 2) ((pv qs).drop (i * 2))) (fun i => i = g) := by
        have := Kept.setCells w.drew g (0 + (i + 1) * 2) ((pv qs).drop (i * 2))
        exact ⟨this.os, this.tape, this.output, this.size, this.block⟩
      rw [hw']
      exact (k1.trans (Kept.setCells _ g _ _) (fun _ _ h => h)).mono (fun i _ e => by rw [e]; rfl)
  · refine (tinsert_grow g 0 n c i vb 0 1 1 (pv qs) (pv [q]) w (by omega) (by omega) hnc (by omega) (by omega) hpl hq2 hcs hvs (pv_one _) (pv_one _)).mono ?_
    rintro e w' ⟨rfl, hw'⟩
    obtain ⟨G, hG⟩ : ∃ G, grownCap w (n + 1) c 143 = G := ⟨_, rfl⟩
    have hge := grownCap_ge w (n + 1) c 143
    have hle := grownCap_le_maxLen w (n + 1) c 143 (by unfold maxLen; omega)
    rw [hG] at hw' hge hle ⊢
    obtain ⟨ROW, hROW⟩ : ∃ ROW : Array Value, ROW = ((pv qs).take (i * 2)).toArray ++ Builtin.zeroCells (Value.agg #[.int .i64 0, .int .i64 0]).cells (n + 1 - i) ++ Builtin.zeroCells (Value.agg #[.int .i64 0, .int .i64 0]).cells (G - (n + 1)) := ⟨_, rfl⟩
    rw [← hROW] at hw'
    have hRs : ROW.size = G * 2 := by
      rw [hROW]
      simp [Builtin.zeroCells, Value.cells, hpl]
      omega
    have hRp : ∀ k, k < i * 2 → ROW[k]? = (pv qs)[k]? := fun k hk => by
      rw [hROW, Array.append_assoc, Array.getElem?_append_left (by simp [hpl]; omega)]
      simp [List.getElem?_take, hk]
    have hg0 : (w.alloc (.cells ROW 143)).drew.heap[w.heap.size]? = some (.cells ROW 143 (0, 0)) := heap_alloc_new w _
    obtain ⟨cur1, hg1, hs1, hc1⟩ := heap_setCells (pv [q]) (i * 2) _ ROW hg0
    have hg1' : ((w.alloc (.cells ROW 143)).drew.setCells w.heap.size (i * 2) (pv [q])).drew.heap[w.heap.size]? = some (.cells cur1 143 (0, 0)) := hg1
    obtain ⟨cur2, hg2, hs2, hc2⟩ := heap_setCells ((pv qs).drop (i * 2)) ((i + 1) * 2) _ cur1 hg1'
    have hww : w' = (((w.alloc (.cells ROW 143)).drew.setCells w.heap.size (i * 2) (pv [q])).drew).setCells w.heap.size ((i + 1) * 2) ((pv qs).drop (i * 2)) := hw'
    rw [← hww] at hg2
    unfold InsPostP
    rw [hlen]
    refine ⟨some ⟨w.heap.size, 0, none⟩, G, rfl, ?_, ?_, fun k hk => .inr ?_⟩
    · have := OwnP.make (T := 143) (qs := qs.take i ++ q :: qs.drop i) (c := G) hg2 (by omega) (by omega) hle (fun k u hu => ?_)
      · rw [hlen] at this
        exact this
      · have hkl := (List.getElem?_eq_some_iff.1 hu).1
        rw [hnl] at hkl
        have hu2 := hnew k u hu
        rw [hc2 k (by omega)]
        by_cases h1 : k < i * 2
        · rw [if_pos h1] at hu2
          rw [if_neg (by omega), hc1 k (by omega), if_neg (by omega), hRp k h1]
          exact hu2
        · rw [if_neg h1] at hu2
          by_cases h2 : k < i * 2 + 2
          · rw [if_pos h2] at hu2
            rw [if_neg (by omega), hc1 k (by omega), if_pos (by omega)]
            exact hu2
          · rw [if_neg h2] at hu2
            rw [if_pos (by omega), List.getElem?_drop, show i * 2 + (k - (i + 1) * 2) = k - 2 by omega]
            exact hu2
    · have k0 : Kept w (w.alloc (.cells ROW 143)) (fun i => i = w.heap.size) := Kept.of_below ((Below.refl _ _).alloc (Nat.le_refl _) _)
      have k1 := Kept.setCells (w.alloc (.cells ROW 143)).drew w.heap.size (i * 2) (pv [q])
      have k2 := Kept.setCells ((w.alloc (.cells ROW 143)).drew.setCells w.heap.size (i * 2) (pv [q])).drew w.heap.size ((i + 1) * 2) ((pv qs).drop (i * 2))
      rw [hww]
      have k01 : Kept w ((w.alloc (.cells ROW 143)).drew.setCells w.heap.size (i * 2) (pv [q])).drew (fun i => i = w.heap.size) := (k0.drew.trans k1 (fun _ _ h => h)).drew
      exact (k01.trans k2 (fun _ _ h => h)).mono (fun i hi e => by omega)
    · simp only [Value.ownBlock] at hk
      injection hk with hk
      omega

end Go.Proofs.Ytgnjenmicojgnaa
