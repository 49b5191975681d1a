/-
  Delete on a slice of timers that is owned.
-/
import Derived.Test.YtgnjenmicojgnaaGreatM0w
namespace Go.Proofs.YtgnjenmicojgnaaGreat
set_option linter.unusedVariables false
set_option linter.unusedSimpArgs false
open Go.RowKit

theorem zeros_pair (n : Nat) : (Builtin.zeroCells (Value.agg #[.int .i64 0, .int .i64 0]).cells n).toList = List.replicate (n * 2) (.int .i64 0) := by
  apply List.ext_getElem
  · simp [Builtin.zeroCells, Value.cells]
  · intro i h1 h2
    simp [Builtin.zeroCells, Value.cells]
    have : i % 2 = 0 ∨ i % 2 = 1 := by omega
    rcases this with h | h <;> rw [h] <;> rfl

theorem run_clear_pair (w : World) (b o n c ty : Nat) (hn : 0 < n) (hc : ∀ j, j < n * 2 → (w.cell? ⟨b, o + j, none⟩).isSome = true) (hf : ∀ j, j < n * 2 → w.frozen? ⟨b, o + j, none⟩ = false) :
    (Builtin.clear_ #[128] ty #[.slice (some ⟨b, o, none⟩) n c]).run Tryz.prog w = .ok (.tuple #[]) (w.setCells b o (List.replicate (n * 2) (.int .i64 0))) := by
  have hst := run_storeCells_cells (P := Tryz.prog) b o (List.replicate (n * 2) (.int .i64 0)) 0 w (by simpa using hc) (by simpa using hf) (by intro v hv'; rw [List.eq_of_mem_replicate hv']; rfl)
  simp only [Nat.add_zero] at hst
  have hz := zeros_pair n
  obtain ⟨m, rfl⟩ : ∃ m, n = m + 1 := ⟨n - 1, by omega⟩
  simp [Builtin.clear_, run_underlying Tryz.underlying128, Tryz.zeroValue131, hz, hst]

set_option maxRecDepth 100000 in
set_option maxHeartbeats 4000000 in
theorem tdelete_any (g n c k j : Nat) (qs : List (Int × Int)) (w : World) (h : OwnP 131 w (.slice (some ⟨g, 0, none⟩) n c) qs) (hn : n = qs.length) (hkj : k < j) (hjn : j ≤ n) :
    Calls Tryz.prog 103 #[.slice (some ⟨g, 0, none⟩) n c, .int .i64 k, .int .i64 j] w fun e w' => e = .returned (.slice (some ⟨g, 0, none⟩) (k + (n - j)) c) ∧ OwnP 131 w' (.slice (some ⟨g, 0, none⟩) (k + (n - j)) c) (qs.take k ++ qs.drop j) ∧ Kept w w' (fun i => i = g) := by
  obtain ⟨i0, hi0, hz0, hz1, hz2⟩ := info_parts info131
  rcases h.shape with ⟨hv, _⟩ | ⟨g', c', cur, hv, hg, hs, hnc, hm, hc⟩
  · cases hv
  injection hv with e1 e2 e3
  injection e1 with e1
  injection e1 with e1
  subst e1 e3
  have hlen : (pv (qs.drop j)).length = (n - j) * 2 := by rw [pv_length, List.length_drop, hn]
  have hdrop : pv (qs.drop j) = (pv qs).drop (j * 2) := (pv_drop qs j).symm
  obtain ⟨A, hA, hsrc⟩ : ∃ A : Addr, (if c = j then some (⟨g, 0, none⟩ : Addr) else some ⟨g, j * 2, none⟩) = some A ∧ Hid (∀ (t : Nat) (u : Value), (pv (qs.drop j))[t]? = some u → w.drew.cell? (A.add t) = some u) := by
    by_cases h : c = j
    · refine ⟨⟨g, 0, none⟩, by simp [h], fun t u hu => ?_⟩
      have ht := (List.getElem?_eq_some_iff.1 hu).1
      rw [hlen] at ht
      omega
    · refine ⟨⟨g, j * 2, none⟩, by simp [h], fun t u hu => ?_⟩
      rw [Addr.add_lit]
      show w.cell? _ = _
      rw [cell_of_row w g _ cur 131 (0, 0) hg]
      rw [hdrop, List.getElem?_drop] at hu
      exact hc _ _ hu
  have hspare : Hid (∀ t, t < (pv (qs.drop j)).length → (w.drew.cell? ⟨g, 0 + k * 2 + t, none⟩).isSome = true ∧ w.drew.frozen? ⟨g, 0 + k * 2 + t, none⟩ = false) := by
    intro t ht
    rw [hlen] at ht
    refine ⟨?_, ?_⟩
    · show (w.cell? _).isSome = true
      rw [cell_of_row w g _ cur 131 (0, 0) hg, Array.getElem?_eq_getElem (by omega)]
      rfl
    · show w.frozen? _ = false
      simp [World.frozen?, hg]
  obtain ⟨W1, hW1⟩ : ∃ W1, W1 = w.drew.setCells g (0 + k * 2) (pv (qs.drop j)) := ⟨_, rfl⟩
  obtain ⟨cur1, hg1, hs1, hc1⟩ := heap_setCells (pv (qs.drop j)) (0 + k * 2) w.drew cur hg
  rw [← hW1] at hg1
  have hcl : ∀ ty c', (Builtin.clear_ #[128] ty #[.slice (some ⟨g, (k + (n - j)) * 2, none⟩) (n - (k + (n - j))) c']).run Tryz.prog W1 = .ok (.tuple #[]) (W1.setCells g ((k + (n - j)) * 2) (List.replicate ((n - (k + (n - j))) * 2) (.int .i64 0))) :=
    fun ty c' => run_clear_pair W1 g ((k + (n - j)) * 2) (n - (k + (n - j))) c' ty (by omega) (fun t ht => by rw [cell_of_row W1 g _ cur1 131 (0, 0) hg1, Array.getElem?_eq_getElem (by omega)]; rfl) (fun t ht => by simp [World.frozen?, hg1])
  have HC1 := Lib.hid hc1
  have HS1 := Lib.hid hs1
  have HG1 := Lib.hid hg1
  have HN := Lib.hid hn
  have HW := Lib.hid hW1
  have HC := Lib.hid hc
  have HLEN := Lib.hid hlen
  have HDROP := Lib.hid hdrop
  have HS := Lib.hid hs
  have HM := Lib.hid hm
  have HKJ := Lib.hid hkj
  have hkj' : k ≤ j := by omega
  have hkc : k ≤ c := by omega
  have hkc1 : j ≤ c := by omega
  have hnc1 : n ≤ c := by omega
  have hcm : c ≤ 9223372036854775807 := by unfold maxLen at hm; omega
  have hne : ¬ (k : Int) = (j : Int) := by omega
  have hneb : ((k : Int) == (j : Int)) = false := by simp; omega
  clear hc1 hg hs1 hg1 hn hW1 hc h hnc hm hlen hdrop e2 hs
  have mixed := mixed
  go_enter Tryz.func103, Tryz.ntmps103
  go_wp2_with fail
  go_region_law_o (refine step_append_room rfl (.tmp 22) (.tmp 25) 128 rfl 131 i0 2 Tryz.underlying128 hi0 hz1 g 0 k c (by simp [Act.eval, Act.put]) A (n - j) (c - j) (pv (qs.drop j)) (by simp [Act.eval, Act.put]) HLEN.out hsrc.out (pv_one _) (by omega) hspare.out ?_; rw [← HW.out])
  go_wp2
  go_ret
  obtain ⟨cur2, hg2, hs2, hc2⟩ := heap_setCells (List.replicate ((n - (k + (n - j))) * 2) (.int .i64 0)) ((k + (n - j)) * 2) W1 cur1 HG1.out
  have hn := HN.out
  have hll : (qs.take k ++ qs.drop j).length = k + (n - j) := by rw [List.length_append, List.length_take, List.length_drop]; omega
  have hs := HS.out
  have hs1 := HS1.out
  have hlen := HLEN.out
  refine ⟨rfl, ?_, ?_⟩
  · have := OwnP.make (T := 131) (qs := qs.take k ++ qs.drop j) (c := c) hg2 (by omega) (by omega) HM.out (fun i u hu => ?_)
    · rw [hll] at this
      exact this
    · have hil := (List.getElem?_eq_some_iff.1 hu).1
      rw [pv_length, hll] at hil
      rw [hc2 i (by omega), if_neg (by omega), HC1.out i (by omega)]
      rw [pv_append, ← pv_take] at hu
      by_cases hik : i < k * 2
      · rw [if_neg (by omega)]
        rw [List.getElem?_append_left (by rw [List.length_take, pv_length]; omega), List.getElem?_take, if_pos hik] at hu
        exact HC.out i u hu
      · rw [if_pos (by omega)]
        rw [List.getElem?_append_right (by rw [List.length_take, pv_length]; omega), List.length_take, pv_length, show min (k * 2) (qs.length * 2) = 0 + k * 2 by omega] at hu
        exact hu
  · have h1 : Kept w W1 (fun i => i = g) := by
      have := Kept.setCells w.drew g (0 + k * 2) (pv (qs.drop j))
      rw [← HW.out] at this
      exact ⟨this.os, this.tape, this.output, this.size, this.block⟩
    exact h1.trans (Kept.setCells W1 g _ _) (fun _ _ h => h)

end Go.Proofs.YtgnjenmicojgnaaGreat
