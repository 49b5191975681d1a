/-
  Insert of one timer into a slice of timers that is owned.
-/
import Derived.Test.YtgnjenmicojgnaaGreatM3w
namespace Go.Proofs.YtgnjenmicojgnaaGreat
set_option linter.unusedVariables false
set_option linter.unusedSimpArgs false
open Go.RowKit

def InsPostP (w : World) (v : Value) (qs : List (Int × Int)) (e : Ending) (w' : World) : Prop :=
  ∃ a c, e = .returned (.slice a qs.length c) ∧ OwnP 131 w' (.slice a qs.length c) qs ∧ Kept w w' (fun i => v.ownBlock = some i) ∧ (∀ k, (Value.slice a qs.length c).ownBlock = some k → v.ownBlock = some k ∨ w.heap.size ≤ k)

theorem one_reads {w : World} {vb : Nat} {q : Int × Int} (hv : w.heap[vb]? = some (.cells #[.int .i64 q.1, .int .i64 q.2] 131 (0, 0))) : ReadsP w (.slice (some ⟨vb, 0, none⟩) 1 1) [q] :=
  ⟨_, _, rfl, fun _ => ⟨_, rfl, fun j u hu => by
    rw [Addr.add_lit, cell_of_row w vb _ _ 131 (0, 0) hv]
    match j, hu with
    | 0, hu => simp [pv, flatG, tmC] at hu; subst hu; rfl
    | 1, hu => simp [pv, flatG, tmC] at hu; subst hu; rfl
    | j + 2, hu => simp [pv, flatG, tmC] at hu⟩⟩

set_option maxRecDepth 100000 in
set_option maxHeartbeats 1000000 in
theorem tinsert_end (v : Value) (n vb : Nat) (qs : List (Int × Int)) (q : Int × Int) (w : World) (h : OwnP 131 w v qs) (hn : qs.length = n) (hl : n ≤ 1000) (hv : w.heap[vb]? = some (.cells #[.int .i64 q.1, .int .i64 q.2] 131 (0, 0))) :
    Calls Tryz.prog 129 #[v, .int .i64 n, .slice (some ⟨vb, 0, none⟩) 1 1] w (InsPostP w v (qs ++ [q])) := by
  obtain ⟨v', w2, hrun, ho, hg, hf⟩ := own_appendP (t := 128) (ty := 128) Tryz.underlying128 info131 h (one_reads hv) (by simp; omega)
  obtain ⟨a', c', rfl⟩ := ho.sl
  obtain ⟨m, hm⟩ : ∃ m, (qs ++ [q]).length = m := ⟨_, rfl⟩
  rw [hm] at hrun ho hf
  have HP : Hid (InsPostP w v (qs ++ [q]) (.returned (.slice a' m c')) w2) := ⟨a', c', by rw [hm], by rw [hm]; exact ho, Kept.of_grown hg (fun i hi => hi), by rw [hm]; exact hf⟩
  rcases h.shape with ⟨h1, h2⟩ | ⟨g, c, cur, h1, h2, h3, h4, h5, h6⟩
  · subst h1
    subst h2
    obtain rfl : n = 0 := hn.symm
    clear h ho hg hf hv hm hn
    go_enter Tryz.func129, Tryz.ntmps129
    go_wp2_with (first | (at_builtin; refine Lib.wpList_append_run _ rfl _ _ _ _ rfl _ _ rfl rfl _ _ hrun ?_))
    go_ret
    exact HP.out
  · rw [hn] at h1 h4
    subst h1
    have hcm : c ≤ 9223372036854775807 := by unfold maxLen at h5; omega
    clear h ho hg hf hv hm hn h2 h3 h5 h6
    go_enter Tryz.func129, Tryz.ntmps129
    go_wp2_with (first | (at_builtin; refine Lib.wpList_append_run _ rfl _ _ _ _ rfl _ _ rfl rfl _ _ hrun ?_))
    all_goals (go_ret; exact HP.out)

set_option maxRecDepth 100000 in
set_option maxHeartbeats 1000000 in
theorem tinsert_any (v : Value) (n i vb : Nat) (qs : List (Int × Int)) (q : Int × Int) (w : World) (h : OwnP 131 w v qs) (hn : qs.length = n) (hi : i ≤ n) (hl : n ≤ 1000) (hv : w.heap[vb]? = some (.cells #[.int .i64 q.1, .int .i64 q.2] 131 (0, 0))) (hne : v.ownBlock ≠ some vb) :
    Calls Tryz.prog 129 #[v, .int .i64 i, .slice (some ⟨vb, 0, none⟩) 1 1] w (InsPostP w v (qs.take i ++ q :: qs.drop i)) := by
  by_cases hin : i = n
  · subst hin
    have := tinsert_end v i vb qs q w h hn hl hv
    rw [List.take_of_length_le (by omega), List.drop_of_length_le (by omega)]
    exact this
  rcases h.shape with ⟨_, h0⟩ | ⟨g, c, cur, h1, hg, hs, hnc, hm, hc⟩
  · rw [h0] at hn
    simp at hn
    omega
  subst h1
  rw [hn]
  rw [hn] at hnc
  have hlen : (qs.take i ++ q :: qs.drop i).length = n + 1 := by simp; omega
  have hpl : (pv qs).length = n * 2 := by rw [pv_length, hn]
  have hcs : ∀ (j : Nat) (u : Value), (pv qs)[j]? = some u → w.cell? ⟨g, 0 + j, none⟩ = some u := fun j u hu => by
    rw [Nat.zero_add, cell_of_row w g j cur 131 (0, 0) hg]
    exact hc j u hu
  have hvs : ∀ (j : Nat) (u : Value), (pv [q])[j]? = some u → w.cell? ⟨vb, 0 + j, none⟩ = some u := fun j u hu => by
    rw [cell_of_row w vb _ _ 131 (0, 0) hv]
    match j, hu with
    | 0, hu => simp [pv, flatG, tmC] at hu; subst hu; rfl
    | 1, hu => simp [pv, flatG, tmC] at hu; subst hu; rfl
    | j + 2, hu => simp [pv, flatG, tmC] at hu
  have hvg : vb ≠ g := fun e => hne (by rw [e]; rfl)
  have hgl : g < w.heap.size := (Array.getElem?_eq_some_iff.1 hg).1
  have hnew : ∀ (k : Nat) (u : Value), (pv (qs.take i ++ q :: qs.drop i))[k]? = some u → (if k < i * 2 then (pv qs)[k]? else if k < i * 2 + 2 then (pv [q])[k - i * 2]? else (pv qs)[k - 2]?) = some u := by
    intro k u hu
    have e1 : pv (qs.take i ++ q :: qs.drop i) = (pv qs).take (i * 2) ++ (pv [q] ++ (pv qs).drop (i * 2)) := by
      rw [pv_append, ← pv_take, show q :: qs.drop i = [q] ++ qs.drop i by rfl, pv_append, ← pv_drop]
    have l1 : ((pv qs).take (i * 2)).length = i * 2 := by rw [List.length_take, hpl]; omega
    have l2 : (pv [q]).length = 2 := pv_length _
    rw [e1] at hu
    by_cases h1 : k < i * 2
    · rw [if_pos h1]
      rw [List.getElem?_append_left (by omega), List.getElem?_take, if_pos h1] at hu
      exact hu
    · rw [if_neg h1]
      rw [List.getElem?_append_right (by omega), l1] at hu
      by_cases h2 : k < i * 2 + 2
      · rw [if_pos h2]
        rw [List.getElem?_append_left (by omega)] at hu
        exact hu
      · rw [if_neg h2]
        rw [List.getElem?_append_right (by omega), l2, List.getElem?_drop, show i * 2 + (k - i * 2 - 2) = k - 2 by omega] at hu
        exact hu
  have hnl : (pv (qs.take i ++ q :: qs.drop i)).length = (n + 1) * 2 := by rw [pv_length, hlen]
  have hdl : ((pv qs).drop (i * 2)).length = (n - i) * 2 := by rw [List.length_drop, hpl]; omega
  have hq2 : (pv [q]).length = 2 := pv_length _
  by_cases hroom : n + 1 ≤ c
  · refine (tinsert_shift g 0 n c i vb 0 1 1 (pv qs) (pv [q]) w (by omega) (by omega) hroom (by unfold maxLen at hm; omega) hvg hpl hq2 hcs (fun j hj => by rw [cell_of_row w g _ cur 131 (0, 0) hg, Array.getElem?_eq_getElem (by omega)]; rfl) (fun j hj => by simp [World.frozen?, hg]) hvs (pv_one _) (pv_one _) 131 131 2 (c * 2) (by simp [World.shape?, hv]) (by simp [World.shape?, hg, hs]) (by omega) (by simp [World.frozen?, hv]) (by simp [World.frozen?, hv])).mono ?_
    rintro e w' ⟨rfl, hw'⟩
    obtain ⟨cur1, hg1, hs1, hc1⟩ := heap_setCells ((pv qs).drop (i * 2)) (0 + (i + 1) * 2) w.drew cur hg
    obtain ⟨cur2, hg2, hs2, hc2⟩ := heap_setCells (pv [q]) (0 + i * 2) _ cur1 hg1
    rw [← hw'] at hg2
    unfold InsPostP
    rw [hlen]
    refine ⟨some ⟨g, 0, none⟩, c, rfl, ?_, ?_, fun k hk => .inl hk⟩
    · have := OwnP.make (T := 131) (qs := qs.take i ++ q :: qs.drop i) (c := c) hg2 (by omega) (by omega) hm (fun k u hu => ?_)
      · rw [hlen] at this
        exact this
      · have hkl := (List.getElem?_eq_some_iff.1 hu).1
        rw [hnl] at hkl
        have hu2 := hnew k u hu
        rw [hc2 k (by omega), hq2]
        by_cases h1 : k < i * 2
        · rw [if_pos h1] at hu2
          rw [if_neg (by omega), hc1 k (by omega), if_neg (by omega)]
          exact hc k u hu2
        · rw [if_neg h1] at hu2
          by_cases h2 : k < i * 2 + 2
          · rw [if_pos h2] at hu2
            rw [if_pos (by omega), show k - (0 + i * 2) = k - i * 2 by omega]
            exact hu2
          · rw [if_neg h2] at hu2
            rw [if_neg (by omega), hc1 k (by omega), if_pos (by omega), List.getElem?_drop, show i * 2 + (k - (0 + (i + 1) * 2)) = k - 2 by omega]
            exact hu2
    · have k1 : Kept w (w.drew.setCells g (0 + (i + 1) * 2) ((pv qs).drop (i * 2))) (fun i => i = g) := by
        have := Kept.setCells w.drew g (0 + (i + 1) * 2) ((pv qs).drop (i * 2))
        exact ⟨this.os, this.tape, this.output, this.size, this.block⟩
      rw [hw']
      exact (k1.trans (Kept.setCells _ g _ _) (fun _ _ h => h)).mono (fun i _ e => by rw [e]; rfl)
  · refine (tinsert_grow g 0 n c i vb 0 1 1 (pv qs) (pv [q]) w (by omega) (by omega) hnc (by omega) (by omega) hpl hq2 hcs hvs (pv_one _) (pv_one _)).mono ?_
    rintro e w' ⟨rfl, hw'⟩
    obtain ⟨G, hG⟩ : ∃ G, grownCap w (n + 1) c 131 = G := ⟨_, rfl⟩
    have hge := grownCap_ge w (n + 1) c 131
    have hle := grownCap_le_maxLen w (n + 1) c 131 (by unfold maxLen; omega)
    rw [hG] at hw' hge hle ⊢
    obtain ⟨ROW, hROW⟩ : ∃ ROW : Array Value, ROW = ((pv qs).take (i * 2)).toArray ++ Builtin.zeroCells (Value.agg #[.int .i64 0, .int .i64 0]).cells (n + 1 - i) ++ Builtin.zeroCells (Value.agg #[.int .i64 0, .int .i64 0]).cells (G - (n + 1)) := ⟨_, rfl⟩
    rw [← hROW] at hw'
    have hRs : ROW.size = G * 2 := by
      rw [hROW]
      simp [Builtin.zeroCells, Value.cells, hpl]
      omega
    have hRp : ∀ k, k < i * 2 → ROW[k]? = (pv qs)[k]? := fun k hk => by
      rw [hROW, Array.append_assoc, Array.getElem?_append_left (by simp [hpl]; omega)]
      simp [List.getElem?_take, hk]
    have hg0 : (w.alloc (.cells ROW 131)).drew.heap[w.heap.size]? = some (.cells ROW 131 (0, 0)) := heap_alloc_new w _
    obtain ⟨cur1, hg1, hs1, hc1⟩ := heap_setCells (pv [q]) (i * 2) _ ROW hg0
    have hg1' : ((w.alloc (.cells ROW 131)).drew.setCells w.heap.size (i * 2) (pv [q])).drew.heap[w.heap.size]? = some (.cells cur1 131 (0, 0)) := hg1
    obtain ⟨cur2, hg2, hs2, hc2⟩ := heap_setCells ((pv qs).drop (i * 2)) ((i + 1) * 2) _ cur1 hg1'
    have hww : w' = (((w.alloc (.cells ROW 131)).drew.setCells w.heap.size (i * 2) (pv [q])).drew).setCells w.heap.size ((i + 1) * 2) ((pv qs).drop (i * 2)) := hw'
    rw [← hww] at hg2
    unfold InsPostP
    rw [hlen]
    refine ⟨some ⟨w.heap.size, 0, none⟩, G, rfl, ?_, ?_, fun k hk => .inr ?_⟩
    · have := OwnP.make (T := 131) (qs := qs.take i ++ q :: qs.drop i) (c := G) hg2 (by omega) (by omega) hle (fun k u hu => ?_)
      · rw [hlen] at this
        exact this
      · have hkl := (List.getElem?_eq_some_iff.1 hu).1
        rw [hnl] at hkl
        have hu2 := hnew k u hu
        rw [hc2 k (by omega)]
        by_cases h1 : k < i * 2
        · rw [if_pos h1] at hu2
          rw [if_neg (by omega), hc1 k (by omega), if_neg (by omega), hRp k h1]
          exact hu2
        · rw [if_neg h1] at hu2
          by_cases h2 : k < i * 2 + 2
          · rw [if_pos h2] at hu2
            rw [if_neg (by omega), hc1 k (by omega), if_pos (by omega)]
            exact hu2
          · rw [if_neg h2] at hu2
            rw [if_pos (by omega), List.getElem?_drop, show i * 2 + (k - (i + 1) * 2) = k - 2 by omega]
            exact hu2
    · have k0 : Kept w (w.alloc (.cells ROW 131)) (fun i => i = w.heap.size) := Kept.of_below ((Below.refl _ _).alloc (Nat.le_refl _) _)
      have k1 := Kept.setCells (w.alloc (.cells ROW 131)).drew w.heap.size (i * 2) (pv [q])
      have k2 := Kept.setCells ((w.alloc (.cells ROW 131)).drew.setCells w.heap.size (i * 2) (pv [q])).drew w.heap.size ((i + 1) * 2) ((pv qs).drop (i * 2))
      rw [hww]
      have k01 : Kept w ((w.alloc (.cells ROW 131)).drew.setCells w.heap.size (i * 2) (pv [q])).drew (fun i => i = w.heap.size) := (k0.drew.trans k1 (fun _ _ h => h)).drew
      exact (k01.trans k2 (fun _ _ h => h)).mono (fun i hi e => by omega)
    · simp only [Value.ownBlock] at hk
      injection hk with hk
      omega

end Go.Proofs.YtgnjenmicojgnaaGreat
