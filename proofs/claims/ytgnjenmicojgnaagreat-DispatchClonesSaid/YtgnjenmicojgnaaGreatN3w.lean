/-
  What the document's Drop and Set make of a slice of timers.
-/
import Derived.Test.YtgnjenmicojgnaaGreatM5w
import Derived.Test.YtgnjenmicojgnaaGreatQj
namespace Go.Proofs.YtgnjenmicojgnaaGreat
set_option linter.unusedVariables false
set_option linter.unusedSimpArgs false
open Go.RowKit

def NewP (w : World) (qs : List (Int × Int)) (e : Ending) (w' : World) : Prop :=
  ∃ u, e = .returned u ∧ OwnP 99 w' u qs ∧ (∀ b, u.ownBlock = some b → w.heap.size ≤ b) ∧ Below w.heap.size w w'

theorem one_reads127 {w : World} {vb : Nat} {q : Int × Int} (hv : w.heap[vb]? = some (.cells #[.int .i64 q.1, .int .i64 q.2] 99 (0, 0))) : ReadsP w (.slice (some ⟨vb, 0, none⟩) 1 1) [q] :=
  ⟨_, _, rfl, fun _ => ⟨_, rfl, fun j u hu => by
    rw [Addr.add_lit, cell_of_row w vb _ _ 99 (0, 0) hv]
    match j, hu with
    | 0, hu => simp [pv, flatG, tmC] at hu; subst hu; rfl
    | 1, hu => simp [pv, flatG, tmC] at hu; subst hu; rfl
    | j + 2, hu => simp [pv, flatG, tmC] at hu⟩⟩

/-- append of one timer to a slice of this call's own. -/
theorem app_one {w wr : World} {u : Value} {xs : List (Int × Int)} (q : Int × Int) (ho : OwnP 99 wr u xs) (hf : ∀ b, u.ownBlock = some b → w.heap.size ≤ b) (hb : Below w.heap.size w wr) (hl : xs.length ≤ 1000) :
    ∃ v' w', (Builtin.append_ #[46, 46] 46 #[u, .slice (some ⟨wr.heap.size, 0, none⟩) 1 1]).run Tryz.prog (wr.alloc (.cells #[.int .i64 q.1, .int .i64 q.2] 99)) = .ok v' w' ∧ OwnP 99 w' v' (xs ++ [q]) ∧ (∀ b, v'.ownBlock = some b → w.heap.size ≤ b) ∧ Below w.heap.size w w' := by
  obtain ⟨v', w', h1, h2, h3, h4⟩ := own_appendP (t := 46) (ty := 46) Tryz.underlying46 info99 (ho.alloc (.cells #[.int .i64 q.1, .int .i64 q.2] 99)) (one_reads127 (q := q) (heap_alloc_new wr _)) (by simp; omega)
  refine ⟨v', w', h1, h2, fun b hb' => ?_, grown_below (w := w) (hb.alloc hb.size _) h3 hf⟩
  rcases h4 b hb' with h5 | h5
  · exact hf b h5
  · have := hb.size
    simp at h5
    omega

set_option maxRecDepth 100000 in
set_option maxHeartbeats 2000000 in
theorem drop20_any (v : Value) (L : List (Int × Int)) (id : Int) (w : World) (h : OwnP 99 w v L) (hl : L.length ≤ 900) :
    Calls Tryz.prog 93 #[v, .int .i64 id] w (NewP w (L.filter (fun q => q.1 != id))) := by
  obtain ⟨n, hn⟩ : ∃ n, L.length = n := ⟨_, rfl⟩
  obtain ⟨sa, sc, hsl⟩ := h.sl
  rw [hn] at hsl hl
  subst hsl
  have HN := Lib.hid hn
  have H := Lib.hid h
  clear h hn
  go_enter Tryz.func93, Tryz.ntmps93
  go_wp2_with fail
  go_loopw [5, 6] (fun s5 s6 wr => ∃ j : Nat, j ≤ n ∧ s6 = .int .i64 j ∧ OwnP 99 wr s5 ((L.take j).filter (fun q => q.1 != id)) ∧ (∀ b, s5.ownBlock = some b → w.heap.size ≤ b) ∧ Below w.heap.size w wr) (fun _ i _ => n - (intOf i).toNat)
  case atStart => exact ⟨0, by omega, rfl, by simpa using OwnP.nil 99 w, fun b hb => by simp [Value.ownBlock] at hb, Below.refl _ _⟩
  case round =>
    obtain ⟨j, hj, rfl, ho, hf, hb⟩ := hrel
    have HO := Lib.hid ho
    have HF := Lib.hid hf
    have HB := Lib.hid hb
    clear ho hf hb
    by_cases hjn : j < n
    · obtain ⟨q, hq⟩ : ∃ q, L[j]? = some q := ⟨_, List.getElem?_eq_getElem (by have := HN.out; omega)⟩
      obtain ⟨g, c, hv, hgl, c0, c1⟩ := (H.out.below HB.out).at hq
      injection hv with e1 e2 e3
      subst e1 e3
      have htk : (L.take (j + 1)).filter (fun q => q.1 != id) = (L.take j).filter (fun q => q.1 != id) ++ (if q.1 = id then [] else [q]) := by
        rw [List.take_add_one, hq, List.filter_append]
        by_cases hq1 : q.1 = id <;> simp [hq1]
      have HTK := Lib.hid htk
      clear hq e2 htk
      by_cases hqi : q.1 = id
      · have hqb : (q.1 != id) = false := by simp [hqi]
        have HO2 : Hid (OwnP 99 wr u5 ((L.take (j + 1)).filter (fun q => q.1 != id))) := by
          unfold Hid
          rw [HTK.out, if_pos hqi, List.append_nil]
          exact HO.out
        go_wp2_with fail
        go_roundw
        case rel => exact ⟨j + 1, by omega, by go_num, HO2.out, HF.out, HB.out⟩
        case measure => simp [intOf]; omega
      · have hqb : (q.1 != id) = true := by simpa using hqi
        obtain ⟨v', w2, hrun, ho2, hf2, hb2⟩ := app_one q HO.out HF.out HB.out (by have := List.length_filter_le (fun q : Int × Int => q.1 != id) (L.take j); rw [List.length_take] at this; omega)
        have HO2 : Hid (OwnP 99 w2 v' ((L.take (j + 1)).filter (fun q => q.1 != id))) := by
          unfold Hid
          rw [HTK.out, if_neg hqi]
          exact ho2
        have HF2 := Lib.hid hf2
        have HB2 := Lib.hid hb2
        clear ho2 hf2 hb2
        go_wp2_with (first | (at_builtin; refine Lib.wpList_append_run _ rfl (.tmp 20) (.tmp 25) 46 46 rfl _ _ rfl rfl _ _ hrun ?_))
        go_roundw
        case rel => exact ⟨j + 1, by omega, by go_num, HO2.out, HF2.out, HB2.out⟩
        case measure => simp [intOf]; omega
    · obtain rfl : j = n := by omega
      have HO2 : Hid (OwnP 99 wr u5 (L.filter (fun q => q.1 != id))) := by
        have := HO.out
        rw [List.take_of_length_le (by have := HN.out; omega)] at this
        exact this
      go_wp2_with fail
      go_ret
      exact ⟨_, rfl, HO2.out, HF.out, HB.out⟩

set_option maxRecDepth 100000 in
set_option maxHeartbeats 1000000 in
theorem set20_any (v : Value) (L : List (Int × Int)) (id a : Int) (w : World) (h : OwnP 99 w v L) (hl : L.length ≤ 900) :
    Calls Tryz.prog 94 #[v, .int .i64 id, .int .i64 a] w (NewP w (L.filter (fun q => q.1 != id) ++ [(id, a)])) := by
  have HC := Lib.hid (drop20_any v L id w h hl)
  have hl2 := List.length_filter_le (fun q : Int × Int => q.1 != id) L
  clear h
  go_enter Tryz.func94, Tryz.ntmps94
  go_wp2_with fail
  refine HC.out.mono ?_
  rintro e w1 ⟨u, rfl, ho, hf, hb⟩
  obtain ⟨v', w2, hrun, ho2, hf2, hb2⟩ := app_one (id, a) ho hf hb (by omega)
  have HP : Hid (NewP w (L.filter (fun q => q.1 != id) ++ [(id, a)]) (.returned v') w2) := ⟨v', rfl, ho2, hf2, hb2⟩
  clear ho hf hb ho2 hf2 hb2 hl2 HC
  go_wp2_with (first | (at_builtin; refine Lib.wpList_append_run _ rfl (.tmp 9) (.tmp 13) 46 46 rfl _ _ rfl rfl _ _ hrun ?_))
  go_ret
  exact HP.out

end Go.Proofs.YtgnjenmicojgnaaGreat
