/-
  Insert into a slice of ints, ahead of an element: where there is room, and where there is none.
  A list of package ready: what Drop does.
  Insert at the head of a slice of ints that is owned; what Front does to a list.
-/
import Derived.Test.YtgnjenmicojgnaaJ4
import Derived.Shelf.Spec.SlicesInsertGrow
namespace Go.Proofs.Ytgnjenmicojgnaa
set_option linter.unusedVariables false
set_option linter.unusedSimpArgs false
open Go.RowKit

theorem mixed : Try.prog.follows Departure.mixedOrders = true := by kernel_rfl

set_option maxHeartbeats 4000000 in
set_option maxRecDepth 100000 in
theorem insert_shift (b off n c i vb voff m vc : Nat) (cs vs : List Value) (w : World) (hi : i < n) (hm : 0 < m) (hroom : n + m ≤ c) (hc63 : c ≤ 9223372036854775807) (hvb : vb ≠ b)
    (hcl : cs.length = n) (hvl : vs.length = m)
    (hcs : ∀ j v, cs[j]? = some v → w.cell? ⟨b, off + j, none⟩ = some v) (hsp : ∀ j, j < n + m → (w.cell? ⟨b, off + j, none⟩).isSome = true) (hfz : ∀ j, j < n + m → w.frozen? ⟨b, off + j, none⟩ = false)
    (hvs : ∀ j v, vs[j]? = some v → w.cell? ⟨vb, voff + j, none⟩ = some v) (h1c : ∀ v ∈ cs, v.oneCell' = true) (h1v : ∀ v ∈ vs, v.oneCell' = true)
    (tA tB : TypeId) (kA kB : Nat) (hsa : w.shape? vb = some (tA, kA)) (hsb : w.shape? b = some (tB, kB)) (hkB : kB ≠ 0) (hfa : w.frozen? ⟨vb, voff, none⟩ = false) (hfe : w.frozen? ⟨vb, kA, none⟩ = false) :
    Calls Try.prog 130 #[.slice (some ⟨b, off, none⟩) n c, .int .i64 i, .slice (some ⟨vb, voff, none⟩) m vc] w fun e w' =>
      e = .returned (.slice (some ⟨b, off, none⟩) (n + m) c) ∧ w' = (w.drew.setCells b (off + (i + m)) (cs.drop i)).setCells b (off + i) vs := by
  have hz1 : ¬ ((m : Int) = 0) := by omega
  have hz2 : ¬ ((i : Int) = (n : Int)) := by omega
  have hsz : (Try.prog.info? 3).map (·.size) = some 1 := by
    obtain ⟨i0, hi0, h0, h1, h2⟩ := info_parts infoInt
    rw [hi0]; simp [h1]
  have hov : ∀ lb cb, (callFunc 135 #[.slice (some ⟨vb, voff, none⟩) m vc, .slice (some ⟨b, off + (i + m), none⟩) lb cb]).run Try.prog w = .ok (.value (.bool false)) w := fun lb cb => by
    rw [run_callFunc_extern Try.func135 (by kernel_rfl) (by kernel_rfl) (by kernel_rfl) (e := Extern.SlicesOverlaps.overlaps #[42, 42] #[4]) (by kernel_rfl),
      Lib.run_overlaps_apart w 42 4 3 Try.underlying42 1 Try.sizeOf3 ⟨vb, voff, none⟩ ⟨b, off + (i + m), none⟩ m vc lb cb hvb tA tB kA kB hsa hsb hkB hfa hfe]
    rfl
  have hdl : (cs.drop i).length = n - i := by rw [List.length_drop, hcl]
  have mixed := mixed
  have hw1 : IntKind.i64.wrap ((i : Int) + (m : Int)) = (i : Int) + (m : Int) := by rw [IntKind.wrap_i64]; omega
  have hb1 : (0 : Int) ≤ (i : Int) + (m : Int) := by omega
  have hin : i ≤ n := by omega
  have htn : ((i : Int) + (m : Int)).toNat = i + m := by omega
  have hb2 : ¬ (c = i + m) := by omega
  have hb3 : (i : Int) ≤ (n : Int) + (m : Int) := by omega
  have hb4 : ¬ (c = i) := by omega
  have hcp1 : ∀ ty dc sc, (Builtin.copy_ #[130, 130] ty #[.slice (some ⟨b, off + (i + m), none⟩) (n + m - (i + m)) dc, .slice (some ⟨b, off + i, none⟩) (n + m - i) sc]).run Try.prog w.drew = .ok (goInt (cs.drop i).length) (w.drew.setCells b (off + (i + m)) (cs.drop i)) := fun ty dc sc =>
    run_copy_cells w.drew _ _ ty 3 b (off + (i + m)) (n + m - (i + m)) dc ⟨b, off + i, none⟩ (n + m - i) sc (cs.drop i) Try.underlying130 hsz (by rw [hdl]; simp only [Nat.min_def]; split <;> omega)
      (fun j v hj => by rw [Addr.add_lit, Nat.add_assoc]; exact hcs (i + j) v (by rwa [List.getElem?_drop] at hj))
      (fun j hj => by rw [Nat.add_assoc]; exact hsp _ (by omega)) (fun j hj => by rw [Nat.add_assoc]; exact hfz _ (by omega)) (fun v hv => h1c v (List.mem_of_mem_drop hv))
  obtain ⟨W1, hW1⟩ : ∃ W1, W1 = w.drew.setCells b (off + (i + m)) (cs.drop i) := ⟨_, rfl⟩
  have hsp1 : ∀ k, k < n + m → (W1.cell? ⟨b, off + k, none⟩).isSome = true := fun k hk => by
    rw [hW1]
    exact isSome_setCells b _ _ _ (fun j hj => by rw [Nat.add_assoc]; exact hsp _ (by omega)) _ (hsp k hk)
  have hcp2 : ∀ (W : World), (∀ x, W.cell? x = W1.cell? x) → (∀ x, W.frozen? x = W1.frozen? x) → ∀ ty dc, (Builtin.copy_ #[130, 42] ty #[.slice (some ⟨b, off + i, none⟩) (n + m - i) dc, .slice (some ⟨vb, voff, none⟩) m vc]).run Try.prog W = .ok (goInt vs.length) (W.setCells b (off + i) vs) := fun W hWc hWf ty dc =>
    run_copy_cells W _ _ ty 3 b (off + i) (n + m - i) dc ⟨vb, voff, none⟩ m vc vs Try.underlying130 hsz (by rw [hvl]; simp only [Nat.min_def]; split <;> omega)
      (fun j v hj => by
        rw [Addr.add_lit, hWc, hW1, World.cell?_setCells_out b _ _ _ _ (fun h _ => absurd h hvb)]
        exact hvs j v hj)
      (fun j hj => by rw [hWc, Nat.add_assoc]; exact hsp1 _ (by omega)) (fun j hj => by rw [hWf, hW1, World.frozen?_setCells, Nat.add_assoc]; exact hfz _ (by omega)) h1v
  rw [← hW1] at hcp1
  go_enter Try.func130, Try.ntmps130
  go_wp2_with (simp only [hov])
  go_region_law_o (refine step_copy_runI rfl _ _ 130 130 rfl _ _ (by simp [Act.eval, Act.put]) (by simp [Act.eval, Act.put]) (hcp1 _ _ _) ?_)
  go_wp2_with (at_builtin; refine wpList_copy_runI _ rfl _ _ 130 42 rfl _ _ rfl rfl (hcp2 _ (fun _ => rfl) (fun _ => rfl) _ _) ?_)
  go_ret
  first | exact ⟨rfl, rfl⟩ | exact ⟨rfl, by rw [hW1]⟩

set_option maxHeartbeats 4000000 in
set_option maxRecDepth 100000 in
theorem insert_grow (b off n c i vb voff m vc : Nat) (cs vs : List Value) (w : World) (hi : i < n) (hm : 0 < m) (hnc : n ≤ c) (hroom : c < n + m) (hbig : (n + m) * 8 ≤ 140737488355328)
    (hcl : cs.length = n) (hvl : vs.length = m)
    (hcs : ∀ j v, cs[j]? = some v → w.cell? ⟨b, off + j, none⟩ = some v)
    (hvs : ∀ j v, vs[j]? = some v → w.cell? ⟨vb, voff + j, none⟩ = some v) (h1c : ∀ v ∈ cs, v.oneCell' = true) (h1v : ∀ v ∈ vs, v.oneCell' = true) :
    Calls Try.prog 130 #[.slice (some ⟨b, off, none⟩) n c, .int .i64 i, .slice (some ⟨vb, voff, none⟩) m vc] w fun e w' =>
      e = .returned (.slice (some ⟨w.heap.size, 0, none⟩) (n + m) (grownCap w (n + m) c 3)) ∧
      w' = (((w.alloc (.cells ((cs.take i).toArray ++ Builtin.zeroCells (Value.int .i64 0).cells (n + m - i) ++ Builtin.zeroCells (Value.int .i64 0).cells (grownCap w (n + m) c 3 - (n + m))) 3)).drew.setCells w.heap.size i vs).drew).setCells w.heap.size (i + m) (cs.drop i) := by
  have mixed := mixed
  obtain ⟨i0, hi0, hz0, hzs, hzb⟩ := info_parts infoInt
  have hz1 : ¬ ((m : Int) = 0) := by omega
  have hz2 : ¬ ((i : Int) = (n : Int)) := by omega
  have hz3 : (c : Int) < (n : Int) + (m : Int) := by omega
  have hsz : (Try.prog.info? 3).map (·.size) = some 1 := by rw [hi0]; simp [hzs]
  have hbw : b < w.heap.size := block_lt_of_cell (hcs 0 _ (List.getElem?_eq_getElem (by omega)))
  have hvw : vb < w.heap.size := block_lt_of_cell (hvs 0 _ (List.getElem?_eq_getElem (by omega)))
  have hkk : (n : Int) + (m : Int) - (i : Int) = ((n + m - i : Nat) : Int) := by omega
  have hik : i + (n + m - i) = n + m := by omega
  have hold : (Builtin.firstCells i0.size i (.slice (some ⟨b, off, none⟩) i c)).run Try.prog w.drew = .ok (cs.take i).toArray w.drew := by
    rw [hzs]
    exact run_firstCells_some w.drew 1 i ⟨b, off, none⟩ i c (cs.take i) (by rw [List.length_take]; omega) (fun j v hj => by
      rw [Addr.add_lit]
      rw [List.getElem?_take] at hj
      split at hj
      · exact hcs j v hj
      · cases hj)
  have hrz : ∀ ty, (Builtin.append_ #[130, 3] ty #[.slice (some ⟨b, off, none⟩) i c, .int .i64 ((n : Int) + (m : Int) - (i : Int))]).run Try.prog w =
      .ok (.slice (some ⟨w.heap.size, 0, none⟩) (n + m) (grownCap w (n + m) c 3)) (w.drew.alloc (.cells ((cs.take i).toArray ++ Builtin.zeroCells (Value.int .i64 0).cells (n + m - i) ++ Builtin.zeroCells (Value.int .i64 0).cells (grownCap w (n + m) c 3 - (n + m))) 3)) := fun ty => by
    have h := Lib.run_append_grow_zeros w 130 3 ty 3 i0 _ .i64 .i64 Try.underlying130 Try.underlying3 hi0 hz0 (some ⟨b, off, none⟩) i c (cs.take i) hold (n + m - i) (by omega) (by omega) (by omega) (by omega) (by rw [hzb]; omega) (by rw [hzb, hik]; exact growslice_fits hroom hbig)
    rw [hik] at h
    rw [hkk]
    exact h
  obtain ⟨G, hG⟩ : ∃ G, G = grownCap w (n + m) c 3 := ⟨_, rfl⟩
  obtain ⟨ROW, hROW⟩ : ∃ ROW : Array Value, ROW = (cs.take i).toArray ++ Builtin.zeroCells (Value.int .i64 0).cells (n + m - i) ++ Builtin.zeroCells (Value.int .i64 0).cells (G - (n + m)) := ⟨_, rfl⟩
  rw [← hG] at hrz ⊢
  rw [← hROW] at hrz ⊢
  have hRl : n + m ≤ ROW.size := by
    rw [hROW]
    simp [Builtin.zeroCells, Value.cells]
    omega
  obtain ⟨W1, hW1⟩ : ∃ W1, W1 = w.drew.alloc (.cells ROW 3) := ⟨_, rfl⟩
  rw [← hW1] at hrz
  have hN : ∀ j, j < n + m → (W1.cell? ⟨w.heap.size, j, none⟩).isSome = true := fun j hj => by
    rw [hW1, World.cell?_alloc_at (w := w.drew) ROW _ w.heap.size j rfl, Array.getElem?_eq_getElem (by omega)]; rfl
  have hNf : ∀ j, W1.frozen? ⟨w.heap.size, j, none⟩ = false := fun j => by rw [hW1]; exact World.frozen?_alloc_at (w := w.drew) ROW _ w.heap.size j rfl
  have hOb : ∀ j v, w.cell? ⟨b, j, none⟩ = some v → W1.cell? ⟨b, j, none⟩ = some v := fun j v h => by rw [hW1, World.cell?_alloc_past (w := w.drew) _ b j hbw]; exact h
  have hOv : ∀ j v, w.cell? ⟨vb, j, none⟩ = some v → W1.cell? ⟨vb, j, none⟩ = some v := fun j v h => by rw [hW1, World.cell?_alloc_past (w := w.drew) _ vb j hvw]; exact h
  have hcpA : ∀ (W : World), (∀ x, W.cell? x = W1.cell? x) → (∀ x, W.frozen? x = W1.frozen? x) → ∀ ty dc, (Builtin.copy_ #[130, 42] ty #[.slice (some ⟨w.heap.size, i, none⟩) (n + m - i) dc, .slice (some ⟨vb, voff, none⟩) m vc]).run Try.prog W = .ok (goInt vs.length) (W.setCells w.heap.size i vs) := fun W hWc hWf ty dc =>
    run_copy_cells W _ _ ty 3 w.heap.size i (n + m - i) dc ⟨vb, voff, none⟩ m vc vs Try.underlying130 hsz (by rw [hvl]; simp only [Nat.min_def]; split <;> omega)
      (fun j v hj => by rw [Addr.add_lit, hWc]; exact hOv _ v (hvs j v hj))
      (fun j hj => by rw [hWc]; exact hN _ (by omega)) (fun j hj => by rw [hWf]; exact hNf _) h1v
  have hGn : n + m ≤ G := by rw [hG]; exact grownCap_ge w _ _ _
  have hG63 : G ≤ 9223372036854775807 := by
    have := grownCap_le_maxLen w (n + m) c 3 (by unfold maxLen; omega)
    rw [← hG] at this
    unfold maxLen at this
    omega
  have hGi : ¬ (G = i) := by omega
  have hGim : ¬ (G = i + m) := by omega
  have hci : ¬ (c = i) := by omega
  have hbN : b ≠ w.heap.size := by omega
  have hdl : (cs.drop i).length = n - i := by rw [List.length_drop, hcl]
  have hcpB : ∀ (W : World), (∀ x, W.cell? x = (W1.setCells w.heap.size i vs).cell? x) → (∀ x, W.frozen? x = (W1.setCells w.heap.size i vs).frozen? x) → ∀ ty dc sc, (Builtin.copy_ #[130, 130] ty #[.slice (some ⟨w.heap.size, i + m, none⟩) (n + m - (i + m)) dc, .slice (some ⟨b, off + i, none⟩) (n - i) sc]).run Try.prog W = .ok (goInt (cs.drop i).length) (W.setCells w.heap.size (i + m) (cs.drop i)) := fun W hWc hWf ty dc sc =>
    run_copy_cells W _ _ ty 3 w.heap.size (i + m) (n + m - (i + m)) dc ⟨b, off + i, none⟩ (n - i) sc (cs.drop i) Try.underlying130 hsz (by rw [hdl]; simp only [Nat.min_def]; split <;> omega)
      (fun j v hj => by
        rw [Addr.add_lit, hWc, World.cell?_setCells_out _ _ _ _ _ (fun h _ => absurd h hbN), Nat.add_assoc]
        exact hOb _ v (hcs (i + j) v (by rwa [List.getElem?_drop] at hj)))
      (fun j hj => by rw [hWc]; exact isSome_setCells _ _ _ _ (fun t ht => hN _ (by omega)) _ (hN _ (by omega)))
      (fun j hj => by rw [hWf, World.frozen?_setCells]; exact hNf _) (fun v hv => h1c v (List.mem_of_mem_drop hv))
  subst hW1
  have hE1 : ∀ x, ((w.alloc (.cells ROW 3)).drew).cell? x = (w.drew.alloc (.cells ROW 3)).cell? x := fun x => rfl
  have hE2 : ∀ x, ((w.alloc (.cells ROW 3)).drew).frozen? x = (w.drew.alloc (.cells ROW 3)).frozen? x := fun x => rfl
  have hF1 : ∀ x, (((w.alloc (.cells ROW 3)).drew.setCells w.heap.size i vs).drew).cell? x = ((w.drew.alloc (.cells ROW 3)).setCells w.heap.size i vs).cell? x := fun x => rfl
  have hF2 : ∀ x, (((w.alloc (.cells ROW 3)).drew.setCells w.heap.size i vs).drew).frozen? x = ((w.drew.alloc (.cells ROW 3)).setCells w.heap.size i vs).frozen? x := fun x => rfl
  have hw1 : IntKind.i64.wrap ((i : Int) + (m : Int)) = (i : Int) + (m : Int) := by rw [IntKind.wrap_i64]; omega
  have hb1 : (0 : Int) ≤ (i : Int) + (m : Int) := by omega
  have hin : i ≤ n := by omega
  have htn : ((i : Int) + (m : Int)).toNat = i + m := by omega
  have hb3 : (i : Int) ≤ (n : Int) := by omega
  clear hkk hik hold hROW hG hRl
  go_enter Try.func130, Try.ntmps130
  go_wp2_with (first
    | (at_builtin; refine Lib.wpList_append_run _ rfl _ _ _ _ rfl _ _ rfl rfl _ _ (hrz _) ?_)
    | (at_builtin; refine wpList_copy_runI _ rfl _ _ 130 42 rfl _ _ rfl rfl (hcpA _ hE1 hE2 _ _) ?_)
    | (at_builtin; refine wpList_copy_runI _ rfl _ _ 130 130 rfl _ _ rfl rfl (hcpB _ (fun _ => rfl) (fun _ => rfl) _ _ _) ?_))
  go_region_law_o (refine step_copy_runI rfl _ _ 130 130 rfl (.slice (some ⟨w.heap.size, i + m, none⟩) (n + m - (i + m)) (G - (i + m))) (.slice (some ⟨b, off + i, none⟩) (n - i) (c - i)) (by simp [Act.eval, Act.put]) (by simp [Act.eval, Act.put]) (hcpB _ hF1 hF2 3 (G - (i + m)) (c - i)) ?_)
  go_wp2
  go_ret
  exact ⟨rfl, rfl⟩

end Go.Proofs.Ytgnjenmicojgnaa

namespace Go.Proofs.Ytgnjenmicojgnaa
set_option linter.unusedVariables false
set_option linter.unusedSimpArgs false
open Go.RowKit

set_option maxRecDepth 100000 in
set_option maxHeartbeats 1000000 in
theorem drop_none (l : Nat) (V : Nat → Value) (R : Nat → List Int) (id : Int) (w : World) (h : Rdy w l V R) (hno : prio R id = none) :
    Calls Try.prog 105 #[.pointer (some ⟨l, 0, none⟩), .int .i64 id] w fun e w' => e = .returned (.bool false) ∧ w' = w := by
  have HR := Lib.hid h
  have HNO := Lib.hid hno
  clear h hno
  go_enter Try.func105, Try.ntmps105
  go_wp2_with fail
  refine (prio_is (k := 0) (b := false) HR.out (by rw [HNO.out]; rfl) (by rw [HNO.out]; rfl)).mono ?_
  rintro e w1 ⟨rfl, rfl⟩
  go_wp2
  go_ret
  exact ⟨rfl, rfl⟩

theorem idx_first {xs : List Int} {id : Int} (h : id ∈ xs) : xs[xs.idxOf id]? = some id ∧ ∀ (j : Nat) (x : Int), j < xs.idxOf id → xs[j]? = some x → x ≠ id := by
  have hl := List.idxOf_lt_length_of_mem h
  refine ⟨by rw [List.getElem?_eq_getElem hl]; simp, fun j x hj hx => ?_⟩
  have hjl : j < xs.length := by omega
  rw [List.getElem?_eq_getElem hjl] at hx
  injection hx with hx
  subst hx
  intro e
  have := List.not_of_lt_findIdx (p := (· == id)) (xs := xs) (i := j) hj
  simp [e] at this

set_option maxRecDepth 100000 in
set_option maxHeartbeats 1000000 in
theorem drop_some (l p : Nat) (V : Nat → Value) (R : Nat → List Int) (id : Int) (w : World) (h : Rdy w l V R) (hpr : prio R id = some p) :
    Calls Try.prog 105 #[.pointer (some ⟨l, 0, none⟩), .int .i64 id] w (LPost w l V (upd R p ((R p).erase id)) (.bool true)) := by
  obtain ⟨hp, hmem⟩ := prio_some hpr
  obtain ⟨s, hh, hw⟩ := h.hdr
  have hrow := hh.row hp
  have hll := hh.lt
  obtain ⟨hi1, hi2⟩ := idx_first hmem
  obtain ⟨k, hk⟩ : ∃ k, (R p).idxOf id = k := ⟨_, rfl⟩
  rw [hk] at hi1 hi2
  have her : (R p).eraseIdx k = (R p).erase id := (List.erase_eq_eraseIdx_of_idxOf hk).symm
  have hkl : k < (R p).length := (List.getElem?_eq_some_iff.1 hi1).1
  have hown := h.rows p hp
  rcases hown.shape with ⟨_, h0⟩ | ⟨g, c, cur, hV, _, _, hnc, hm, _⟩
  · rw [h0] at hkl
    simp at hkl
  have hkb : k < 9223372036854775807 := by unfold maxLen at hm; omega
  obtain ⟨n, hn⟩ : ∃ n, (R p).length = n := ⟨_, rfl⟩
  rw [hn] at hV hkl
  rw [hV] at hrow hown
  have HR := Lib.hid h
  have HPR := Lib.hid hpr
  have HH := Lib.hid hh
  have HW := Lib.hid hw
  have HI1 := Lib.hid hi1
  have HI2 := Lib.hid hi2
  have HO := Lib.hid hown
  have HN := Lib.hid hn
  have HE := Lib.hid her
  have HV := Lib.hid hV
  clear h hpr hh hw hi1 hi2 hown hn her hV hmem hk hm hnc
  go_enter Try.func105, Try.ntmps105
  go_wp2_with fail
  refine (prio_is (k := p) (b := true) HR.out (by rw [HPR.out]; rfl) (by rw [HPR.out]; rfl)).mono ?_
  rintro e w1 ⟨rfl, rfl⟩
  go_wp2_with fail
  refine (index_any _ n c k (R p) id w1 HO.out HI1.out HI2.out).mono ?_
  rintro e w2 ⟨rfl, rfl⟩
  go_wp2_with fail
  refine (delete_any g n c k (k + 1) (R p) w2 HO.out HN.out.symm hkl rfl).mono ?_
  rintro e w3 ⟨rfl, ho3, hk3⟩
  rw [HE.out] at ho3
  have HO3 := Lib.hid ho3
  have HK3 : Hid (Kept w2 w3 (fun i => (V p).ownBlock = some i)) := hk3.mono (fun i _ e => by rw [HV.out, e]; rfl)
  have HH3 : Hid (Hdr w3 l V s) := HH.out.keep (hk3.block l hll (fun e => HR.out.lne p hp (by rw [HV.out, e]; rfl)))
  clear ho3 hk3
  obtain ⟨m, hm⟩ : ∃ m, n - 1 = m := ⟨_, rfl⟩
  rw [hm]
  rw [hm] at HO3
  have HM := Lib.hid hm
  clear hm
  go_wp2_with fail
  refine (note_any l p V s _ (some ⟨g, 0, none⟩) m c w3 HH3.out hp HW.out).mono ?_
  rintro e w4 ⟨rfl, s', hh4, hw4, hk4⟩
  have hml : m = ((R p).erase id).length := by rw [← HE.out, List.length_eraseIdx, if_pos (by have := HN.out; omega)]; have := HN.out; have := HM.out; omega
  obtain ⟨h1, h2, h3⟩ := HR.out.step hp HK3.out HO3.out hml (fun k hk' => .inl (by rw [HV.out]; exact hk')) hh4 hw4 hk4
  have HP : Hid (LPost w2 l V (upd R p ((R p).erase id)) (.bool true) (.returned (.bool true)) w4) := ⟨rfl, _, h1, h2, h3⟩
  clear hh4 hw4 hk4 h1 h2 h3
  go_wp2
  go_ret
  exact HP.out

end Go.Proofs.Ytgnjenmicojgnaa

namespace Go.Proofs.Ytgnjenmicojgnaa
set_option linter.unusedVariables false
set_option linter.unusedSimpArgs false
open Go.RowKit

def InsPost (w : World) (v : Value) (xs : List Int) (e : Ending) (w' : World) : Prop :=
  ∃ a c, e = .returned (.slice a xs.length c) ∧ Own w' (.slice a xs.length c) xs ∧ Kept w w' (fun i => v.ownBlock = some i) ∧ (∀ k, (Value.slice a xs.length c).ownBlock = some k → v.ownBlock = some k ∨ w.heap.size ≤ k)

set_option maxRecDepth 100000 in
set_option maxHeartbeats 1000000 in
theorem insert_none (a : Option Addr) (c vb : Nat) (id : Int) (w : World) (h : Own w (.slice a 0 c) []) (hv : w.heap[vb]? = some (.cells #[.int .i64 id] 3 (0, 0))) :
    Calls Try.prog 130 #[.slice a 0 c, .int .i64 0, .slice (some ⟨vb, 0, none⟩) 1 1] w (InsPost w (.slice a 0 c) [id]) := by
  obtain ⟨v', w2, hrun, ho, hg, hf⟩ := own_append (t := 130) (tx := 42) (ty := 130) Try.underlying130 Try.underlying42 h (x := .slice (some ⟨vb, 0, none⟩) 1 1) (ys := [id]) ⟨_, _, rfl, fun _ => ⟨_, rfl, fun j u hu => by
    match j, hu with
    | 0, hu =>
      simp [iv] at hu
      subst hu
      have : (⟨vb, 0, none⟩ : Addr).add 0 = ⟨vb, 0, none⟩ := by simp [Addr.add]
      rw [this, cell_of_row w vb 0 _ 3 (0, 0) hv]
      rfl
    | j + 1, hu => simp [iv] at hu⟩⟩ (by simp)
  rw [List.nil_append] at ho
  obtain ⟨a', c', rfl⟩ := ho.sl
  have HP : Hid (InsPost w (.slice a 0 c) [id] (.returned (.slice a' 1 c')) w2) := ⟨a', c', rfl, ho, Kept.of_grown hg (fun i hi => hi), hf⟩
  clear ho hg hf hv
  cases a with
  | none =>
    clear h
    go_enter Try.func130, Try.ntmps130
    go_wp2_with (first | (at_builtin; refine Lib.wpList_append_run _ rfl _ _ _ _ rfl _ _ rfl rfl _ _ hrun ?_))
    go_ret
    exact HP.out
  | some ad =>
    obtain ⟨ab, ao, asp⟩ := ad
    rcases h.shape with ⟨h0, _⟩ | ⟨g, c0, cur, h0, _⟩
    · cases h0
    injection h0 with e1 e2 e3
    injection e1 with e1
    injection e1 with e1 e4 e5
    subst e1 e4 e5
    clear h e2
    go_enter Try.func130, Try.ntmps130
    go_wp2_with (first | (at_builtin; refine Lib.wpList_append_run _ rfl _ _ _ _ rfl _ _ rfl rfl _ _ hrun ?_))
    all_goals (go_ret; exact HP.out)

set_option maxRecDepth 100000 in
set_option maxHeartbeats 1000000 in
theorem insert_any (v : Value) (xs : List Int) (vb : Nat) (id : Int) (w : World) (h : Own w v xs) (hv : w.heap[vb]? = some (.cells #[.int .i64 id] 3 (0, 0))) (hne : v.ownBlock ≠ some vb) (hl : xs.length ≤ 1000) :
    Calls Try.prog 130 #[v, .int .i64 0, .slice (some ⟨vb, 0, none⟩) 1 1] w (InsPost w v (id :: xs)) := by
  obtain ⟨a, c, rfl⟩ := h.sl
  by_cases hx : xs = []
  · subst hx
    exact insert_none a c vb id w h hv
  rcases h.shape with ⟨_, h0⟩ | ⟨g, c0, cur, h0, hg, hs, hn, hm, hc⟩
  · exact absurd h0 hx
  injection h0 with e1 e2 e3
  subst e1 e3
  have hx0 : 0 < xs.length := Nat.pos_of_ne_zero (fun e => hx (List.eq_nil_of_length_eq_zero e))
  have hcs : ∀ (j : Nat) (u : Value), (iv xs)[j]? = some u → w.cell? ⟨g, 0 + j, none⟩ = some u := fun j u hu => by
    unfold iv at hu
    rw [List.getElem?_map] at hu
    cases hx : xs[j]? with
    | none => rw [hx] at hu; cases hu
    | some x =>
      rw [hx] at hu
      simp at hu
      subst hu
      rw [Nat.zero_add, cell_of_row w g j cur 3 (0, 0) hg]
      exact hc j x hx
  have hvs : ∀ (j : Nat) (u : Value), (iv [id])[j]? = some u → w.cell? ⟨vb, 0 + j, none⟩ = some u := fun j u hu => by
    match j, hu with
    | 0, hu =>
      simp [iv] at hu
      subst hu
      rw [cell_of_row w vb _ _ 3 (0, 0) hv]
      rfl
    | j + 1, hu => simp [iv] at hu
  have hvg : vb ≠ g := fun e => hne (by rw [e]; rfl)
  have hgl : g < w.heap.size := (Array.getElem?_eq_some_iff.1 hg).1
  by_cases hroom : xs.length + 1 ≤ c
  · refine (insert_shift g 0 xs.length c 0 vb 0 1 1 (iv xs) (iv [id]) w hx0 (by omega) hroom (by unfold maxLen at hm; omega) hvg (iv_length xs) rfl hcs (fun j hj => by rw [cell_of_row w g _ cur 3 (0, 0) hg, Array.getElem?_eq_getElem (by omega)]; rfl) (fun j hj => by simp [World.frozen?, hg]) hvs (iv_one _) (iv_one _) 3 3 1 c (by simp [World.shape?, hv]) (by simp [World.shape?, hg, hs]) (by omega) (by simp [World.frozen?, hv]) (by simp [World.frozen?, hv])).mono ?_
    rintro e w' ⟨rfl, hw'⟩
    obtain ⟨cur1, hg1, hs1, hc1⟩ := heap_setCells (iv xs) 1 w.drew cur hg
    obtain ⟨cur2, hg2, hs2, hc2⟩ := heap_setCells (iv [id]) 0 _ cur1 hg1
    have hww : w' = (w.drew.setCells g 1 (iv xs)).setCells g 0 (iv [id]) := hw'
    rw [← hww] at hg2
    refine ⟨some ⟨g, 0, none⟩, c, rfl, Own.make hg2 (by omega) (by simpa using hroom) hm (fun i x hi => ?_), ?_, fun k hk => .inl hk⟩
    · have hil := (List.getElem?_eq_some_iff.1 hi).1
      rw [List.length_cons] at hil
      rw [hc2 i (by omega)]
      by_cases h0 : i = 0
      · subst h0
        simp at hi
        subst hi
        rw [if_pos (by simp [iv])]
        rfl
      · rw [if_neg (by simp [iv]; omega), hc1 i (by omega), if_pos (by rw [iv_length]; omega)]
        unfold iv
        rw [List.getElem?_map]
        obtain ⟨j, rfl⟩ : ∃ j, i = j + 1 := ⟨i - 1, by omega⟩
        rw [show j + 1 - 1 = j by omega]
        simp at hi
        rw [hi]
        rfl
    · have k1 : Kept w (w.drew.setCells g 1 (iv xs)) (fun i => i = g) := by
        have := Kept.setCells w.drew g 1 (iv xs)
        exact ⟨this.os, this.tape, this.output, this.size, this.block⟩
      rw [hww]
      exact (k1.trans (Kept.setCells _ g _ _) (fun _ _ h => h)).mono (fun i _ e => by rw [e]; rfl)
  · refine (insert_grow g 0 xs.length c 0 vb 0 1 1 (iv xs) (iv [id]) w hx0 (by omega) hn (by omega) (by omega) (iv_length xs) rfl hcs hvs (iv_one _) (iv_one _)).mono ?_
    rintro e w' ⟨rfl, hw'⟩
    obtain ⟨G, hG⟩ : ∃ G, grownCap w (xs.length + 1) c 3 = G := ⟨_, rfl⟩
    have hge := grownCap_ge w (xs.length + 1) c 3
    have hle := grownCap_le_maxLen w (xs.length + 1) c 3 (by unfold maxLen; omega)
    rw [hG] at hw' hge hle ⊢
    obtain ⟨ROW, hROW⟩ : ∃ ROW : Array Value, ROW = ((iv xs).take 0).toArray ++ Builtin.zeroCells (Value.int .i64 0).cells (xs.length + 1 - 0) ++ Builtin.zeroCells (Value.int .i64 0).cells (G - (xs.length + 1)) := ⟨_, rfl⟩
    rw [← hROW] at hw'
    have hRs : ROW.size = G := by
      rw [hROW]
      simp [Builtin.zeroCells, Value.cells]
      omega
    have hg0 : (w.alloc (.cells ROW 3)).drew.heap[w.heap.size]? = some (.cells ROW 3 (0, 0)) := heap_alloc_new w _
    obtain ⟨cur1, hg1, hs1, hc1⟩ := heap_setCells (iv [id]) 0 _ ROW hg0
    have hg1' : ((w.alloc (.cells ROW 3)).drew.setCells w.heap.size 0 (iv [id])).drew.heap[w.heap.size]? = some (.cells cur1 3 (0, 0)) := hg1
    obtain ⟨cur2, hg2, hs2, hc2⟩ := heap_setCells (iv xs) 1 _ cur1 hg1'
    have hww : w' = (((w.alloc (.cells ROW 3)).drew.setCells w.heap.size 0 (iv [id])).drew).setCells w.heap.size 1 (iv xs) := hw'
    rw [← hww] at hg2
    refine ⟨some ⟨w.heap.size, 0, none⟩, G, rfl, Own.make hg2 (by omega) (by simpa using hge) hle (fun i x hi => ?_), ?_, fun k hk => .inr ?_⟩
    · have hil := (List.getElem?_eq_some_iff.1 hi).1
      rw [List.length_cons] at hil
      rw [hc2 i (by omega)]
      by_cases h0 : i = 0
      · subst h0
        simp at hi
        subst hi
        rw [if_neg (by omega), hc1 0 (by omega), if_pos (by simp [iv])]
        rfl
      · rw [if_pos (by rw [iv_length]; omega)]
        unfold iv
        rw [List.getElem?_map]
        obtain ⟨j, rfl⟩ : ∃ j, i = j + 1 := ⟨i - 1, by omega⟩
        rw [show j + 1 - 1 = j by omega]
        simp at hi
        rw [hi]
        rfl
    · have k0 : Kept w (w.alloc (.cells ROW 3)) (fun i => i = w.heap.size) := Kept.of_below ((Below.refl _ _).alloc (Nat.le_refl _) _)
      have k1 := Kept.setCells (w.alloc (.cells ROW 3)).drew w.heap.size 0 (iv [id])
      have k2 := Kept.setCells ((w.alloc (.cells ROW 3)).drew.setCells w.heap.size 0 (iv [id])).drew w.heap.size 1 (iv xs)
      rw [hww]
      have k01 : Kept w ((w.alloc (.cells ROW 3)).drew.setCells w.heap.size 0 (iv [id])).drew (fun i => i = w.heap.size) := (k0.drew.trans k1 (fun _ _ h => h)).drew
      exact (k01.trans k2 (fun _ _ h => h)).mono (fun i hi e => by omega)
    · simp only [Value.ownBlock] at hk
      injection hk with hk
      omega

end Go.Proofs.Ytgnjenmicojgnaa
