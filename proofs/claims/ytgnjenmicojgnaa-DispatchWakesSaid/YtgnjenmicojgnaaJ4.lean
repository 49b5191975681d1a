/-
  Index and Delete on a slice of ints that is owned; what Drop does to a list.
-/
import Derived.Test.YtgnjenmicojgnaaJ3
import Derived.Shelf.RegionOpenPlain
import Derived.Deep.RegionLaw
import Derived.Lib.SliceRun
namespace Go.Proofs.Ytgnjenmicojgnaa
set_option linter.unusedVariables false
set_option linter.unusedSimpArgs false
open Go.RowKit

set_option maxRecDepth 100000 in
set_option maxHeartbeats 1000000 in
theorem index_any (a : Option Addr) (n c k : Nat) (xs : List Int) (id : Int) (w : World) (h : Own w (.slice a n c) xs) (hk : xs[k]? = some id) (h0 : ∀ (j : Nat) (x : Int), j < k → xs[j]? = some x → x ≠ id) :
    Calls Try.prog 118 #[.slice a n c, .int .i64 id] w fun e w' => e = .returned (.int .i64 k) ∧ w' = w := by
  rcases h.shape with ⟨_, rfl⟩ | ⟨g, c', cur, hv, hg, hs, hn, hm, hc⟩
  · simp at hk
  injection hv with e1 e2 e3
  subst e1 e2 e3
  have hgl : g < w.heap.size := (Array.getElem?_eq_some_iff.1 hg).1
  have hkl : k < xs.length := (List.getElem?_eq_some_iff.1 hk).1
  have HC : Hid (∀ (j : Nat) (x : Int), xs[j]? = some x → w.cell? ⟨g, j, none⟩ = some (.int .i64 x)) := fun j x hx => by
    rw [cell_of_row w g j cur 3 (0, 0) hg]
    exact hc j x hx
  have HK := Lib.hid hk
  have H0 := Lib.hid h0
  have hnm : xs.length ≤ 9223372036854775807 := by unfold maxLen at hm; omega
  obtain ⟨n, hn'⟩ : ∃ n, xs.length = n := ⟨_, rfl⟩
  rw [hn'] at hnm hkl ⊢
  have HN := Lib.hid hn'
  clear h hk h0 hg hs hn hm hc hn'
  go_enter Try.func118, Try.ntmps118
  go_wp2_with fail
  go_loopw [8] (fun s8 wr => ∃ j : Nat, j ≤ k ∧ s8 = .int .i64 j ∧ wr = w) (fun i _ => n - (intOf i).toNat)
  case atStart => exact ⟨0, by omega, rfl, rfl⟩
  case round =>
    obtain ⟨j, hj, rfl, rfl⟩ := hrel
    have hjn : j < n := by omega
    obtain ⟨x, hx⟩ : ∃ x, xs[j]? = some x := ⟨_, List.getElem?_eq_getElem (by have := HN.out; omega)⟩
    have hcell := HC.out j x hx
    by_cases hjk : j = k
    · subst hjk
      have hxe : x = id := by
        have := hx.symm.trans HK.out
        injection this
      subst hxe
      clear hx
      go_wp2_with fail
      go_ret
      exact ⟨rfl, rfl⟩
    · have hxe : x ≠ id := H0.out j x (by omega) hx
      have hxb : (id == x) = false := by simpa using Ne.symm hxe
      have hxe' : ¬ id = x := Ne.symm hxe
      clear hx
      go_wp2_with fail
      go_roundw
      case rel => exact ⟨j + 1, by omega, by go_num, trivial⟩
      case measure => simp [intOf]; omega

theorem heap_setCells {g : Nat} {T : TypeId} : ∀ (vs : List Value) (o : Nat) (w : World) (cur : Array Value), w.heap[g]? = some (.cells cur T (0, 0)) → ∃ cur', (w.setCells g o vs).heap[g]? = some (.cells cur' T (0, 0)) ∧ cur'.size = cur.size ∧ ∀ j, j < cur.size → cur'[j]? = if o ≤ j ∧ j < o + vs.length then vs[j - o]? else cur[j]?
  | [], o, w, cur, h => ⟨cur, h, rfl, fun j hj => by rw [if_neg (by rintro ⟨h1, h2⟩; simp at h2; omega)]⟩
  | v :: r, o, w, cur, h => by
    obtain ⟨cur', h1, h2, h3⟩ := heap_setCells r (o + 1) (w.setCell ⟨g, o, none⟩ v) _ (heap_setCell h)
    refine ⟨cur', h1, by rw [h2]; simp, fun j hj => ?_⟩
    rw [h3 j (by simpa using hj), Array.getElem?_setIfInBounds]
    by_cases e : o = j
    · subst e
      rw [if_neg (by omega), if_pos rfl, if_pos hj, if_pos (by simp)]
      simp
    · by_cases e2 : o + 1 ≤ j ∧ j < o + 1 + r.length
      · rw [if_pos e2, if_pos (by simp; omega)]
        rw [show j - o = (j - (o + 1)) + 1 by omega]
        simp
      · rw [if_neg e2, if_neg e, if_neg (by simp; omega)]

theorem heap_setCells_other' (g i : Nat) (h : i ≠ g) : ∀ (vs : List Value) (o : Nat) (w : World), (w.setCells g o vs).heap[i]? = w.heap[i]?
  | [], _, _ => rfl
  | v :: r, o, w => by rw [World.setCells, heap_setCells_other' g i h r, heap_setCell_other h]

theorem size_setCells (g : Nat) : ∀ (vs : List Value) (o : Nat) (w : World), (w.setCells g o vs).heap.size = w.heap.size
  | [], _, _ => rfl
  | v :: r, o, w => by rw [World.setCells, size_setCells g r]; simp
theorem os_setCells (g : Nat) : ∀ (vs : List Value) (o : Nat) (w : World), (w.setCells g o vs).os = w.os ∧ (w.setCells g o vs).tape = w.tape ∧ (w.setCells g o vs).output = w.output
  | [], _, _ => ⟨rfl, rfl, rfl⟩
  | v :: r, o, w => by rw [World.setCells]; exact os_setCells g r (o + 1) _
theorem Kept.setCells (w : World) (g o : Nat) (vs : List Value) : Kept w (w.setCells g o vs) (fun i => i = g) :=
  ⟨(os_setCells g vs o w).1, (os_setCells g vs o w).2.1, (os_setCells g vs o w).2.2, Nat.le_of_eq (size_setCells g vs o w).symm, fun i _ hn => heap_setCells_other' g i hn vs o w⟩

set_option maxRecDepth 100000 in
set_option maxHeartbeats 4000000 in
theorem delete_any (g n c k j : Nat) (xs : List Int) (w : World) (h : Own w (.slice (some ⟨g, 0, none⟩) n c) xs) (hn : n = xs.length) (hk : k < n) (hj : j = k + 1) :
    Calls Try.prog 120 #[.slice (some ⟨g, 0, none⟩) n c, .int .i64 k, .int .i64 j] w fun e w' => e = .returned (.slice (some ⟨g, 0, none⟩) (n - 1) c) ∧ Own w' (.slice (some ⟨g, 0, none⟩) (n - 1) c) (xs.eraseIdx k) ∧ Kept w w' (fun i => i = g) := by
  obtain ⟨i0, hi0, hz0, hz1, hz2⟩ := info_parts infoInt
  rcases h.shape with ⟨hv, _⟩ | ⟨g', c', cur, hv, hg, hs, hnc, hm, hc⟩
  · cases hv
  injection hv with e1 e2 e3
  injection e1 with e1
  injection e1 with e1
  subst e1 e3
  subst hs
  have hnews : ∀ (t : Nat) (u : Value), (iv (xs.drop j))[t]? = some u → w.drew.cell? ⟨g, j + t, none⟩ = some u := fun t u hu => by
    show w.cell? _ = _
    rw [cell_of_row w g _ cur 3 (0, 0) hg]
    unfold iv at hu
    rw [List.getElem?_map, List.getElem?_drop] at hu
    cases hx : xs[j + t]? with
    | none => rw [hx] at hu; cases hu
    | some x =>
      rw [hx] at hu
      simp at hu
      subst hu
      exact hc _ x hx
  have hlen : (iv (xs.drop j)).length = n - j := by rw [iv_length, List.length_drop, hn]
  obtain ⟨A, hA, hsrc⟩ : ∃ A : Addr, (if cur.size = j then some (⟨g, 0, none⟩ : Addr) else some ⟨g, j, none⟩) = some A ∧ Hid (∀ t u, (iv (xs.drop j))[t]? = some u → w.drew.cell? (A.add t) = some u) := by
    by_cases h : cur.size = j
    · refine ⟨⟨g, 0, none⟩, by simp [h], fun t u hu => ?_⟩
      have ht := (List.getElem?_eq_some_iff.1 hu).1
      rw [hlen] at ht
      omega
    · refine ⟨⟨g, j, none⟩, by simp [h], fun t u hu => ?_⟩
      rw [Addr.add_lit]
      exact hnews t u hu
  have hspare : Hid (∀ t, t < (iv (xs.drop j)).length → (w.drew.cell? ⟨g, 0 + k * 1 + t, none⟩).isSome = true ∧ w.drew.frozen? ⟨g, 0 + k * 1 + t, none⟩ = false) := by
    intro t ht
    rw [hlen] at ht
    refine ⟨?_, ?_⟩
    · show (w.cell? _).isSome = true
      rw [cell_of_row w g _ cur 3 (0, 0) hg, Array.getElem?_eq_getElem (by omega)]
      rfl
    · show w.frozen? _ = false
      simp [World.frozen?, hg]
  obtain ⟨W1, hW1⟩ : ∃ W1, W1 = w.drew.setCells g (0 + k * 1) (iv (xs.drop j)) := ⟨_, rfl⟩
  obtain ⟨cur1, hg1, hs1, hc1⟩ := heap_setCells (iv (xs.drop j)) (0 + k * 1) w.drew cur hg
  rw [← hW1] at hg1
  have hcl : ∀ ty c', (Builtin.clear_ #[130] ty #[.slice (some ⟨g, k + (n - j), none⟩) (n - (k + (n - j))) c']).run Try.prog W1 = .ok (.tuple #[]) (W1.setCells g (k + (n - j)) (List.replicate (n - (k + (n - j))) (.int .i64 0))) :=
    fun ty c' => Lib.run_clear_slice W1 130 3 ty (.int .i64 0) Try.underlying130 Try.zeroValue3 rfl rfl g (k + (n - j)) _ _ (by omega) (fun t ht => by rw [cell_of_row W1 g _ cur1 3 (0, 0) hg1, Array.getElem?_eq_getElem (by omega)]; rfl) (fun t ht => by simp [World.frozen?, hg1])
  have HC1 := Lib.hid hc1
  have HG := Lib.hid hg
  have HS1 := Lib.hid hs1
  have HG1 := Lib.hid hg1
  have HN := Lib.hid hn
  have HW := Lib.hid hW1
  have HC := Lib.hid hc
  have HJ := Lib.hid hj
  have HLEN : Hid ((iv (xs.drop j)).length = (n - j) * 1) := by unfold Hid; rw [hlen, Nat.mul_one]
  have HM := Lib.hid hm
  have hkc : k ≤ cur.size := by omega
  have hkc1 : j ≤ cur.size := by omega
  have hnc1 : n ≤ cur.size := by omega
  have hcm : cur.size ≤ 9223372036854775807 := by unfold maxLen at hm; omega
  have hkj : k ≤ j := by omega
  have hjn : j ≤ n := by omega
  have hne : ¬ (k : Int) = (j : Int) := by omega
  have hneb : ((k : Int) == (j : Int)) = false := by simp; omega
  obtain ⟨C, hC⟩ : ∃ C, cur.size = C := ⟨_, rfl⟩
  rw [hC] at hA hkc hkc1 hnc1 hcm ⊢
  have HCC := Lib.hid hC
  clear hj hc1 hg hs1 hg1 hn hW1 hc h hnc hm hlen hnews hC e2
  have mixed : Try.prog.follows Departure.mixedOrders = true := by kernel_rfl
  go_enter Try.func120, Try.ntmps120
  go_wp2_with fail
  go_region_law_o (refine step_append_room rfl (.tmp 22) (.tmp 25) 130 rfl 3 i0 1 Try.underlying130 hi0 hz1 g 0 k C (by simp [Act.eval, Act.put]) A (n - j) (C - j) (iv (xs.drop j)) (by simp [Act.eval, Act.put]) HLEN.out hsrc.out (iv_one _) (by omega) hspare.out ?_; rw [← HW.out])
  go_wp2
  go_ret
  obtain ⟨cur2, hg2, hs2, hc2⟩ := heap_setCells (List.replicate (n - (k + (n - j))) (.int .i64 0)) (k + (n - j)) W1 cur1 HG1.out
  have hn := HN.out
  have hj := HJ.out
  have hll : (xs.eraseIdx k).length = n - 1 := by rw [List.length_eraseIdx]; rw [if_pos (by omega)]; omega
  have hcc := HCC.out
  have hs1 := HS1.out
  have hm := HM.out
  refine ⟨by simp; omega, ?_, ?_⟩
  · have := Own.make (xs := xs.eraseIdx k) (c := C) hg2 (by omega) (by omega) (by omega) (fun i x hx => ?_)
    · rw [hll] at this
      exact this
    · have hil := (List.getElem?_eq_some_iff.1 hx).1
      rw [hll] at hil
      rw [hc2 i (by omega), if_neg (by simp; omega), HC1.out i (by omega)]
      have hlen := HLEN.out
      rw [List.getElem?_eraseIdx] at hx
      by_cases hik : i < k
      · rw [if_pos hik] at hx
        rw [if_neg (by omega)]
        exact HC.out i x hx
      · rw [if_neg hik] at hx
        rw [if_pos (by omega)]
        unfold iv
        rw [List.getElem?_map, List.getElem?_drop, show j + (i - (0 + k * 1)) = i + 1 by omega, hx]
        rfl
  · have h1 : Kept w W1 (fun i => i = g) := by
      have := Kept.setCells w.drew g (0 + k * 1) (iv (xs.drop j))
      rw [← HW.out] at this
      exact ⟨this.os, this.tape, this.output, this.size, this.block⟩
    exact h1.trans (Kept.setCells W1 g _ _) (fun _ _ h => h)

end Go.Proofs.Ytgnjenmicojgnaa
