/-
  Insert at the head of a slice of ints that is owned; what Front does to a list.
-/
import Derived.Test.YtgnjenmicojgnaaJ7
import Derived.Test.YtgnjenmicojgnaaJ5
namespace Go.Proofs.Ytgnjenmicojgnaa
set_option linter.unusedVariables false
set_option linter.unusedSimpArgs false
open Go.RowKit

def InsPost (w : World) (v : Value) (xs : List Int) (e : Ending) (w' : World) : Prop :=
  ∃ a c, e = .returned (.slice a xs.length c) ∧ Own w' (.slice a xs.length c) xs ∧ Kept w w' (fun i => v.ownBlock = some i) ∧ (∀ k, (Value.slice a xs.length c).ownBlock = some k → v.ownBlock = some k ∨ w.heap.size ≤ k)

set_option maxRecDepth 100000 in
set_option maxHeartbeats 1000000 in
theorem insert_none (a : Option Addr) (c vb : Nat) (id : Int) (w : World) (h : Own w (.slice a 0 c) []) (hv : w.heap[vb]? = some (.cells #[.int .i64 id] 3 (0, 0))) :
    Calls Try.prog 130 #[.slice a 0 c, .int .i64 0, .slice (some ⟨vb, 0, none⟩) 1 1] w (InsPost w (.slice a 0 c) [id]) := by
  obtain ⟨v', w2, hrun, ho, hg, hf⟩ := own_append (t := 130) (tx := 42) (ty := 130) Try.underlying130 Try.underlying42 h (x := .slice (some ⟨vb, 0, none⟩) 1 1) (ys := [id]) ⟨_, _, rfl, fun _ => ⟨_, rfl, fun j u hu => by
    match j, hu with
    | 0, hu =>
      simp [iv] at hu
      subst hu
      have : (⟨vb, 0, none⟩ : Addr).add 0 = ⟨vb, 0, none⟩ := by simp [Addr.add]
      rw [this, cell_of_row w vb 0 _ 3 (0, 0) hv]
      rfl
    | j + 1, hu => simp [iv] at hu⟩⟩ (by simp)
  rw [List.nil_append] at ho
  obtain ⟨a', c', rfl⟩ := ho.sl
  have HP : Hid (InsPost w (.slice a 0 c) [id] (.returned (.slice a' 1 c')) w2) := ⟨a', c', rfl, ho, Kept.of_grown hg (fun i hi => hi), hf⟩
  clear ho hg hf hv
  cases a with
  | none =>
    clear h
    go_enter Try.func130, Try.ntmps130
    go_wp2_with (first | (at_builtin; refine Lib.wpList_append_run _ rfl _ _ _ _ rfl _ _ rfl rfl _ _ hrun ?_))
    go_ret
    exact HP.out
  | some ad =>
    obtain ⟨ab, ao, asp⟩ := ad
    rcases h.shape with ⟨h0, _⟩ | ⟨g, c0, cur, h0, _⟩
    · cases h0
    injection h0 with e1 e2 e3
    injection e1 with e1
    injection e1 with e1 e4 e5
    subst e1 e4 e5
    clear h e2
    go_enter Try.func130, Try.ntmps130
    go_wp2_with (first | (at_builtin; refine Lib.wpList_append_run _ rfl _ _ _ _ rfl _ _ rfl rfl _ _ hrun ?_))
    all_goals (go_ret; exact HP.out)

set_option maxRecDepth 100000 in
set_option maxHeartbeats 1000000 in
theorem insert_any (v : Value) (xs : List Int) (vb : Nat) (id : Int) (w : World) (h : Own w v xs) (hv : w.heap[vb]? = some (.cells #[.int .i64 id] 3 (0, 0))) (hne : v.ownBlock ≠ some vb) (hl : xs.length ≤ 1000) :
    Calls Try.prog 130 #[v, .int .i64 0, .slice (some ⟨vb, 0, none⟩) 1 1] w (InsPost w v (id :: xs)) := by
  obtain ⟨a, c, rfl⟩ := h.sl
  by_cases hx : xs = []
  · subst hx
    exact insert_none a c vb id w h hv
  rcases h.shape with ⟨_, h0⟩ | ⟨g, c0, cur, h0, hg, hs, hn, hm, hc⟩
  · exact absurd h0 hx
  injection h0 with e1 e2 e3
  subst e1 e3
  have hx0 : 0 < xs.length := Nat.pos_of_ne_zero (fun e => hx (List.eq_nil_of_length_eq_zero e))
  have hcs : ∀ (j : Nat) (u : Value), (iv xs)[j]? = some u → w.cell? ⟨g, 0 + j, none⟩ = some u := fun j u hu => by
    unfold iv at hu
    rw [List.getElem?_map] at hu
    cases hx : xs[j]? with
    | none => rw [hx] at hu; cases hu
    | some x =>
      rw [hx] at hu
      simp at hu
      subst hu
      rw [Nat.zero_add, cell_of_row w g j cur 3 (0, 0) hg]
      exact hc j x hx
  have hvs : ∀ (j : Nat) (u : Value), (iv [id])[j]? = some u → w.cell? ⟨vb, 0 + j, none⟩ = some u := fun j u hu => by
    match j, hu with
    | 0, hu =>
      simp [iv] at hu
      subst hu
      rw [cell_of_row w vb _ _ 3 (0, 0) hv]
      rfl
    | j + 1, hu => simp [iv] at hu
  have hvg : vb ≠ g := fun e => hne (by rw [e]; rfl)
  have hgl : g < w.heap.size := (Array.getElem?_eq_some_iff.1 hg).1
  by_cases hroom : xs.length + 1 ≤ c
  · refine (insert_shift g 0 xs.length c 0 vb 0 1 1 (iv xs) (iv [id]) w hx0 (by omega) hroom (by unfold maxLen at hm; omega) hvg (iv_length xs) rfl hcs (fun j hj => by rw [cell_of_row w g _ cur 3 (0, 0) hg, Array.getElem?_eq_getElem (by omega)]; rfl) (fun j hj => by simp [World.frozen?, hg]) hvs (iv_one _) (iv_one _) 3 3 1 c (by simp [World.shape?, hv]) (by simp [World.shape?, hg, hs]) (by omega) (by simp [World.frozen?, hv]) (by simp [World.frozen?, hv])).mono ?_
    rintro e w' ⟨rfl, hw'⟩
    obtain ⟨cur1, hg1, hs1, hc1⟩ := heap_setCells (iv xs) 1 w.drew cur hg
    obtain ⟨cur2, hg2, hs2, hc2⟩ := heap_setCells (iv [id]) 0 _ cur1 hg1
    have hww : w' = (w.drew.setCells g 1 (iv xs)).setCells g 0 (iv [id]) := hw'
    rw [← hww] at hg2
    refine ⟨some ⟨g, 0, none⟩, c, rfl, Own.make hg2 (by omega) (by simpa using hroom) hm (fun i x hi => ?_), ?_, fun k hk => .inl hk⟩
    · have hil := (List.getElem?_eq_some_iff.1 hi).1
      rw [List.length_cons] at hil
      rw [hc2 i (by omega)]
      by_cases h0 : i = 0
      · subst h0
        simp at hi
        subst hi
        rw [if_pos (by simp [iv])]
        rfl
      · rw [if_neg (by simp [iv]; omega), hc1 i (by omega), if_pos (by rw [iv_length]; omega)]
        unfold iv
        rw [List.getElem?_map]
        obtain ⟨j, rfl⟩ : ∃ j, i = j + 1 := ⟨i - 1, by omega⟩
        rw [show j + 1 - 1 = j by omega]
        simp at hi
        rw [hi]
        rfl
    · have k1 : Kept w (w.drew.setCells g 1 (iv xs)) (fun i => i = g) := by
        have := Kept.setCells w.drew g 1 (iv xs)
        exact ⟨this.os, this.tape, this.output, this.size, this.block⟩
      rw [hww]
      exact (k1.trans (Kept.setCells _ g _ _) (fun _ _ h => h)).mono (fun i _ e => by rw [e]; rfl)
  · refine (insert_grow g 0 xs.length c 0 vb 0 1 1 (iv xs) (iv [id]) w hx0 (by omega) hn (by omega) (by omega) (iv_length xs) rfl hcs hvs (iv_one _) (iv_one _)).mono ?_
    rintro e w' ⟨rfl, hw'⟩
    obtain ⟨G, hG⟩ : ∃ G, grownCap w (xs.length + 1) c 3 = G := ⟨_, rfl⟩
    have hge := grownCap_ge w (xs.length + 1) c 3
    have hle := grownCap_le_maxLen w (xs.length + 1) c 3 (by unfold maxLen; omega)
    rw [hG] at hw' hge hle ⊢
    obtain ⟨ROW, hROW⟩ : ∃ ROW : Array Value, ROW = ((iv xs).take 0).toArray ++ Builtin.zeroCells (Value.int .i64 0).cells (xs.length + 1 - 0) ++ Builtin.zeroCells (Value.int .i64 0).cells (G - (xs.length + 1)) := ⟨_, rfl⟩
    rw [← hROW] at hw'
    have hRs : ROW.size = G := by
      rw [hROW]
      simp [Builtin.zeroCells, Value.cells]
      omega
    have hg0 : (w.alloc (.cells ROW 3)).drew.heap[w.heap.size]? = some (.cells ROW 3 (0, 0)) := heap_alloc_new w _
    obtain ⟨cur1, hg1, hs1, hc1⟩ := heap_setCells (iv [id]) 0 _ ROW hg0
    have hg1' : ((w.alloc (.cells ROW 3)).drew.setCells w.heap.size 0 (iv [id])).drew.heap[w.heap.size]? = some (.cells cur1 3 (0, 0)) := hg1
    obtain ⟨cur2, hg2, hs2, hc2⟩ := heap_setCells (iv xs) 1 _ cur1 hg1'
    have hww : w' = (((w.alloc (.cells ROW 3)).drew.setCells w.heap.size 0 (iv [id])).drew).setCells w.heap.size 1 (iv xs) := hw'
    rw [← hww] at hg2
    refine ⟨some ⟨w.heap.size, 0, none⟩, G, rfl, Own.make hg2 (by omega) (by simpa using hge) hle (fun i x hi => ?_), ?_, fun k hk => .inr ?_⟩
    · have hil := (List.getElem?_eq_some_iff.1 hi).1
      rw [List.length_cons] at hil
      rw [hc2 i (by omega)]
      by_cases h0 : i = 0
      · subst h0
        simp at hi
        subst hi
        rw [if_neg (by omega), hc1 0 (by omega), if_pos (by simp [iv])]
        rfl
      · rw [if_pos (by rw [iv_length]; omega)]
        unfold iv
        rw [List.getElem?_map]
        obtain ⟨j, rfl⟩ : ∃ j, i = j + 1 := ⟨i - 1, by omega⟩
        rw [show j + 1 - 1 = j by omega]
        simp at hi
        rw [hi]
        rfl
    · have k0 : Kept w (w.alloc (.cells ROW 3)) (fun i => i = w.heap.size) := Kept.of_below ((Below.refl _ _).alloc (Nat.le_refl _) _)
      have k1 := Kept.setCells (w.alloc (.cells ROW 3)).drew w.heap.size 0 (iv [id])
      have k2 := Kept.setCells ((w.alloc (.cells ROW 3)).drew.setCells w.heap.size 0 (iv [id])).drew w.heap.size 1 (iv xs)
      rw [hww]
      have k01 : Kept w ((w.alloc (.cells ROW 3)).drew.setCells w.heap.size 0 (iv [id])).drew (fun i => i = w.heap.size) := (k0.drew.trans k1 (fun _ _ h => h)).drew
      exact (k01.trans k2 (fun _ _ h => h)).mono (fun i hi e => by omega)
    · simp only [Value.ownBlock] at hk
      injection hk with hk
      omega

end Go.Proofs.Ytgnjenmicojgnaa
