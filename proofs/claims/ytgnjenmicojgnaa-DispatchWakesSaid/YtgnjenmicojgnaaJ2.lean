/-
  A list of package ready in memory: its rows; what Priority answers.
-/
import Derived.Test.YtgnjenmicojgnaaJ1
import Derived.Laws.Cells
import Derived.WalkMore
import Derived.Deep.MidRow
namespace Go.Proofs.Ytgnjenmicojgnaa
set_option linter.unusedVariables false
set_option linter.unusedSimpArgs false
open Go.RowKit

def inL (l : Nat) (V : Nat → Value) (i : Nat) : Prop := i = l ∨ ∃ p, p < 64 ∧ (V p).ownBlock = some i

/-- The list at l has the rows R; V are its slices. -/
structure Rdy (w : World) (l : Nat) (V : Nat → Value) (R : Nat → List Int) : Prop where
  hdr : ∃ s, Hdr w l V s ∧ WordOk s (fun p => decide (0 < (R p).length))
  rows : ∀ p, p < 64 → Own w (V p) (R p)
  apart : ∀ p q, p < 64 → q < 64 → p ≠ q → ∀ k, (V p).ownBlock = some k → (V q).ownBlock ≠ some k
  lne : ∀ p, p < 64 → (V p).ownBlock ≠ some l

theorem Rdy.keep {w w' : World} {l : Nat} {V : Nat → Value} {R : Nat → List Int} (h : Rdy w l V R) (hb : ∀ i, inL l V i → w'.heap[i]? = w.heap[i]?) : Rdy w' l V R := by
  obtain ⟨s, h1, h2⟩ := h.hdr
  exact ⟨⟨s, h1.keep (hb l (.inl rfl)), h2⟩, fun p hp => (h.rows p hp).keep (fun k hk => hb k (.inr ⟨p, hp, hk⟩)), h.apart, h.lne⟩

theorem Rdy.lt {w : World} {l : Nat} {V : Nat → Value} {R : Nat → List Int} (h : Rdy w l V R) {i : Nat} (hi : inL l V i) : i < w.heap.size := by
  rcases hi with rfl | ⟨p, hp, hk⟩
  · obtain ⟨s, h1, _⟩ := h.hdr
    exact h1.lt
  · exact (h.rows p hp).lt i hk

theorem Rdy.kept {w w' : World} {l : Nat} {V : Nat → Value} {R : Nat → List Int} {S : Nat → Prop} (h : Rdy w l V R) (hk : Kept w w' S) (hs : ∀ i, inL l V i → ¬ S i) : Rdy w' l V R :=
  h.keep (fun i hi => hk.block i (h.lt hi) (hs i hi))

theorem Rdy.below {w w' : World} {l : Nat} {V : Nat → Value} {R : Nat → List Int} (h : Rdy w l V R) (hb : Below w.heap.size w w') : Rdy w' l V R :=
  h.keep (fun i hi => hb.block i (h.lt hi))

/-- One row has become another one, and note was called. -/
theorem Rdy.step {w w1 w2 : World} {l p n c : Nat} {a : Option Addr} {V : Nat → Value} {R : Nat → List Int} {xs : List Int} {s' : Int} (h : Rdy w l V R) (hp : p < 64) (hk : Kept w w1 (fun i => (V p).ownBlock = some i))
    (ho : Own w1 (.slice a n c) xs) (hn : n = xs.length) (hf : ∀ k, (Value.slice a n c).ownBlock = some k → (V p).ownBlock = some k ∨ w.heap.size ≤ k)
    (hh : Hdr w2 l (upd V p (.slice a n c)) s') (hw : WordOk s' (upd (fun p => decide (0 < (R p).length)) p (decide (0 < n)))) (hk2 : Kept w1 w2 (fun i => i = l)) :
    Rdy w2 l (upd V p (.slice a n c)) (upd R p xs) ∧ Kept w w2 (inL l V) ∧ (∀ i, inL l (upd V p (.slice a n c)) i → inL l V i ∨ w.heap.size ≤ i) := by
  have hlw := h.lt (.inl rfl)
  have hrow : ∀ q, q < 64 → Own w2 (upd V p (.slice a n c) q) (upd R p xs q) := by
    intro q hq
    by_cases e : q = p
    · subst e
      rw [upd_same, upd_same]
      refine ho.keep (fun k hk' => hk2.block k (ho.lt k hk') ?_)
      rintro rfl
      rcases hf _ hk' with h1 | h1
      · exact h.lne q hq h1
      · omega
    · rw [upd_other _ _ e, upd_other _ _ e]
      refine (h.rows q hq).keep (fun k hk' => ?_)
      have hkl := (h.rows q hq).lt k hk'
      rw [hk2.block k (Nat.lt_of_lt_of_le hkl hk.size) (by rintro rfl; exact h.lne q hq hk'), hk.block k hkl (fun e' => h.apart q p hq hp e k hk' e')]
  refine ⟨⟨⟨s', hh, hw.congr (fun q hq => ?_)⟩, hrow, fun q r hq hr hqr k hk' => ?_, fun q hq => ?_⟩, ?_, ?_⟩
  · unfold upd
    by_cases e : q = p
    · rw [if_pos e, if_pos e, hn]
    · rw [if_neg e, if_neg e]
  · have hlt : ∀ q, q < 64 → ∀ k, (V q).ownBlock = some k → k < w.heap.size := fun q hq k hk => (h.rows q hq).lt k hk
    by_cases e : q = p
    · subst e
      rw [upd_same] at hk'
      rw [upd_other _ _ (Ne.symm hqr)]
      intro hk2'
      rcases hf k hk' with h1 | h1
      · exact h.apart q r hq hr hqr k h1 hk2'
      · have := hlt r hr k hk2'
        omega
    · rw [upd_other _ _ e] at hk'
      by_cases e2 : r = p
      · subst e2
        rw [upd_same]
        intro hk2'
        rcases hf k hk2' with h1 | h1
        · exact h.apart q r hq hr hqr k hk' h1
        · have := hlt q hq k hk'
          omega
      · rw [upd_other _ _ e2]
        exact h.apart q r hq hr hqr k hk'
  · by_cases e : q = p
    · subst e
      rw [upd_same]
      intro hk'
      rcases hf l hk' with h1 | h1
      · exact h.lne q hq h1
      · omega
    · rw [upd_other _ _ e]
      exact h.lne q hq
  · refine (hk.mono (fun i _ hi => ?_)).trans hk2 (fun i _ hi => .inl hi)
    exact .inr ⟨p, hp, hi⟩
  · intro i hi
    rcases hi with rfl | ⟨q, hq, hk'⟩
    · exact .inl (.inl rfl)
    · by_cases e : q = p
      · subst e
        rw [upd_same] at hk'
        rcases hf i hk' with h1 | h1
        · exact .inl (.inr ⟨q, hq, h1⟩)
        · exact .inr h1
      · rw [upd_other _ _ e] at hk'
        exact .inl (.inr ⟨q, hq, hk'⟩)

/-- The first row that has an id. -/
def prio (R : Nat → List Int) (id : Int) : Option Nat := (List.range 64).find? (fun p => decide (id ∈ R p))

theorem prio_some {R : Nat → List Int} {id : Int} {p : Nat} (h : prio R id = some p) : p < 64 ∧ id ∈ R p := by
  unfold prio at h
  have h1 := List.mem_of_find?_eq_some h
  have h2 := List.find?_some h
  exact ⟨List.mem_range.1 h1, of_decide_eq_true h2⟩
theorem prio_none {R : Nat → List Int} {id : Int} (h : prio R id = none) : ∀ p, p < 64 → id ∉ R p := by
  intro p hp hm
  unfold prio at h
  rw [List.find?_eq_none] at h
  exact h p (List.mem_range.2 hp) (decide_eq_true hm)
theorem prio_first {R : Nat → List Int} {id : Int} {p : Nat} (hp : p < 64) (hm : id ∈ R p) (h0 : ∀ q, q < p → id ∉ R q) : prio R id = some p := by
  unfold prio
  rw [List.find?_eq_some_iff_getElem]
  refine ⟨decide_eq_true hm, p, by simpa using hp, by simp, fun j hj => ?_⟩
  simpa using h0 j hj
theorem prio_not {R : Nat → List Int} {id : Int} (h0 : ∀ q, q < 64 → id ∉ R q) : prio R id = none := by
  unfold prio
  rw [List.find?_eq_none]
  intro q hq
  simpa using h0 q (List.mem_range.1 hq)

theorem index_rows {cs : Array Value} {k : Nat} {v : Value} (h : cs[k]? = some v) (hk : k < 64) (w : World) : Sem.run Try.prog (Instr.index 131 (.agg cs) (.int .i64 k)) w = .ok v w := by
  have hk' : (k : Int) < 64 := by omega
  have hn : ¬ (k : Int) < 0 := by omega
  simp [Instr.index, asIntOf, run_underlying Try.underlying131, part, hk', Try.sizeOf130, Try.isAgg130, h]
  intro h
  omega

set_option maxRecDepth 100000 in
set_option maxHeartbeats 1000000 in
theorem prio_any (l : Nat) (V : Nat → Value) (R : Nat → List Int) (id : Int) (w : World) (h : Rdy w l V R) :
    Calls Try.prog 117 #[.pointer (some ⟨l, 0, none⟩), .int .i64 id] w fun e w' => e = .returned (.tuple #[.int .i64 ((prio R id).getD 0 : Nat), .bool (prio R id).isSome]) ∧ w' = w := by
  obtain ⟨s, hh, hw⟩ := h.hdr
  have hload : w.rangeAt l 0 ((List.range 64).map V) := by
    intro j v hj
    rw [List.getElem?_map] at hj
    by_cases hj64 : j < 64
    · rw [List.getElem?_range hj64] at hj
      simp at hj
      subst hj
      rw [Nat.zero_add]
      exact hh.row hj64
    · rw [List.getElem?_eq_none_iff.2 (by simp; omega)] at hj
      cases hj
  obtain ⟨AL, hAL⟩ : ∃ AL, AL = (List.range 64).map V := ⟨_, rfl⟩
  have hsz : AL.length = 64 := by rw [hAL]; simp
  have hat : ∀ k, k < 64 → AL[k]? = some (V k) := fun k hk => by rw [hAL, List.getElem?_map, List.getElem?_range hk]; rfl
  rw [← hAL] at hload
  have HL := Lib.hid hload
  have HSZ := Lib.hid hsz
  have HAT := Lib.hid hat
  clear hAL hload hat hsz
  have HR := Lib.hid h
  have hl := hh.lt
  clear h hh hw
  go_enter Try.func117, Try.ntmps117
  go_wp2_with fail
  go_step3
  go_wp2_with fail
  go_step3
  go_wp2_with (first | (refine wpList_load_mid rfl 131 _ rfl l 0 rfl AL _ HL.out Try.underlying131 rfl (by rw [HSZ.out]; kernel_rfl) ?_))
  go_loopw [6, 7, 18] (fun s6 s7 s18 wr => ∃ k : Nat, k ≤ 64 ∧ s6 = .int .i64 0 ∧ s7 = .bool false ∧ s18 = .int .i64 k ∧ (∀ q, q < k → id ∉ R q) ∧ wr = w) (fun _ _ i _ => 64 - (intOf i).toNat)
  case atStart => exact ⟨0, by omega, rfl, rfl, rfl, fun q hq => absurd hq (Nat.not_lt_zero _), rfl⟩
  case round =>
    obtain ⟨k, hk, rfl, rfl, rfl, hno, rfl⟩ := hrel
    have HNO := Lib.hid hno
    clear hno
    by_cases hlt : k < 64
    · have hown := HR.out.rows k hlt
      obtain ⟨a, n, c, hV, hn, hc⟩ : ∃ a n c, V k = .slice a n c ∧ (n = (R k).length ∧ n ≤ 9223372036854775807) ∧ ∀ (j : Nat) (x : Int), (R k)[j]? = some x → ∃ g, a = some ⟨g, 0, none⟩ ∧ g < wr.heap.size ∧ wr.cell? ⟨g, j, none⟩ = some (.int .i64 x) := by
        rcases hown.shape with ⟨h1, h2⟩ | ⟨g, c, cur, h1, h2, h3, h4, h5, h6⟩
        · exact ⟨none, 0, 0, h1, ⟨by rw [h2]; rfl, by omega⟩, fun j x hx => by rw [h2] at hx; simp at hx⟩
        · refine ⟨_, _, _, h1, ⟨rfl, by unfold maxLen at h5; omega⟩, fun j x hx => ⟨g, rfl, (Array.getElem?_eq_some_iff.1 h2).1, ?_⟩⟩
          rw [cell_of_row wr g j cur 3 (0, 0) h2]
          exact h6 j x hx
      have hget : AL.toArray[k]? = some (.slice a n c) := by
        rw [List.getElem?_toArray, HAT.out k hlt, hV]
      have hidx := fun W => index_rows hget hlt W
      obtain ⟨hn, hnm⟩ := hn
      have HN := Lib.hid hn
      have HC := Lib.hid hc
      clear hown hn hc hV hget
      go_wp2_with fail
      go_loopw [6, 7, 24] (fun s6 s7 s24 wx => ∃ j : Nat, j ≤ n ∧ s6 = .int .i64 0 ∧ s7 = .bool false ∧ s24 = .int .i64 j ∧ (∀ (i : Nat) (x : Int), i < j → (R k)[i]? = some x → x ≠ id) ∧ wx = wr) (fun _ _ i _ => n - (intOf i).toNat)
      case atStart => exact ⟨0, by omega, rfl, rfl, rfl, fun q _ hq => absurd hq (Nat.not_lt_zero _), rfl⟩
      case round =>
        obtain ⟨j, hj, rfl, rfl, rfl, hno, rfl⟩ := hrel
        have HNI := Lib.hid hno
        clear hno
        by_cases hjn : j < n
        · obtain ⟨x, hx⟩ : ∃ x, (R k)[j]? = some x := ⟨_, List.getElem?_eq_getElem (by have := HN.out; omega)⟩
          obtain ⟨g, rfl, hgl, hcell⟩ := HC.out j x hx
          have HX := Lib.hid hx
          clear hx
          by_cases hxe : x = id
          · have hxb : (x == id) = true := by simpa using hxe
            go_wp2_with fail
            rw [Exit.noGoto_ret]
            go_ret2
            have hfound : prio R id = some k := prio_first hlt (by rw [← hxe]; exact List.mem_of_getElem? HX.out) HNO.out
            rw [hfound]
            exact ⟨rfl, rfl⟩
          · have hxb : (x == id) = false := by simpa using hxe
            go_wp2_with fail
            go_roundw
            case rel =>
              refine ⟨j + 1, by omega, rfl, rfl, by go_num, fun i y hi hy => ?_, by first | rfl | trivial⟩
              by_cases e : i = j
              · subst e
                have := HX.out.symm.trans hy
                injection this with this
                rw [← this]
                exact hxe
              · exact HNI.out i y (by omega) hy
            case measure => simp [intOf]; omega
        · go_wp2_with fail
          go_roundw
          case rel =>
            refine ⟨k + 1, by omega, rfl, rfl, by go_num, fun q hq => ?_, by first | rfl | trivial⟩
            by_cases e : q = k
            · subst e
              intro hm
              obtain ⟨i, hi⟩ := List.getElem?_of_mem hm
              exact HNI.out i id (by have := (List.getElem?_eq_some_iff.1 hi).1; have := HN.out; omega) hi rfl
            · exact HNO.out q (by omega)
          case measure => simp [intOf]; omega
    · have hnone : prio R id = none := prio_not (fun q hq => HNO.out q (by omega))
      go_wp2_with fail
      rw [Exit.noGoto_ret]
      go_ret2
      rw [hnone]
      exact ⟨rfl, rfl⟩
end Go.Proofs.Ytgnjenmicojgnaa
