/-
  What Front does to a list; timers in memory: find, At, and Drop of one that isn't there.
-/
import Derived.Test.YtgnjenmicojgnaaJa
import Derived.Test.YtgnjenmicojgnaaE0
namespace Go.Proofs.Ytgnjenmicojgnaa
set_option linter.unusedVariables false
set_option linter.unusedSimpArgs false
open Go.RowKit

set_option maxRecDepth 100000 in
set_option maxHeartbeats 1000000 in
theorem front_any (l p : Nat) (V : Nat → Value) (R : Nat → List Int) (id : Int) (w : World) (h : Rdy w l V R) (hid : 0 ≤ id) (hp : p < 64) (hno : prio R id = none) (hl : (R p).length ≤ 1000) :
    Calls Try.prog 127 #[.pointer (some ⟨l, 0, none⟩), .int .i64 id, .int .i64 p] w (LPost w l V (upd R p (id :: R p)) (.int .i64 0)) := by
  have HR := Lib.hid h
  have HNO := Lib.hid hno
  clear h hno
  go_enter Try.func127, Try.ntmps127
  go_wp2_with fail
  refine (check_any l p V R id w HR.out hid hp HNO.out).mono ?_
  rintro e w1 ⟨rfl, rfl⟩
  obtain ⟨s, hh, hw⟩ := HR.out.hdr
  have hrow := hh.row hp
  have hll := hh.lt
  have HH := Lib.hid hh
  have HW := Lib.hid hw
  have hown := (HR.out.rows p hp)
  obtain ⟨a, c, hV⟩ := hown.sl
  have hins := insert_any (V p) (R p) w1.heap.size id (w1.alloc (.cells #[.int .i64 id] 3)) (hown.alloc _) (heap_alloc_new w1 _) (fun e => by have := hown.lt _ e; omega) hl
  rw [hV] at hrow hins
  have HV := Lib.hid hV
  have HINS := Lib.hid hins
  clear hh hw hown hV hins
  go_wp2_with fail
  refine HINS.out.mono ?_
  rintro e w2 ⟨a', c', rfl, ho, hk, hf⟩
  have HK : Hid (Kept w1 w2 (fun i => (V p).ownBlock = some i)) := by
    rw [HV.out]
    exact (Kept.of_below ((Below.refl _ _).alloc (Nat.le_refl _) _)).trans hk (fun _ _ hi => hi)
  have HH2 : Hid (Hdr w2 l V s) := HH.out.keep (HK.out.block l hll (HR.out.lne p hp))
  have HO := Lib.hid ho
  have HF : Hid (∀ k, (Value.slice a' (id :: R p).length c').ownBlock = some k → (V p).ownBlock = some k ∨ w1.heap.size ≤ k) := by
    intro k hk'
    rw [HV.out]
    rcases hf k hk' with h1 | h1
    · exact .inl h1
    · exact .inr (by simp at h1; omega)
  clear ho hk hf
  obtain ⟨n', hn'⟩ : ∃ n', (id :: R p).length = n' := ⟨_, rfl⟩
  rw [hn'] at HO HF ⊢
  have HN := Lib.hid hn'
  clear hn'
  go_wp2_with fail
  refine (note_any l p V s _ a' n' c' w2 HH2.out hp HW.out).mono ?_
  rintro e w3 ⟨rfl, s', hh3, hw3, hk3⟩
  obtain ⟨h1, h2, h3⟩ := HR.out.step hp HK.out HO.out HN.out.symm HF.out hh3 hw3 hk3
  have HP : Hid (LPost w1 l V (upd R p (id :: R p)) (.int .i64 0) (.returned (.int .i64 0)) w3) := ⟨rfl, _, h1, h2, h3⟩
  clear hh3 hw3 hk3 h1 h2 h3
  go_wp2
  go_ret
  exact HP.out

/-! ## Timers -/
def tmC (q : Int × Int) : List Value := [.int .i64 q.1, .int .i64 q.2]
theorem tmC_length (q : Int × Int) : (tmC q).length = 2 := rfl

/-- The timers at m hold Q: v is their slice. -/
structure Tms (w : World) (m : Nat) (v : Value) (Q : List (Int × Int)) : Prop where
  hdr : w.heap[m]? = some (.cells #[v] 136 (0, 0))
  row : w.ownsRow 0 143 2 v Q.length (flatG tmC Q)
  ne : v.ownBlock ≠ some m

def inT (m : Nat) (v : Value) (i : Nat) : Prop := i = m ∨ v.ownBlock = some i

theorem Tms.lt {w : World} {m : Nat} {v : Value} {Q : List (Int × Int)} (h : Tms w m v Q) {i : Nat} (hi : inT m v i) : i < w.heap.size := by
  rcases hi with rfl | hi
  · exact (Array.getElem?_eq_some_iff.1 h.hdr).1
  · exact (World.ownsRow.lt h.row i hi).2
theorem Tms.keep {w w' : World} {m : Nat} {v : Value} {Q : List (Int × Int)} (h : Tms w m v Q) (hb : ∀ i, inT m v i → w'.heap[i]? = w.heap[i]?) : Tms w' m v Q := by
  refine ⟨(hb m (.inl rfl)).trans h.hdr, ⟨h.row.1, ?_⟩, h.ne⟩
  rcases h.row.2 with hn | ⟨g, cap, cur, hv, hb0, hg, rest⟩
  · exact .inl hn
  · exact .inr ⟨g, cap, cur, hv, hb0, (hb g (.inr (by rw [hv]; rfl))).trans hg, rest⟩
theorem Tms.below {w w' : World} {m : Nat} {v : Value} {Q : List (Int × Int)} (h : Tms w m v Q) (hb : Below w.heap.size w w') : Tms w' m v Q := h.keep (fun i hi => hb.block i (h.lt hi))
theorem Tms.kept {w w' : World} {m : Nat} {v : Value} {Q : List (Int × Int)} {S : Nat → Prop} (h : Tms w m v Q) (hk : Kept w w' S) (hs : ∀ i, inT m v i → ¬ S i) : Tms w' m v Q :=
  h.keep (fun i hi => hk.block i (h.lt hi) (hs i hi))
theorem Tms.cell {w : World} {m : Nat} {v : Value} {Q : List (Int × Int)} (h : Tms w m v Q) : w.cell? ⟨m, 0, none⟩ = some v := by
  rw [cell_of_row w m 0 _ 136 (0, 0) h.hdr]
  rfl
/-- The cells of the k-th one. -/
theorem Tms.at {w : World} {m : Nat} {v : Value} {Q : List (Int × Int)} (h : Tms w m v Q) {k : Nat} {q : Int × Int} (hk : Q[k]? = some q) : ∃ g c, v = .slice (some ⟨g, 0, none⟩) Q.length c ∧ g < w.heap.size ∧ w.cell? ⟨g, k * 2, none⟩ = some (.int .i64 q.1) ∧ w.cell? ⟨g, k * 2 + 1, none⟩ = some (.int .i64 q.2) := by
  have hkl : k < Q.length := (List.getElem?_eq_some_iff.1 hk).1
  rcases h.row.2 with ⟨_, h0⟩ | ⟨g, cap, cur, hv, hb0, hg, hn, hm, hs, ht⟩
  · omega
  have hget : ∀ j, j < 2 → w.cell? ⟨g, k * 2 + j, none⟩ = (tmC q)[j]? := fun j hj => by
    rw [cell_of_row w g _ cur 143 (0, 0) hg]
    rw [← flatG_get tmC_length Q k j q hk hj, ← ht, List.getElem?_take, if_pos (by omega), Array.getElem?_toList]
  exact ⟨g, cap, hv, (Array.getElem?_eq_some_iff.1 hg).1, hget 0 (by omega), hget 1 (by omega)⟩
theorem Tms.sl {w : World} {m : Nat} {v : Value} {Q : List (Int × Int)} (h : Tms w m v Q) : ∃ a c, v = .slice a Q.length c := by
  rcases h.row.2 with ⟨h1, h0⟩ | ⟨g, cap, cur, hv, _⟩
  · exact ⟨none, 0, by rw [h1, h0]⟩
  · exact ⟨_, _, hv⟩

/-- Where an id's timer is. -/
def idxQ (Q : List (Int × Int)) (id : Int) : Int := match Q.findIdx? (fun q => q.1 == id) with | some k => (k : Int) | none => -1

set_option maxRecDepth 100000 in
set_option maxHeartbeats 1000000 in
theorem pred_any (q : Int × Int) (B : Nat) (id : Int) (w : World) (hB : B < w.heap.size) (hb : w.cell? ⟨B, 0, none⟩ = some (.int .i64 id)) :
    Calls Try.prog 132 #[.agg #[.int .i64 q.1, .int .i64 q.2], .pointer (some ⟨B, 0, none⟩)] w fun e w' => e = .returned (.bool (q.1 == id)) ∧ Below w.heap.size w w' := by
  have hne : B ≠ w.heap.size := by omega
  have HE : Hid (∀ o, Below w.heap.size w (w.alloc o)) := fun o => (Below.refl _ _).alloc (Nat.le_refl _) o
  go_enter Try.func132, Try.ntmps132
  go_wp2
  all_goals (go_ret; exact ⟨by simp_all, HE.out _⟩)

set_option maxRecDepth 100000 in
set_option maxHeartbeats 1000000 in
theorem idxf_any (m : Nat) (v : Value) (Q : List (Int × Int)) (B : Nat) (id : Int) (w : World) (h : Tms w m v Q) (hl : Q.length ≤ 1000) (hB : B < w.heap.size) (hb : w.cell? ⟨B, 0, none⟩ = some (.int .i64 id)) :
    Calls Try.prog 131 #[v, .func (.func 132) #[] #[.pointer (some ⟨B, 0, none⟩)]] w fun e w' => e = .returned (.int .i64 (idxQ Q id)) ∧ Below w.heap.size w w' := by
  obtain ⟨a, c, rfl⟩ := h.sl
  have H := Lib.hid h
  have HB0 := Lib.hid hb
  obtain ⟨n, hn⟩ : ∃ n, Q.length = n := ⟨_, rfl⟩
  rw [hn] at hl ⊢
  rw [hn] at H
  have HN := Lib.hid hn
  clear h hb hn
  go_enter Try.func131, Try.ntmps131
  go_wp2_with fail
  go_loopw [8] (fun s8 wr => ∃ j : Nat, j ≤ n ∧ s8 = .int .i64 j ∧ (∀ (i : Nat) (q : Int × Int), i < j → Q[i]? = some q → q.1 ≠ id) ∧ Below w.heap.size w wr) (fun i _ => n - (intOf i).toNat)
  case atStart => exact ⟨0, by omega, rfl, fun _ _ hi => absurd hi (Nat.not_lt_zero _), Below.refl _ _⟩
  case round =>
    obtain ⟨j, hj, rfl, hno, hbr⟩ := hrel
    have HNO := Lib.hid hno
    have HB := Lib.hid hbr
    have hbs := hbr.size
    clear hno hbr
    by_cases hjn : j < n
    · obtain ⟨q, hq⟩ : ∃ q, Q[j]? = some q := ⟨_, List.getElem?_eq_getElem (by have := HN.out; omega)⟩
      obtain ⟨g, c1, hv, hgl, h0, h1⟩ := H.out.at hq
      injection hv with e1 e2 e3
      subst e1 e3
      have c0' := (HB.out.cell (p := ⟨g, j * 2, none⟩) hgl).trans h0
      have c1' := (HB.out.cell (p := ⟨g, j * 2 + 1, none⟩) hgl).trans h1
      have hgr : g < wr.heap.size := by omega
      have HQ := Lib.hid hq
      clear hq h0 h1 e2
      go_wp2_with fail
      refine (pred_any q B id wr (by omega) ((HB.out.cell (p := ⟨B, 0, none⟩) hB).trans HB0.out)).mono ?_
      rintro e w1 ⟨rfl, hb1⟩
      have HB1 : Hid (Below w.heap.size w w1) := HB.out.trans (hb1.mono HB.out.size)
      clear hb1 c0' c1'
      by_cases hqe : q.1 = id
      · have hqb : (q.1 == id) = true := by simpa using hqe
        have HI : Hid (idxQ Q id = j) := by
          unfold Hid idxQ
          have : Q.findIdx? (fun q => q.1 == id) = some j := by
            rw [List.findIdx?_eq_some_iff_getElem]
            obtain ⟨hjl, hje⟩ := List.getElem?_eq_some_iff.1 HQ.out
            refine ⟨hjl, by rw [hje]; exact hqb, fun i hi => ?_⟩
            have := HNO.out i _ hi (List.getElem?_eq_getElem (by omega))
            simpa using this
          rw [this]
        rw [hqb]
        go_wp2
        go_ret
        exact ⟨by rw [HI.out]; rfl, HB1.out⟩
      · have hqb : (q.1 == id) = false := by simpa using hqe
        rw [hqb]
        go_wp2_with fail
        go_roundw
        case rel =>
          refine ⟨j + 1, by omega, by go_num, fun i y hi hy => ?_, HB1.out⟩
          by_cases e : i = j
          · subst e
            have := HQ.out.symm.trans hy
            injection this with this
            rw [← this]
            exact hqe
          · exact HNO.out i y (by omega) hy
        case measure => simp [intOf]; omega
    · have HI : Hid (idxQ Q id = -1) := by
        unfold Hid idxQ
        have : Q.findIdx? (fun q => q.1 == id) = none := by
          rw [List.findIdx?_eq_none_iff]
          intro q hq
          obtain ⟨i, hi⟩ := List.getElem?_of_mem hq
          have := HNO.out i q (by have := (List.getElem?_eq_some_iff.1 hi).1; have := HN.out; omega) hi
          simpa using this
        rw [this]
      go_wp2_with fail
      go_ret
      exact ⟨by rw [HI.out]; rfl, HB.out⟩

set_option maxRecDepth 100000 in
set_option maxHeartbeats 1000000 in
theorem find_any (m : Nat) (v : Value) (Q : List (Int × Int)) (id : Int) (w : World) (h : Tms w m v Q) (hl : Q.length ≤ 1000) :
    Calls Try.prog 128 #[.pointer (some ⟨m, 0, none⟩), .int .i64 id] w fun e w' => e = .returned (.int .i64 (idxQ Q id)) ∧ Below w.heap.size w w' := by
  have hc := h.cell
  have hm := h.lt (.inl rfl)
  have H := Lib.hid (h.below ((Below.refl _ _).alloc (Nat.le_refl _) (.cells #[.int .i64 id] 3)))
  clear h
  go_enter Try.func128, Try.ntmps128
  go_wp2_with fail
  refine (idxf_any m v Q w.heap.size id _ H.out hl (by simp) (by simp)).mono ?_
  rintro e w1 ⟨rfl, hb1⟩
  have HB1 : Hid (Below w.heap.size w w1) := ((Below.refl _ _).alloc (Nat.le_refl _) _).trans (hb1.mono (by simp))
  clear hb1
  go_wp2
  go_ret
  exact ⟨rfl, HB1.out⟩

end Go.Proofs.Ytgnjenmicojgnaa
