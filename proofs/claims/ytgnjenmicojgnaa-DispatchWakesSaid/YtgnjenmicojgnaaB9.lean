/-
  What slices.EqualFunc and Same answer of two tables of processes. No condition.
-/
import Derived.Test.YtgnjenmicojgnaaB8
namespace Go.Proofs.Ytgnjenmicojgnaa
set_option linter.unusedVariables false
set_option linter.unusedSimpArgs false
open Go.RowKit

/-- Two lists of processes: what counts is the same, one by one. -/
def SameP (ps qs : List Pr) : Prop := ps.length = qs.length ∧ ∀ (i : Nat) (p q : Pr), ps[i]? = some p → qs[i]? = some q → sameB (seenP p) (seenP q) = true
noncomputable def sameL (ps qs : List Pr) : Bool := @decide (SameP ps qs) (Classical.propDecidable _)
theorem sameL_true {ps qs : List Pr} (h : SameP ps qs) : sameL ps qs = true := @decide_eq_true _ (Classical.propDecidable _) h
theorem sameL_false {ps qs : List Pr} (h : ¬ SameP ps qs) : sameL ps qs = false := @decide_eq_false _ (Classical.propDecidable _) h
theorem sameL_iff {ps qs : List Pr} : sameL ps qs = true ↔ SameP ps qs := ⟨fun h => @of_decide_eq_true _ (Classical.propDecidable _) h, sameL_true⟩

/-- A slice (address A) that reads as the processes ps. -/
def PrRow (w : World) (A : Option Addr) (ps : List Pr) : Prop :=
  ps.length ≠ 0 → ∃ g, A = some ⟨g, 0, none⟩ ∧ g < w.heap.size ∧ ∀ i p, ps[i]? = some p → PrAt w g (i * 13) p

set_option maxRecDepth 100000 in
set_option maxHeartbeats 2000000 in
theorem equalFunc_any (A A' : Option Addr) (c c' : Nat) (ps qs : List Pr) (w : World) (hp : PrRow w A ps) (hq : PrRow w A' qs) (hm : ps.length ≤ 1000) :
    Calls Try.prog 77 #[.slice A ps.length c, .slice A' qs.length c', .func (.func 78) #[] #[]] w fun e w' => e = .returned (.bool (sameL ps qs)) ∧ Below w.heap.size w w' := by
  have HP := Lib.hid hp
  have HQ := Lib.hid hq
  clear hp hq
  obtain ⟨n, hn⟩ : ∃ n, n = ps.length := ⟨_, rfl⟩
  obtain ⟨m, hmm⟩ : ∃ m, m = qs.length := ⟨_, rfl⟩
  rw [← hn, ← hmm]
  rw [← hn] at hm
  have HN := Lib.hid hn
  have HM := Lib.hid hmm
  clear hn hmm
  by_cases hl : n = m
  · subst hl
    go_enter Try.func77, Try.ntmps77
    go_wp2
    go_loopw [17] (fun i wr => ∃ k : Nat, k ≤ n ∧ i = .int .i64 k ∧ (∀ (j : Nat) (p q : Pr), j < k → ps[j]? = some p → qs[j]? = some q → sameB (seenP p) (seenP q) = true) ∧ Below w.heap.size w wr) (fun i _ => n - (intOf i).toNat)
    case atStart => exact ⟨0, Nat.zero_le _, rfl, fun j _ _ hj => absurd hj (Nat.not_lt_zero _), Below.refl _ _⟩
    case round =>
      obtain ⟨k, hk, rfl, hall, hb⟩ := hrel
      have HALL := Lib.hid hall
      have HB := Lib.hid hb
      have hbs := hb.size
      clear hall hb
      by_cases hlt : k < n
      · obtain ⟨g, rfl, hgl, hcp⟩ := HP.out (by have := HN.out; omega)
        obtain ⟨g', rfl, hgl', hcq⟩ := HQ.out (by have := HM.out; omega)
        obtain ⟨p, hpk⟩ : ∃ p, ps[k]? = some p := ⟨_, List.getElem?_eq_getElem (by have := HN.out; omega)⟩
        obtain ⟨q, hqk⟩ : ∃ q, qs[k]? = some q := ⟨_, List.getElem?_eq_getElem (by have := HM.out; omega)⟩
        obtain ⟨c0, c1, c2, c3, c4, c5, c6, c7, c8, c9, c10, c11, c12⟩ := (hcp k p hpk).congr (w' := wr) (fun j _ _ => HB.out.cell (p := ⟨g, j, none⟩) hgl)
        obtain ⟨d0, d1, d2, d3, d4, d5, d6, d7, d8, d9, d10, d11, d12⟩ := (hcq k q hqk).congr (w' := wr) (fun j _ _ => HB.out.cell (p := ⟨g', j, none⟩) hgl')
        have hgr : g < wr.heap.size := by omega
        have hgr' : g' < wr.heap.size := by omega
        have HPK := Lib.hid hpk
        have HQK := Lib.hid hqk
        clear hcp hcq hpk hqk
        go_wp2_with fail
        refine (same1_any p q _).mono ?_
        rintro e w1 ⟨rfl, hb1⟩
        have HB1 : Hid (Below w.heap.size w w1) := ((HB.out.alloc HB.out.size _).alloc (by have := HB.out.size; simp; omega) _).trans (hb1.mono (by have := HB.out.size; simp; omega))
        clear hb1 c0 c1 c2 c3 c4 c5 c6 c7 c8 c9 c10 c11 c12 d0 d1 d2 d3 d4 d5 d6 d7 d8 d9 d10 d11 d12
        cases hs : sameB (seenP p) (seenP q) with
        | true =>
          have HS := Lib.hid hs
          clear hs
          go_wp2
          go_roundw
          case rel =>
            refine ⟨k + 1, by omega, by go_num, fun j x y hj hx hy => ?_, HB1.out⟩
            by_cases e : j = k
            · subst e
              have h1 := HPK.out
              have h2 := HQK.out
              rw [hx] at h1
              rw [hy] at h2
              injection h1 with h1
              injection h2 with h2
              rw [h1, h2]
              exact HS.out
            · exact HALL.out j x y (by omega) hx hy
          case measure => simp [intOf]; omega
        | false =>
          have HS : Hid (sameL ps qs = false) := sameL_false (fun h => by
            have := h.2 k p q HPK.out HQK.out
            rw [hs] at this
            cases this)
          clear hs
          go_wp2
          go_ret
          exact ⟨ret_bool (by rw [HS.out]), HB1.out⟩
      · have HS : Hid (sameL ps qs = true) := sameL_true ⟨HN.out.symm.trans HM.out, fun i p q hp hq => HALL.out i p q (by have := (List.getElem?_eq_some_iff.1 hp).1; have := HN.out; omega) hp hq⟩
        go_wp2_with fail
        go_ret
        exact ⟨ret_bool (by rw [HS.out]), HB.out⟩
  · have hb : ((n : Int) != (m : Int)) = true := by simp; omega
    have HS : Hid (sameL ps qs = false) := sameL_false (fun h => hl (HN.out.trans (h.1.trans HM.out.symm)))
    clear hl
    go_enter Try.func77, Try.ntmps77
    go_wp2
    go_ret
    exact ⟨ret_bool (by rw [HS.out]), Below.refl _ _⟩

theorem slc_row {w : World} {t g c : Nat} {ps : List Pr} (h : Tab w t g c ps) : ∃ A cc, slc g c ps = .slice A ps.length cc ∧ PrRow w A ps := by
  by_cases hl : ps.length = 0
  · exact ⟨none, 0, by simp [slc, hl], fun hn => absurd hl hn⟩
  · obtain ⟨hr, hc⟩ := h.rows hl
    exact ⟨some ⟨g, 0, none⟩, c, by simp [slc, hl], fun _ => ⟨g, rfl, hr.lt, hc⟩⟩

theorem PrRow.bw {W : World} {A : Option Addr} {ps : List Pr} (h : PrRow W A ps) {w' : World} (hb : Below W.heap.size W w') : PrRow w' A ps := by
  intro hl
  obtain ⟨g, rfl, hg, hc⟩ := h hl
  exact ⟨g, rfl, Nat.lt_of_lt_of_le hg hb.size, fun i p hi => (hc i p hi).congr fun j _ _ => hb.cell (p := ⟨g, j, none⟩) hg⟩

set_option maxRecDepth 100000 in
set_option maxHeartbeats 1000000 in
theorem same_any (t g c t' g' c' : Nat) (ps qs : List Pr) (w : World) (hT : Tab w t g c ps) (hT' : Tab w t' g' c' qs) :
    Calls Try.prog 24 #[.pointer (some ⟨t, 0, none⟩), .pointer (some ⟨t', 0, none⟩)] w fun e w' => e = .returned (.bool (sameL ps qs)) ∧ Below w.heap.size w w' := by
  obtain ⟨A, cc, hA, hr⟩ := slc_row hT
  obtain ⟨A', cc', hA', hr'⟩ := slc_row hT'
  have hcell := hT.cell
  have hcell' := hT'.cell
  rw [hA] at hcell
  rw [hA'] at hcell'
  have hlen := hT.len
  have htl := hT.lt
  have htl' := hT'.lt
  have HR := Lib.hid hr
  have HR' := Lib.hid hr'
  clear hT hT' hr hr' hA hA'
  have hx1 := fun (x : BW w) => x.cell t 0 htl
  have hx2 := fun (x : BW w) => x.cell t' 0 htl'
  go_enter Try.func24, Try.ntmps24
  go_wp2_with fail
  refine wp_region_bw (by kernel_rfl) (by kernel_rfl) ?_
  repeat (go_big_quiet_step ((go_at_call 77; exact Calls.bw (equalFunc_any _ _ _ _ _ _ _ (HR.out.bw (Subtype.property _)) (HR'.out.bw (Subtype.property _)) (by omega)))))
  refine wpQuiet_nil ?_
  rintro w2 ⟨x2, hx⟩
  have hb2 : Below w.heap.size w w2 := by rw [hx]; exact x2.property
  clear hx x2 hx1 hx2
  have HB2 := Lib.hid hb2
  clear hb2
  go_wp2
  go_ret
  exact ⟨rfl, HB2.out⟩

end Go.Proofs.Ytgnjenmicojgnaa
