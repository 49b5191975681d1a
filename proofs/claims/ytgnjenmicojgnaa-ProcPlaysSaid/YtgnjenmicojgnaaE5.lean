/-
  What the document's Same answers of two slices of processes.
-/
import Derived.Test.YtgnjenmicojgnaaE3
namespace Go.Proofs.Ytgnjenmicojgnaa
set_option linter.unusedVariables false
set_option linter.unusedSimpArgs false
open Go.RowKit

/-- Two processes of the document, cell by cell. -/
def rsameB (p q : Rf) : Bool := p.pri == q.pri && (p.per == q.per && (p.cap == q.cap && (p.dl == q.dl && (p.off == q.off && (p.st == q.st && (p.held == q.held && (p.til == q.til && (p.beg == q.beg && (p.used == q.used && (p.missed == q.missed && (p.base == q.base && (p.raised == q.raised))))))))))))

/-- Two slices of the document: what counts is the same, one by one. -/
def RSameP (ps qs : List Rf) : Prop := ps.length = qs.length ∧ ∀ (i : Nat) (p q : Rf), ps[i]? = some p → qs[i]? = some q → rsameB (bareR p) (bareR q) = true
noncomputable def rsameL (ps qs : List Rf) : Bool := @decide (RSameP ps qs) (Classical.propDecidable _)
theorem rsameL_true {ps qs : List Rf} (h : RSameP ps qs) : rsameL ps qs = true := @decide_eq_true _ (Classical.propDecidable _) h
theorem rsameL_false {ps qs : List Rf} (h : ¬ RSameP ps qs) : rsameL ps qs = false := @decide_eq_false _ (Classical.propDecidable _) h
theorem rsameL_iff {ps qs : List Rf} : rsameL ps qs = true ↔ RSameP ps qs := ⟨fun h => @of_decide_eq_true _ (Classical.propDecidable _) h, rsameL_true⟩

theorem bare_is {r r' : Rf} (h : bareR r = r') (w : World) : Calls Try.prog 80 #[.agg r.cells] w fun e w' => e = .returned (.agg r'.cells) ∧ Below w.heap.size w w' := by
  subst h; exact bare_any r w

theorem nite_eq {α : Type} [BEq α] [LawfulBEq α] [DecidableEq α] {a b : α} {r : Result Value} {x : Bool} {w : World} (h : r = .ok (.bool (!x)) w) : (if a = b then r else .ok (.bool true) w) = .ok (.bool (!(a == b && x))) w := by
  subst h
  by_cases hc : a = b
  · simp [hc]
  · have : (a == b) = false := by simpa using hc
    simp [hc, this]
theorem nite_last {α : Type} [BEq α] [LawfulBEq α] [DecidableEq α] {a b : α} {w : World} : (if a = b then (.ok (.bool false) w : Result Value) else .ok (.bool true) w) = .ok (.bool (!(a == b))) w := by
  by_cases hc : a = b
  · simp [hc]
  · have : (a == b) = false := by simpa using hc
    simp [hc, this]

set_option maxRecDepth 100000 in
set_option maxHeartbeats 1000000 in
theorem neq101 (p q : Rf) (w : World) : (binOp .neq 101 (.agg p.cells) (.agg q.cells)).run Try.prog w = .ok (.bool (!rsameB p q)) w := by
  obtain ⟨x, hx⟩ : ∃ x, rsameB p q = x := ⟨_, rfl⟩
  rw [hx]
  unfold Rf.cells
  go_simp
  rw [← hx]
  unfold rsameB
  exact nite_eq (nite_eq (nite_eq (nite_eq (nite_eq (nite_eq (nite_eq (nite_eq (nite_eq (nite_eq (nite_eq (nite_eq (nite_last))))))))))))

set_option maxRecDepth 100000 in
set_option maxHeartbeats 4000000 in
theorem rsame_any (A A' : Addr) (n m c c' : Nat) (ps qs : List Rf) (w : World) (hn : ps.length = n) (hmm : qs.length = m) (hp : RowG w rfC 13 (some A) ps) (hq : RowG w rfC 13 (some A') qs) (hm : n ≤ 1000) :
    Calls Try.prog 25 #[.slice (some A) n c, .slice (some A') m c'] w fun e w' => e = .returned (.bool (rsameL ps qs)) ∧ Below w.heap.size w w' := by
  have HP := Lib.hid hp
  have HQ := Lib.hid hq
  have HN := Lib.hid hn
  have HM := Lib.hid hmm
  clear hp hq hn hmm
  by_cases hl : n = m
  · subst hl
    go_enter Try.func25, Try.ntmps25
    go_wp2_with fail
    go_loopw [5] (fun i wr => ∃ k : Nat, k ≤ n ∧ i = .int .i64 k ∧ (∀ (j : Nat) (p q : Rf), j < k → ps[j]? = some p → qs[j]? = some q → rsameB (bareR p) (bareR q) = true) ∧ Below w.heap.size w wr) (fun i _ => n - (intOf i).toNat)
    case atStart => exact ⟨0, Nat.zero_le _, rfl, fun j _ _ hj => absurd hj (Nat.not_lt_zero _), Below.refl _ _⟩
    case round =>
      obtain ⟨k, hk, rfl, hall, hb⟩ := hrel
      have HALL := Lib.hid hall
      have HB := Lib.hid hb
      have hbs := hb.size
      clear hall hb
      by_cases hlt : k < n
      · obtain ⟨g, o, hge, hgl, hcp⟩ := HP.out (by have := HN.out; omega)
        injection hge with hge
        subst hge
        obtain ⟨g', o', hge, hgl', hcq⟩ := HQ.out (by have := HM.out; omega)
        injection hge with hge
        subst hge
        obtain ⟨p, hpk⟩ : ∃ p, ps[k]? = some p := ⟨_, List.getElem?_eq_getElem (by have := HN.out; omega)⟩
        obtain ⟨q, hqk⟩ : ∃ q, qs[k]? = some q := ⟨_, List.getElem?_eq_getElem (by have := HM.out; omega)⟩
        have fp : ∀ j, j < 13 → wr.cell? ⟨g, o + k * 13 + j, none⟩ = (rfC p)[j]? := fun j hj => (HB.out.cell (p := ⟨g, _, none⟩) hgl).trans (hcp k p hpk j hj)
        have fq : ∀ j, j < 13 → wr.cell? ⟨g', o' + k * 13 + j, none⟩ = (rfC q)[j]? := fun j hj => (HB.out.cell (p := ⟨g', _, none⟩) hgl').trans (hcq k q hqk j hj)
        have c0 : wr.cell? ⟨g, o + k * 13, none⟩ = some (.int .i64 p.pri) := fp 0 (by omega)
        have c1 : wr.cell? ⟨g, o + k * 13 + 1, none⟩ = some (.int .i64 p.per) := fp 1 (by omega)
        have c2 : wr.cell? ⟨g, o + k * 13 + 2, none⟩ = some (.int .i64 p.cap) := fp 2 (by omega)
        have c3 : wr.cell? ⟨g, o + k * 13 + 3, none⟩ = some (.int .i64 p.dl) := fp 3 (by omega)
        have c4 : wr.cell? ⟨g, o + k * 13 + 4, none⟩ = some (.int .i64 p.off) := fp 4 (by omega)
        have c5 : wr.cell? ⟨g, o + k * 13 + 5, none⟩ = some (.int .i64 p.st) := fp 5 (by omega)
        have c6 : wr.cell? ⟨g, o + k * 13 + 6, none⟩ = some (.bool p.held) := fp 6 (by omega)
        have c7 : wr.cell? ⟨g, o + k * 13 + 7, none⟩ = some (.int .i64 p.til) := fp 7 (by omega)
        have c8 : wr.cell? ⟨g, o + k * 13 + 8, none⟩ = some (.int .i64 p.beg) := fp 8 (by omega)
        have c9 : wr.cell? ⟨g, o + k * 13 + 9, none⟩ = some (.int .i64 p.used) := fp 9 (by omega)
        have c10 : wr.cell? ⟨g, o + k * 13 + 10, none⟩ = some (.bool p.missed) := fp 10 (by omega)
        have c11 : wr.cell? ⟨g, o + k * 13 + 11, none⟩ = some (.int .i64 p.base) := fp 11 (by omega)
        have c12 : wr.cell? ⟨g, o + k * 13 + 12, none⟩ = some (.int .i64 p.raised) := fp 12 (by omega)
        have d0 : wr.cell? ⟨g', o' + k * 13, none⟩ = some (.int .i64 q.pri) := fq 0 (by omega)
        have d1 : wr.cell? ⟨g', o' + k * 13 + 1, none⟩ = some (.int .i64 q.per) := fq 1 (by omega)
        have d2 : wr.cell? ⟨g', o' + k * 13 + 2, none⟩ = some (.int .i64 q.cap) := fq 2 (by omega)
        have d3 : wr.cell? ⟨g', o' + k * 13 + 3, none⟩ = some (.int .i64 q.dl) := fq 3 (by omega)
        have d4 : wr.cell? ⟨g', o' + k * 13 + 4, none⟩ = some (.int .i64 q.off) := fq 4 (by omega)
        have d5 : wr.cell? ⟨g', o' + k * 13 + 5, none⟩ = some (.int .i64 q.st) := fq 5 (by omega)
        have d6 : wr.cell? ⟨g', o' + k * 13 + 6, none⟩ = some (.bool q.held) := fq 6 (by omega)
        have d7 : wr.cell? ⟨g', o' + k * 13 + 7, none⟩ = some (.int .i64 q.til) := fq 7 (by omega)
        have d8 : wr.cell? ⟨g', o' + k * 13 + 8, none⟩ = some (.int .i64 q.beg) := fq 8 (by omega)
        have d9 : wr.cell? ⟨g', o' + k * 13 + 9, none⟩ = some (.int .i64 q.used) := fq 9 (by omega)
        have d10 : wr.cell? ⟨g', o' + k * 13 + 10, none⟩ = some (.bool q.missed) := fq 10 (by omega)
        have d11 : wr.cell? ⟨g', o' + k * 13 + 11, none⟩ = some (.int .i64 q.base) := fq 11 (by omega)
        have d12 : wr.cell? ⟨g', o' + k * 13 + 12, none⟩ = some (.int .i64 q.raised) := fq 12 (by omega)
        have hgr : g < wr.heap.size := by omega
        have hgr' : g' < wr.heap.size := by omega
        have HPK := Lib.hid hpk
        have HQK := Lib.hid hqk
        have hxp := fun (x : BW wr) (o : Nat) => x.cell g o hgr
        have hxq := fun (x : BW wr) (o : Nat) => x.cell g' o hgr'
        have hne := fun (w : World) => neq101 (bareR p) (bareR q) w
        clear hcp hcq hpk hqk fp fq
        go_wp2_with fail
        refine wp_region_bw (by kernel_rfl) (by kernel_rfl) ?_
        repeat (go_big_quiet_step (first | (go_at_call_of 80 (p.pri); exact Calls.bw (bare_any p _)) | (go_at_call_of 80 (q.pri); exact Calls.bw (bare_any q _))))
        refine wpQuiet_nil ?_
        rintro w2 ⟨x2, hx2⟩
        have HB2 : Hid (Below w.heap.size w w2) := HB.out.trans ((show Below wr.heap.size wr w2 by rw [hx2]; exact x2.property).mono hbs)
        clear hx2 x2 hxp hxq hne c0 c1 c2 c3 c4 c5 c6 c7 c8 c9 c10 c11 c12 d0 d1 d2 d3 d4 d5 d6 d7 d8 d9 d10 d11 d12
        cases hs : rsameB (bareR p) (bareR q) with
        | true =>
          have HS := Lib.hid hs
          clear hs
          go_wp2
          go_roundw
          case rel =>
            refine ⟨k + 1, by omega, by go_num, fun j x y hj hx hy => ?_, HB2.out⟩
            by_cases e : j = k
            · subst e
              have h1 := HPK.out
              have h2 := HQK.out
              rw [hx] at h1
              rw [hy] at h2
              injection h1 with h1
              injection h2 with h2
              rw [h1, h2]
              exact HS.out
            · exact HALL.out j x y (by omega) hx hy
          case measure => simp [intOf]; omega
        | false =>
          have HS : Hid (rsameL ps qs = false) := rsameL_false (fun h => by
            have := h.2 k p q HPK.out HQK.out
            rw [hs] at this
            cases this)
          clear hs
          go_wp2
          go_ret
          exact ⟨ret_bool (by rw [HS.out]), HB2.out⟩
      · have HS : Hid (rsameL ps qs = true) := rsameL_true ⟨HN.out.trans HM.out.symm, fun i p q hp hq => HALL.out i p q (by have := (List.getElem?_eq_some_iff.1 hp).1; have := HN.out; omega) hp hq⟩
        go_wp2_with fail
        go_ret
        exact ⟨ret_bool (by rw [HS.out]), HB.out⟩
  · have hb : ((n : Int) != (m : Int)) = true := by simp; omega
    have HS : Hid (rsameL ps qs = false) := rsameL_false (fun h => hl (HN.out.symm.trans (h.1.trans HM.out)))
    clear hl
    go_enter Try.func25, Try.ntmps25
    go_wp2
    go_ret
    exact ⟨ret_bool (by rw [HS.out]), Below.refl _ _⟩

end Go.Proofs.Ytgnjenmicojgnaa
