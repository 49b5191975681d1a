/-
  What the document's functions on one process answer, by value, under the bounds that a process keeps (more of them).
-/
import Derived.Test.YtgnjenmicojgnaaD0
namespace Go.Proofs.Ytgnjenmicojgnaa
set_option linter.unusedVariables false
set_option linter.unusedSimpArgs false
open Go.RowKit

def doneRf (n : Int) (r : Rf) : Rf × Int × Int :=
  if tickB n = false then (r, 0, 2) else if ¬ rstate r = 1 then (r, 0, 10) else if r.per = 0 then (freshR r, -1, 0) else if r.beg + r.per ≤ n then (relR (r.beg + r.per) r, r.beg + r.per, 0) else ({ r with st := 3, til := r.beg + r.per }, r.beg + r.per, 0)

set_option maxRecDepth 100000 in
set_option maxHeartbeats 1000000 in
theorem rdone_any (r : Rf) (n : Int) (w : World) (hr : r.Ok) : Calls Try.prog 71 #[.agg r.cells, .int .i64 n] w fun e w' => e = .returned (.tuple #[.agg (doneRf n r).1.cells, .int .i64 (doneRf n r).2.1, .int .i64 (doneRf n r).2.2]) ∧ Below w.heap.size w w' := by
  obtain ⟨⟨hp1, hp2⟩, ⟨hc1, hc2⟩, ⟨hd1, hd2⟩, ⟨ho1, ho2⟩, ⟨hb1, hb2⟩, ⟨hu1, hu2⟩⟩ := hr
  by_cases hq0 : tickB n = false
  · have HE : Hid ((.tuple #[.agg (doneRf n r).1.cells, .int .i64 (doneRf n r).2.1, .int .i64 (doneRf n r).2.2] : Value) = .tuple #[.agg (r : Rf).cells, .int .i64 (0), .int .i64 (2)]) := by
      unfold Hid
      simp only [doneRf, Value.tuple.injEq]
      simp [hq0]
    have HT : Hid (tickB n = false) := by unfold Hid; exact hq0
    clear hq0
    unfold Rf.cells
    go_enter Try.func71, Try.ntmps71
    go_wp2_with (go_at_call 112; refine (rtick_is HT.out _).mono ?_; rintro e w' ⟨rfl, rfl⟩)
    refine bodyPost_ret (v := .tuple #[.agg (r : Rf).cells, .int .i64 (0), .int .i64 (2)]) (by simp [results, Try.results71, go_sem, Rf.cells, freshR, relR]) rfl ⟨congrArg Ending.returned HE.out.symm, ?_⟩
    repeat first | with_reducible exact Below.refl _ _ | (with_reducible refine Below.alloc ?_ (by simp; try omega) _) | (with_reducible refine Below.setCell ?_ (by simp; try omega) _)
  by_cases hq1 : ¬ rstate r = 1
  · have HE : Hid ((.tuple #[.agg (doneRf n r).1.cells, .int .i64 (doneRf n r).2.1, .int .i64 (doneRf n r).2.2] : Value) = .tuple #[.agg (r : Rf).cells, .int .i64 (0), .int .i64 (10)]) := by
      unfold Hid
      simp only [doneRf, Value.tuple.injEq]
      simp [hq0, hq1]
    have HT : Hid (tickB n = true) := by unfold Hid; simpa using hq0
    obtain ⟨ks, hks⟩ : ∃ ks, rstate r = ks := ⟨_, rfl⟩
    have HS := Lib.hid hks
    have h1 : (ks != 1) = true := by rw [← hks]; simpa using hq1
    clear hks
    clear hq0 hq1
    unfold Rf.cells
    go_enter Try.func71, Try.ntmps71
    go_wp2_with (first | (go_at_call 112; refine (rtick_is HT.out _).mono ?_; rintro e w' ⟨rfl, rfl⟩) | (go_at_call 94; refine (rstate_is HS.out _).mono ?_; rintro e w' ⟨rfl, o5, rfl⟩))
    refine bodyPost_ret (v := .tuple #[.agg (r : Rf).cells, .int .i64 (0), .int .i64 (10)]) (by simp [results, Try.results71, go_sem, Rf.cells, freshR, relR]) rfl ⟨congrArg Ending.returned HE.out.symm, ?_⟩
    repeat first | with_reducible exact Below.refl _ _ | (with_reducible refine Below.alloc ?_ (by simp; try omega) _) | (with_reducible refine Below.setCell ?_ (by simp; try omega) _)
  by_cases hq2 : r.per = 0
  · have HE : Hid ((.tuple #[.agg (doneRf n r).1.cells, .int .i64 (doneRf n r).2.1, .int .i64 (doneRf n r).2.2] : Value) = .tuple #[.agg (freshR r : Rf).cells, .int .i64 (-1), .int .i64 (0)]) := by
      unfold Hid
      simp only [doneRf, Value.tuple.injEq]
      simp [hq0, hq1, hq2]
    have HT : Hid (tickB n = true) := by unfold Hid; simpa using hq0
    have HS : Hid (rstate r = 1) := by unfold Hid; omega
    have h1 : (r.per == 0) = true := by simpa using hq2
    clear hq0 hq1 hq2
    unfold Rf.cells
    go_enter Try.func71, Try.ntmps71
    go_wp2_with (first | (go_at_call 112; refine (rtick_is HT.out _).mono ?_; rintro e w' ⟨rfl, rfl⟩) | (go_at_call 94; refine (rstate_is HS.out _).mono ?_; rintro e w' ⟨rfl, o5, rfl⟩) | (go_at_call 111; refine (rfresh_any r _).mono ?_; rintro e w' ⟨rfl, o1, o2, rfl⟩))
    refine bodyPost_ret (v := .tuple #[.agg (freshR r : Rf).cells, .int .i64 (-1), .int .i64 (0)]) (by simp [results, Try.results71, go_sem, Rf.cells, freshR, relR]) rfl ⟨congrArg Ending.returned HE.out.symm, ?_⟩
    repeat first | with_reducible exact Below.refl _ _ | (with_reducible refine Below.alloc ?_ (by simp; try omega) _) | (with_reducible refine Below.setCell ?_ (by simp; try omega) _)
  by_cases hq3 : r.beg + r.per ≤ n
  · have HE : Hid ((.tuple #[.agg (doneRf n r).1.cells, .int .i64 (doneRf n r).2.1, .int .i64 (doneRf n r).2.2] : Value) = .tuple #[.agg (relR (r.beg + r.per) r : Rf).cells, .int .i64 (r.beg + r.per), .int .i64 (0)]) := by
      unfold Hid
      simp only [doneRf, Value.tuple.injEq]
      simp [hq0, hq1, hq2, hq3]
    have HT : Hid (tickB n = true) := by unfold Hid; simpa using hq0
    have HS : Hid (rstate r = 1) := by unfold Hid; omega
    have h1 : (r.per == 0) = false := by simpa using hq2
    have h2 : r.beg + r.per ≤ n := hq3
    clear hq0 hq1 hq2 hq3
    unfold Rf.cells
    go_enter Try.func71, Try.ntmps71
    go_wp2_with (first | (go_at_call 112; refine (rtick_is HT.out _).mono ?_; rintro e w' ⟨rfl, rfl⟩) | (go_at_call 94; refine (rstate_is HS.out _).mono ?_; rintro e w' ⟨rfl, o5, rfl⟩) | (go_at_call 113; refine (rrel_any r (r.beg + r.per) _).mono ?_; rintro e w' ⟨rfl, o3, o4, rfl⟩))
    refine bodyPost_ret (v := .tuple #[.agg (relR (r.beg + r.per) r : Rf).cells, .int .i64 (r.beg + r.per), .int .i64 (0)]) (by simp [results, Try.results71, go_sem, Rf.cells, freshR, relR]) rfl ⟨congrArg Ending.returned HE.out.symm, ?_⟩
    repeat first | with_reducible exact Below.refl _ _ | (with_reducible refine Below.alloc ?_ (by simp; try omega) _) | (with_reducible refine Below.setCell ?_ (by simp; try omega) _)
  have HE : Hid ((.tuple #[.agg (doneRf n r).1.cells, .int .i64 (doneRf n r).2.1, .int .i64 (doneRf n r).2.2] : Value) = .tuple #[.agg ({ r with st := 3, til := r.beg + r.per } : Rf).cells, .int .i64 (r.beg + r.per), .int .i64 (0)]) := by
    unfold Hid
    simp only [doneRf, Value.tuple.injEq]
    simp [hq0, hq1, hq2, hq3]
  have HT : Hid (tickB n = true) := by unfold Hid; simpa using hq0
  have HS : Hid (rstate r = 1) := by unfold Hid; omega
  have h1 : (r.per == 0) = false := by simpa using hq2
  have h2 : n < r.beg + r.per := by omega
  clear hq0 hq1 hq2 hq3
  unfold Rf.cells
  go_enter Try.func71, Try.ntmps71
  go_wp2_with (first | (go_at_call 112; refine (rtick_is HT.out _).mono ?_; rintro e w' ⟨rfl, rfl⟩) | (go_at_call 94; refine (rstate_is HS.out _).mono ?_; rintro e w' ⟨rfl, o5, rfl⟩))
  refine bodyPost_ret (v := .tuple #[.agg ({ r with st := 3, til := r.beg + r.per } : Rf).cells, .int .i64 (r.beg + r.per), .int .i64 (0)]) (by simp [results, Try.results71, go_sem, Rf.cells, freshR, relR]) rfl ⟨congrArg Ending.returned HE.out.symm, ?_⟩
  repeat first | with_reducible exact Below.refl _ _ | (with_reducible refine Below.alloc ?_ (by simp; try omega) _) | (with_reducible refine Below.setCell ?_ (by simp; try omega) _)

def releR (n : Int) (r : Rf) : Rf × Int := if tickB n = false then (r, 2) else if ¬ r.st = 3 then (r, 10) else if n < r.til then (r, 10) else (relR r.til r, 0)
set_option maxRecDepth 100000 in
set_option maxHeartbeats 1000000 in
theorem rrele_any (r : Rf) (n : Int) (w : World) (hr : r.Ok) : Calls Try.prog 72 #[.agg r.cells, .int .i64 n] w fun e w' => e = .returned (.tuple #[.agg (releR n r).1.cells, .int .i64 (releR n r).2]) ∧ Below w.heap.size w w' := by
  obtain ⟨⟨hp1, hp2⟩, ⟨hc1, hc2⟩, ⟨hd1, hd2⟩, ⟨ho1, ho2⟩, ⟨hb1, hb2⟩, ⟨hu1, hu2⟩⟩ := hr
  by_cases hq0 : tickB n = false
  · have HE : Hid ((.tuple #[.agg (releR n r).1.cells, .int .i64 (releR n r).2] : Value) = .tuple #[.agg (r : Rf).cells, .int .i64 (2)]) := by
      unfold Hid
      simp only [releR, Value.tuple.injEq]
      simp [hq0]
    have HT : Hid (tickB n = false) := by unfold Hid; exact hq0
    clear hq0
    unfold Rf.cells
    go_enter Try.func72, Try.ntmps72
    go_wp2_with (go_at_call 112; refine (rtick_is HT.out _).mono ?_; rintro e w' ⟨rfl, rfl⟩)
    refine bodyPost_ret (v := .tuple #[.agg (r : Rf).cells, .int .i64 (2)]) (by simp [results, Try.results72, go_sem, Rf.cells, freshR, relR]) rfl ⟨congrArg Ending.returned HE.out.symm, ?_⟩
    repeat first | with_reducible exact Below.refl _ _ | (with_reducible refine Below.alloc ?_ (by simp; try omega) _) | (with_reducible refine Below.setCell ?_ (by simp; try omega) _)
  by_cases hq1 : ¬ r.st = 3
  · have HE : Hid ((.tuple #[.agg (releR n r).1.cells, .int .i64 (releR n r).2] : Value) = .tuple #[.agg (r : Rf).cells, .int .i64 (10)]) := by
      unfold Hid
      simp only [releR, Value.tuple.injEq]
      simp [hq0, hq1]
    have HT : Hid (tickB n = true) := by unfold Hid; simpa using hq0
    have h1 : (r.st != 3) = true := by simpa using hq1
    clear hq0 hq1
    unfold Rf.cells
    go_enter Try.func72, Try.ntmps72
    go_wp2_with (go_at_call 112; refine (rtick_is HT.out _).mono ?_; rintro e w' ⟨rfl, rfl⟩)
    refine bodyPost_ret (v := .tuple #[.agg (r : Rf).cells, .int .i64 (10)]) (by simp [results, Try.results72, go_sem, Rf.cells, freshR, relR]) rfl ⟨congrArg Ending.returned HE.out.symm, ?_⟩
    repeat first | with_reducible exact Below.refl _ _ | (with_reducible refine Below.alloc ?_ (by simp; try omega) _) | (with_reducible refine Below.setCell ?_ (by simp; try omega) _)
  by_cases hq2 : n < r.til
  · have HE : Hid ((.tuple #[.agg (releR n r).1.cells, .int .i64 (releR n r).2] : Value) = .tuple #[.agg (r : Rf).cells, .int .i64 (10)]) := by
      unfold Hid
      simp only [releR, Value.tuple.injEq]
      simp [hq0, hq1, hq2]
    have HT : Hid (tickB n = true) := by unfold Hid; simpa using hq0
    have h1 : (r.st != 3) = false := by simpa using hq1
    have h2 : n < r.til := hq2
    clear hq0 hq1 hq2
    unfold Rf.cells
    go_enter Try.func72, Try.ntmps72
    go_wp2_with (go_at_call 112; refine (rtick_is HT.out _).mono ?_; rintro e w' ⟨rfl, rfl⟩)
    refine bodyPost_ret (v := .tuple #[.agg (r : Rf).cells, .int .i64 (10)]) (by simp [results, Try.results72, go_sem, Rf.cells, freshR, relR]) rfl ⟨congrArg Ending.returned HE.out.symm, ?_⟩
    repeat first | with_reducible exact Below.refl _ _ | (with_reducible refine Below.alloc ?_ (by simp; try omega) _) | (with_reducible refine Below.setCell ?_ (by simp; try omega) _)
  have HE : Hid ((.tuple #[.agg (releR n r).1.cells, .int .i64 (releR n r).2] : Value) = .tuple #[.agg (relR r.til r : Rf).cells, .int .i64 (0)]) := by
    unfold Hid
    simp only [releR, Value.tuple.injEq]
    simp [hq0, hq1, hq2]
  have HT : Hid (tickB n = true) := by unfold Hid; simpa using hq0
  have h1 : (r.st != 3) = false := by simpa using hq1
  have h2 : r.til ≤ n := by omega
  clear hq0 hq1 hq2
  unfold Rf.cells
  go_enter Try.func72, Try.ntmps72
  go_wp2_with (first | (go_at_call 112; refine (rtick_is HT.out _).mono ?_; rintro e w' ⟨rfl, rfl⟩) | (go_at_call 113; refine (rrel_any r r.til _).mono ?_; rintro e w' ⟨rfl, o3, o4, rfl⟩))
  refine bodyPost_ret (v := .tuple #[.agg (relR r.til r : Rf).cells, .int .i64 (0)]) (by simp [results, Try.results72, go_sem, Rf.cells, freshR, relR]) rfl ⟨congrArg Ending.returned HE.out.symm, ?_⟩
  repeat first | with_reducible exact Below.refl _ _ | (with_reducible refine Below.alloc ?_ (by simp; try omega) _) | (with_reducible refine Below.setCell ?_ (by simp; try omega) _)

end Go.Proofs.Ytgnjenmicojgnaa
