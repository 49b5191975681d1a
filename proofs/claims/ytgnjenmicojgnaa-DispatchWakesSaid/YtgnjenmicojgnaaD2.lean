/-
  What the document's functions on one process answer, by value, under the bounds that a process keeps (more of them).
-/
import Derived.Test.YtgnjenmicojgnaaD0
namespace Go.Proofs.Ytgnjenmicojgnaa
set_option linter.unusedVariables false
set_option linter.unusedSimpArgs false
open Go.RowKit

def chargeRf (n : Int) (r : Rf) : Rf × Int :=
  if tickB n = false then (r, 2) else if r.st = 0 then (r, 10) else if r.st = 3 then (r, 10) else
    if 1099511627776 < r.used + n ∧ 0 < r.cap then ({ r with used := 1099511627776 }, 16) else if 1099511627776 < r.used + n then ({ r with used := 1099511627776 }, 0)
    else if 0 < r.cap ∧ r.cap < r.used + n then ({ r with used := r.used + n }, 16) else ({ r with used := r.used + n }, 0)

set_option maxRecDepth 100000 in
set_option maxHeartbeats 1000000 in
theorem rcharge_any (r : Rf) (n : Int) (w : World) (hr : r.Ok) : Calls Try.prog 73 #[.agg r.cells, .int .i64 n] w fun e w' => e = .returned (.tuple #[.agg (chargeRf n r).1.cells, .int .i64 (chargeRf n r).2]) ∧ Below w.heap.size w w' := by
  obtain ⟨⟨hp1, hp2⟩, ⟨hc1, hc2⟩, ⟨hd1, hd2⟩, ⟨ho1, ho2⟩, ⟨hb1, hb2⟩, ⟨hu1, hu2⟩⟩ := hr
  by_cases hq0 : tickB n = false
  · have HE : Hid ((.tuple #[.agg (chargeRf n r).1.cells, .int .i64 (chargeRf n r).2] : Value) = .tuple #[.agg (r : Rf).cells, .int .i64 (2)]) := by
      unfold Hid
      simp only [chargeRf, Value.tuple.injEq]
      simp [hq0]
      all_goals (rw [if_neg (by omega)]; exact ⟨rfl, rfl⟩)
    have HT : Hid (tickB n = false) := by unfold Hid; exact hq0
    clear hq0
    unfold Rf.cells
    go_enter Try.func73, Try.ntmps73
    go_wp2_with (go_at_call 112; refine (rtick_is HT.out _).mono ?_; rintro e w' ⟨rfl, rfl⟩)
    refine bodyPost_ret (v := .tuple #[.agg (r : Rf).cells, .int .i64 (2)]) (by simp [results, Try.results73, go_sem, Rf.cells, freshR, relR]) rfl ⟨congrArg Ending.returned HE.out.symm, ?_⟩
    repeat first | with_reducible exact Below.refl _ _ | (with_reducible refine Below.alloc ?_ (by simp; try omega) _) | (with_reducible refine Below.setCell ?_ (by simp; try omega) _)
  by_cases hq1 : r.st = 0
  · have HE : Hid ((.tuple #[.agg (chargeRf n r).1.cells, .int .i64 (chargeRf n r).2] : Value) = .tuple #[.agg (r : Rf).cells, .int .i64 (10)]) := by
      unfold Hid
      simp only [chargeRf, Value.tuple.injEq]
      simp [hq0, hq1]
      all_goals (rw [if_neg (by omega)]; exact ⟨rfl, rfl⟩)
    have HT : Hid (tickB n = true) := by unfold Hid; simpa using hq0
    have h1 : (r.st == 0) = true := by simpa using hq1
    clear hq0 hq1
    unfold Rf.cells
    go_enter Try.func73, Try.ntmps73
    go_wp2_with (go_at_call 112; refine (rtick_is HT.out _).mono ?_; rintro e w' ⟨rfl, rfl⟩)
    refine bodyPost_ret (v := .tuple #[.agg (r : Rf).cells, .int .i64 (10)]) (by simp [results, Try.results73, go_sem, Rf.cells, freshR, relR]) rfl ⟨congrArg Ending.returned HE.out.symm, ?_⟩
    repeat first | with_reducible exact Below.refl _ _ | (with_reducible refine Below.alloc ?_ (by simp; try omega) _) | (with_reducible refine Below.setCell ?_ (by simp; try omega) _)
  by_cases hq2 : r.st = 3
  · have HE : Hid ((.tuple #[.agg (chargeRf n r).1.cells, .int .i64 (chargeRf n r).2] : Value) = .tuple #[.agg (r : Rf).cells, .int .i64 (10)]) := by
      unfold Hid
      simp only [chargeRf, Value.tuple.injEq]
      simp [hq0, hq1, hq2]
      all_goals (rw [if_neg (by omega)]; exact ⟨rfl, rfl⟩)
    have HT : Hid (tickB n = true) := by unfold Hid; simpa using hq0
    have h1 : (r.st == 0) = false := by simpa using hq1
    have h2 : (r.st == 3) = true := by simpa using hq2
    clear hq0 hq1 hq2
    unfold Rf.cells
    go_enter Try.func73, Try.ntmps73
    go_wp2_with (go_at_call 112; refine (rtick_is HT.out _).mono ?_; rintro e w' ⟨rfl, rfl⟩)
    refine bodyPost_ret (v := .tuple #[.agg (r : Rf).cells, .int .i64 (10)]) (by simp [results, Try.results73, go_sem, Rf.cells, freshR, relR]) rfl ⟨congrArg Ending.returned HE.out.symm, ?_⟩
    repeat first | with_reducible exact Below.refl _ _ | (with_reducible refine Below.alloc ?_ (by simp; try omega) _) | (with_reducible refine Below.setCell ?_ (by simp; try omega) _)
  by_cases hq3 : 1099511627776 < r.used + n ∧ 0 < r.cap
  · have HE : Hid ((.tuple #[.agg (chargeRf n r).1.cells, .int .i64 (chargeRf n r).2] : Value) = .tuple #[.agg ({ r with used := 1099511627776 } : Rf).cells, .int .i64 (16)]) := by
      unfold Hid
      simp only [chargeRf, Value.tuple.injEq]
      simp [hq0, hq1, hq2, hq3]
      all_goals (rw [if_neg (by omega)]; exact ⟨rfl, rfl⟩)
    have HT : Hid (tickB n = true) := by unfold Hid; simpa using hq0
    have h1 : (r.st == 0) = false := by simpa using hq1
    have h2 : (r.st == 3) = false := by simpa using hq2
    obtain ⟨hn1, hn2⟩ := tickB_true HT.out
    have h34 := hq3
    obtain ⟨h3, h4⟩ := h34
    clear hq0 hq1 hq2 hq3
    unfold Rf.cells
    go_enter Try.func73, Try.ntmps73
    go_wp2_with (go_at_call 112; refine (rtick_is HT.out _).mono ?_; rintro e w' ⟨rfl, rfl⟩)
    refine bodyPost_ret (v := .tuple #[.agg ({ r with used := 1099511627776 } : Rf).cells, .int .i64 (16)]) (by simp [results, Try.results73, go_sem, Rf.cells, freshR, relR]) rfl ⟨congrArg Ending.returned HE.out.symm, ?_⟩
    repeat first | with_reducible exact Below.refl _ _ | (with_reducible refine Below.alloc ?_ (by simp; try omega) _) | (with_reducible refine Below.setCell ?_ (by simp; try omega) _)
  by_cases hq4 : 1099511627776 < r.used + n
  · have HE : Hid ((.tuple #[.agg (chargeRf n r).1.cells, .int .i64 (chargeRf n r).2] : Value) = .tuple #[.agg ({ r with used := 1099511627776 } : Rf).cells, .int .i64 (0)]) := by
      unfold Hid
      simp only [chargeRf, Value.tuple.injEq]
      simp [hq0, hq1, hq2, hq3, hq4]
      all_goals (rw [if_neg (by omega)]; exact ⟨rfl, rfl⟩)
    have HT : Hid (tickB n = true) := by unfold Hid; simpa using hq0
    have h1 : (r.st == 0) = false := by simpa using hq1
    have h2 : (r.st == 3) = false := by simpa using hq2
    obtain ⟨hn1, hn2⟩ := tickB_true HT.out
    have h3 : 1099511627776 < r.used + n := hq4
    have h4 : r.cap ≤ 0 := by omega
    have h5 : decide (0 < r.cap) = false := by simp; omega
    clear hq0 hq1 hq2 hq3 hq4
    unfold Rf.cells
    go_enter Try.func73, Try.ntmps73
    go_wp2_with (go_at_call 112; refine (rtick_is HT.out _).mono ?_; rintro e w' ⟨rfl, rfl⟩)
    refine bodyPost_ret (v := .tuple #[.agg ({ r with used := 1099511627776 } : Rf).cells, .int .i64 (0)]) (by simp [results, Try.results73, go_sem, Rf.cells, freshR, relR]) rfl ⟨congrArg Ending.returned HE.out.symm, ?_⟩
    repeat first | with_reducible exact Below.refl _ _ | (with_reducible refine Below.alloc ?_ (by simp; try omega) _) | (with_reducible refine Below.setCell ?_ (by simp; try omega) _)
  by_cases hq5 : 0 < r.cap ∧ r.cap < r.used + n
  · have HE : Hid ((.tuple #[.agg (chargeRf n r).1.cells, .int .i64 (chargeRf n r).2] : Value) = .tuple #[.agg ({ r with used := r.used + n } : Rf).cells, .int .i64 (16)]) := by
      unfold Hid
      simp only [chargeRf, Value.tuple.injEq]
      simp [hq0, hq1, hq2, hq3, hq4, hq5]
      all_goals (rw [if_neg (by omega)]; exact ⟨rfl, rfl⟩)
    have HT : Hid (tickB n = true) := by unfold Hid; simpa using hq0
    have h1 : (r.st == 0) = false := by simpa using hq1
    have h2 : (r.st == 3) = false := by simpa using hq2
    obtain ⟨hn1, hn2⟩ := tickB_true HT.out
    have h3 : r.used + n ≤ 1099511627776 := by omega
    have h45 := hq5
    obtain ⟨h4, h5⟩ := h45
    clear hq0 hq1 hq2 hq3 hq4 hq5
    unfold Rf.cells
    go_enter Try.func73, Try.ntmps73
    go_wp2_with (go_at_call 112; refine (rtick_is HT.out _).mono ?_; rintro e w' ⟨rfl, rfl⟩)
    refine bodyPost_ret (v := .tuple #[.agg ({ r with used := r.used + n } : Rf).cells, .int .i64 (16)]) (by simp [results, Try.results73, go_sem, Rf.cells, freshR, relR]) rfl ⟨congrArg Ending.returned HE.out.symm, ?_⟩
    repeat first | with_reducible exact Below.refl _ _ | (with_reducible refine Below.alloc ?_ (by simp; try omega) _) | (with_reducible refine Below.setCell ?_ (by simp; try omega) _)
  by_cases hq6 : 0 < r.cap
  · have HE : Hid ((.tuple #[.agg (chargeRf n r).1.cells, .int .i64 (chargeRf n r).2] : Value) = .tuple #[.agg ({ r with used := r.used + n } : Rf).cells, .int .i64 (0)]) := by
      unfold Hid
      simp only [chargeRf, Value.tuple.injEq]
      simp [hq0, hq1, hq2, hq3, hq4, hq5, hq6]
      all_goals (rw [if_neg (by omega)]; exact ⟨rfl, rfl⟩)
    have HT : Hid (tickB n = true) := by unfold Hid; simpa using hq0
    have h1 : (r.st == 0) = false := by simpa using hq1
    have h2 : (r.st == 3) = false := by simpa using hq2
    obtain ⟨hn1, hn2⟩ := tickB_true HT.out
    have h3 : r.used + n ≤ 1099511627776 := by omega
    have h4 : 0 < r.cap := hq6
    have h5 : r.used + n ≤ r.cap := by omega
    clear hq0 hq1 hq2 hq3 hq4 hq5 hq6
    unfold Rf.cells
    go_enter Try.func73, Try.ntmps73
    go_wp2_with (go_at_call 112; refine (rtick_is HT.out _).mono ?_; rintro e w' ⟨rfl, rfl⟩)
    refine bodyPost_ret (v := .tuple #[.agg ({ r with used := r.used + n } : Rf).cells, .int .i64 (0)]) (by simp [results, Try.results73, go_sem, Rf.cells, freshR, relR]) rfl ⟨congrArg Ending.returned HE.out.symm, ?_⟩
    repeat first | with_reducible exact Below.refl _ _ | (with_reducible refine Below.alloc ?_ (by simp; try omega) _) | (with_reducible refine Below.setCell ?_ (by simp; try omega) _)
  have HE : Hid ((.tuple #[.agg (chargeRf n r).1.cells, .int .i64 (chargeRf n r).2] : Value) = .tuple #[.agg ({ r with used := r.used + n } : Rf).cells, .int .i64 (0)]) := by
    unfold Hid
    simp only [chargeRf, Value.tuple.injEq]
    simp [hq0, hq1, hq2, hq3, hq4, hq5, hq6]
    all_goals (rw [if_neg (by omega)]; exact ⟨rfl, rfl⟩)
  have HT : Hid (tickB n = true) := by unfold Hid; simpa using hq0
  have h1 : (r.st == 0) = false := by simpa using hq1
  have h2 : (r.st == 3) = false := by simpa using hq2
  obtain ⟨hn1, hn2⟩ := tickB_true HT.out
  have h3 : r.used + n ≤ 1099511627776 := by omega
  have h4 : r.cap ≤ 0 := by omega
  have h5 : decide (0 < r.cap) = false := by simp; omega
  clear hq0 hq1 hq2 hq3 hq4 hq5 hq6
  unfold Rf.cells
  go_enter Try.func73, Try.ntmps73
  go_wp2_with (go_at_call 112; refine (rtick_is HT.out _).mono ?_; rintro e w' ⟨rfl, rfl⟩)
  refine bodyPost_ret (v := .tuple #[.agg ({ r with used := r.used + n } : Rf).cells, .int .i64 (0)]) (by simp [results, Try.results73, go_sem, Rf.cells, freshR, relR]) rfl ⟨congrArg Ending.returned HE.out.symm, ?_⟩
  repeat first | with_reducible exact Below.refl _ _ | (with_reducible refine Below.alloc ?_ (by simp; try omega) _) | (with_reducible refine Below.setCell ?_ (by simp; try omega) _)

def setpR (n : Int) (r : Rf) : Rf × Int := if n < 1 then (r, 2) else if 63 < n then (r, 2) else if r.st = 0 then (r, 10) else ({ r with base := n }, 0)
set_option maxRecDepth 100000 in
set_option maxHeartbeats 1000000 in
theorem rsetp_any (r : Rf) (n : Int) (w : World) (hr : r.Ok) : Calls Try.prog 74 #[.agg r.cells, .int .i64 n] w fun e w' => e = .returned (.tuple #[.agg (setpR n r).1.cells, .int .i64 (setpR n r).2]) ∧ Below w.heap.size w w' := by
  obtain ⟨⟨hp1, hp2⟩, ⟨hc1, hc2⟩, ⟨hd1, hd2⟩, ⟨ho1, ho2⟩, ⟨hb1, hb2⟩, ⟨hu1, hu2⟩⟩ := hr
  by_cases hq0 : n < 1
  · have HE : Hid ((.tuple #[.agg (setpR n r).1.cells, .int .i64 (setpR n r).2] : Value) = .tuple #[.agg (r : Rf).cells, .int .i64 (2)]) := by
      unfold Hid
      simp only [setpR, Value.tuple.injEq]
      simp [hq0]
    have h1 : n < 1 := hq0
    clear hq0
    unfold Rf.cells
    go_enter Try.func74, Try.ntmps74
    go_wp2_with fail
    refine bodyPost_ret (v := .tuple #[.agg (r : Rf).cells, .int .i64 (2)]) (by simp [results, Try.results74, go_sem, Rf.cells, freshR, relR]) rfl ⟨congrArg Ending.returned HE.out.symm, ?_⟩
    repeat first | with_reducible exact Below.refl _ _ | (with_reducible refine Below.alloc ?_ (by simp; try omega) _) | (with_reducible refine Below.setCell ?_ (by simp; try omega) _)
  by_cases hq1 : 63 < n
  · have HE : Hid ((.tuple #[.agg (setpR n r).1.cells, .int .i64 (setpR n r).2] : Value) = .tuple #[.agg (r : Rf).cells, .int .i64 (2)]) := by
      unfold Hid
      simp only [setpR, Value.tuple.injEq]
      simp [hq0, hq1]
    have h1 : 1 ≤ n := by omega
    have h2 : 63 < n := hq1
    clear hq0 hq1
    unfold Rf.cells
    go_enter Try.func74, Try.ntmps74
    go_wp2_with fail
    refine bodyPost_ret (v := .tuple #[.agg (r : Rf).cells, .int .i64 (2)]) (by simp [results, Try.results74, go_sem, Rf.cells, freshR, relR]) rfl ⟨congrArg Ending.returned HE.out.symm, ?_⟩
    repeat first | with_reducible exact Below.refl _ _ | (with_reducible refine Below.alloc ?_ (by simp; try omega) _) | (with_reducible refine Below.setCell ?_ (by simp; try omega) _)
  by_cases hq2 : r.st = 0
  · have HE : Hid ((.tuple #[.agg (setpR n r).1.cells, .int .i64 (setpR n r).2] : Value) = .tuple #[.agg (r : Rf).cells, .int .i64 (10)]) := by
      unfold Hid
      simp only [setpR, Value.tuple.injEq]
      simp [hq0, hq1, hq2]
    have h1 : 1 ≤ n := by omega
    have h2 : n ≤ 63 := by omega
    have h3 : (r.st == 0) = true := by simpa using hq2
    clear hq0 hq1 hq2
    unfold Rf.cells
    go_enter Try.func74, Try.ntmps74
    go_wp2_with fail
    refine bodyPost_ret (v := .tuple #[.agg (r : Rf).cells, .int .i64 (10)]) (by simp [results, Try.results74, go_sem, Rf.cells, freshR, relR]) rfl ⟨congrArg Ending.returned HE.out.symm, ?_⟩
    repeat first | with_reducible exact Below.refl _ _ | (with_reducible refine Below.alloc ?_ (by simp; try omega) _) | (with_reducible refine Below.setCell ?_ (by simp; try omega) _)
  have HE : Hid ((.tuple #[.agg (setpR n r).1.cells, .int .i64 (setpR n r).2] : Value) = .tuple #[.agg ({ r with base := n } : Rf).cells, .int .i64 (0)]) := by
    unfold Hid
    simp only [setpR, Value.tuple.injEq]
    simp [hq0, hq1, hq2]
  have h1 : 1 ≤ n := by omega
  have h2 : n ≤ 63 := by omega
  have h3 : (r.st == 0) = false := by simpa using hq2
  clear hq0 hq1 hq2
  unfold Rf.cells
  go_enter Try.func74, Try.ntmps74
  go_wp2_with fail
  refine bodyPost_ret (v := .tuple #[.agg ({ r with base := n } : Rf).cells, .int .i64 (0)]) (by simp [results, Try.results74, go_sem, Rf.cells, freshR, relR]) rfl ⟨congrArg Ending.returned HE.out.symm, ?_⟩
  repeat first | with_reducible exact Below.refl _ _ | (with_reducible refine Below.alloc ?_ (by simp; try omega) _) | (with_reducible refine Below.setCell ?_ (by simp; try omega) _)

def raisR (n : Int) (r : Rf) : Rf × Int := if n < 0 then (r, 2) else if 63 < n then (r, 2) else if r.st = 0 then (r, 10) else ({ r with raised := n }, 0)
set_option maxRecDepth 100000 in
set_option maxHeartbeats 1000000 in
theorem rrais_any (r : Rf) (n : Int) (w : World) (hr : r.Ok) : Calls Try.prog 75 #[.agg r.cells, .int .i64 n] w fun e w' => e = .returned (.tuple #[.agg (raisR n r).1.cells, .int .i64 (raisR n r).2]) ∧ Below w.heap.size w w' := by
  obtain ⟨⟨hp1, hp2⟩, ⟨hc1, hc2⟩, ⟨hd1, hd2⟩, ⟨ho1, ho2⟩, ⟨hb1, hb2⟩, ⟨hu1, hu2⟩⟩ := hr
  by_cases hq0 : n < 0
  · have HE : Hid ((.tuple #[.agg (raisR n r).1.cells, .int .i64 (raisR n r).2] : Value) = .tuple #[.agg (r : Rf).cells, .int .i64 (2)]) := by
      unfold Hid
      simp only [raisR, Value.tuple.injEq]
      simp [hq0]
    have h1 : n < 0 := hq0
    clear hq0
    unfold Rf.cells
    go_enter Try.func75, Try.ntmps75
    go_wp2_with fail
    refine bodyPost_ret (v := .tuple #[.agg (r : Rf).cells, .int .i64 (2)]) (by simp [results, Try.results75, go_sem, Rf.cells, freshR, relR]) rfl ⟨congrArg Ending.returned HE.out.symm, ?_⟩
    repeat first | with_reducible exact Below.refl _ _ | (with_reducible refine Below.alloc ?_ (by simp; try omega) _) | (with_reducible refine Below.setCell ?_ (by simp; try omega) _)
  by_cases hq1 : 63 < n
  · have HE : Hid ((.tuple #[.agg (raisR n r).1.cells, .int .i64 (raisR n r).2] : Value) = .tuple #[.agg (r : Rf).cells, .int .i64 (2)]) := by
      unfold Hid
      simp only [raisR, Value.tuple.injEq]
      simp [hq0, hq1]
    have h1 : 0 ≤ n := by omega
    have h2 : 63 < n := hq1
    clear hq0 hq1
    unfold Rf.cells
    go_enter Try.func75, Try.ntmps75
    go_wp2_with fail
    refine bodyPost_ret (v := .tuple #[.agg (r : Rf).cells, .int .i64 (2)]) (by simp [results, Try.results75, go_sem, Rf.cells, freshR, relR]) rfl ⟨congrArg Ending.returned HE.out.symm, ?_⟩
    repeat first | with_reducible exact Below.refl _ _ | (with_reducible refine Below.alloc ?_ (by simp; try omega) _) | (with_reducible refine Below.setCell ?_ (by simp; try omega) _)
  by_cases hq2 : r.st = 0
  · have HE : Hid ((.tuple #[.agg (raisR n r).1.cells, .int .i64 (raisR n r).2] : Value) = .tuple #[.agg (r : Rf).cells, .int .i64 (10)]) := by
      unfold Hid
      simp only [raisR, Value.tuple.injEq]
      simp [hq0, hq1, hq2]
    have h1 : 0 ≤ n := by omega
    have h2 : n ≤ 63 := by omega
    have h3 : (r.st == 0) = true := by simpa using hq2
    clear hq0 hq1 hq2
    unfold Rf.cells
    go_enter Try.func75, Try.ntmps75
    go_wp2_with fail
    refine bodyPost_ret (v := .tuple #[.agg (r : Rf).cells, .int .i64 (10)]) (by simp [results, Try.results75, go_sem, Rf.cells, freshR, relR]) rfl ⟨congrArg Ending.returned HE.out.symm, ?_⟩
    repeat first | with_reducible exact Below.refl _ _ | (with_reducible refine Below.alloc ?_ (by simp; try omega) _) | (with_reducible refine Below.setCell ?_ (by simp; try omega) _)
  have HE : Hid ((.tuple #[.agg (raisR n r).1.cells, .int .i64 (raisR n r).2] : Value) = .tuple #[.agg ({ r with raised := n } : Rf).cells, .int .i64 (0)]) := by
    unfold Hid
    simp only [raisR, Value.tuple.injEq]
    simp [hq0, hq1, hq2]
  have h1 : 0 ≤ n := by omega
  have h2 : n ≤ 63 := by omega
  have h3 : (r.st == 0) = false := by simpa using hq2
  clear hq0 hq1 hq2
  unfold Rf.cells
  go_enter Try.func75, Try.ntmps75
  go_wp2_with fail
  refine bodyPost_ret (v := .tuple #[.agg ({ r with raised := n } : Rf).cells, .int .i64 (0)]) (by simp [results, Try.results75, go_sem, Rf.cells, freshR, relR]) rfl ⟨congrArg Ending.returned HE.out.symm, ?_⟩
  repeat first | with_reducible exact Below.refl _ _ | (with_reducible refine Below.alloc ?_ (by simp; try omega) _) | (with_reducible refine Below.setCell ?_ (by simp; try omega) _)

end Go.Proofs.Ytgnjenmicojgnaa
