/-
  What the document's functions on one process answer, by value, under the bounds that a process keeps.
-/
import Derived.Test.YtgnjenmicojgnaaB9
namespace Go.Proofs.Ytgnjenmicojgnaa
set_option linter.unusedVariables false
set_option linter.unusedSimpArgs false
open Go.RowKit

/-- A process of the document. -/
structure Rf where
  pri : Int
  per : Int
  cap : Int
  dl : Int
  off : Int
  st : Int
  held : Bool
  til : Int
  beg : Int
  used : Int
  missed : Bool
  base : Int
  raised : Int

def Rf.cells (r : Rf) : Array Value := #[.int .i64 r.pri, .int .i64 r.per, .int .i64 r.cap, .int .i64 r.dl, .int .i64 r.off, .int .i64 r.st, .bool r.held, .int .i64 r.til, .int .i64 r.beg, .int .i64 r.used, .bool r.missed, .int .i64 r.base, .int .i64 r.raised]

/-- The bounds under which the document's sums don't wrap. -/
structure Rf.Ok (r : Rf) : Prop where
  per : 0 ≤ r.per ∧ r.per ≤ 1048576
  cap : 0 ≤ r.cap ∧ r.cap ≤ 1048576
  dl : 0 ≤ r.dl ∧ r.dl ≤ 1048576
  off : 0 ≤ r.off ∧ r.off ≤ 1048576
  beg : 0 ≤ r.beg ∧ r.beg ≤ 1099511627776
  used : 0 ≤ r.used ∧ r.used ≤ 1099511627776

def freshR (r : Rf) : Rf := { r with st := 0, held := false, til := 0, beg := 0, used := 0, missed := false, base := r.pri, raised := 0 }
def relR (n : Int) (r : Rf) : Rf := { r with st := 1, til := 0, beg := n, used := 0, missed := false }
def rstate (r : Rf) : Int := if r.st ≠ 0 ∧ r.held = true then 4 else r.st
def rfree (r : Rf) : Bool := r.st == 1 && !r.held

set_option maxHeartbeats 400000 in
theorem rtick_any (n : Int) (w : World) : Calls Try.prog 112 #[.int .i64 n] w fun e w' => e = .returned (.bool (tickB n)) ∧ w = w' := by
  unfold tickB inB
  by_cases h : 0 ≤ n
  · go_enter Try.func112, Try.ntmps112
    go_wp2
    go_ret
    exact ⟨ret_bool (by simp [h]), rfl⟩
  · have h' : n < 0 := by omega
    go_enter Try.func112, Try.ntmps112
    go_wp2
    go_ret
    exact ⟨ret_bool (by simp; omega), rfl⟩

theorem rtick_is {n : Int} {b : Bool} (h : tickB n = b) (w : World) : Calls Try.prog 112 #[.int .i64 n] w fun e w' => e = .returned (.bool b) ∧ w = w' := by
  subst h; exact rtick_any n w

set_option maxRecDepth 100000 in
set_option maxHeartbeats 400000 in
theorem rfresh_any (r : Rf) (w : World) : Calls Try.prog 111 #[.agg #[.int .i64 r.pri, .int .i64 r.per, .int .i64 r.cap, .int .i64 r.dl, .int .i64 r.off]] w fun e w' => e = .returned (.agg #[.int .i64 r.pri, .int .i64 r.per, .int .i64 r.cap, .int .i64 r.dl, .int .i64 r.off, .int .i64 0, .bool false, .int .i64 0, .int .i64 0, .int .i64 0, .bool false, .int .i64 r.pri, .int .i64 0]) ∧ ∃ o1 o2, (w.alloc o1).alloc o2 = w' := by
  go_enter Try.func111, Try.ntmps111
  go_wp2
  refine bodyPost_ret (v := .agg (freshR r).cells) (by simp [results, Try.results111, go_sem, freshR, Rf.cells]) rfl ?_
  exact ⟨rfl, _, _, rfl⟩

set_option maxRecDepth 100000 in
set_option maxHeartbeats 400000 in
theorem rrel_any (r : Rf) (n : Int) (w : World) : Calls Try.prog 113 #[.agg r.cells, .int .i64 n] w fun e w' => e = .returned (.agg #[.int .i64 r.pri, .int .i64 r.per, .int .i64 r.cap, .int .i64 r.dl, .int .i64 r.off, .int .i64 1, .bool r.held, .int .i64 0, .int .i64 n, .int .i64 0, .bool false, .int .i64 r.base, .int .i64 r.raised]) ∧ ∃ o1 o2, (w.alloc o1).alloc o2 = w' := by
  unfold Rf.cells
  go_enter Try.func113, Try.ntmps113
  go_wp2
  refine bodyPost_ret (v := .agg (relR n r).cells) (by simp [results, Try.results113, go_sem, relR, Rf.cells]) rfl ?_
  exact ⟨rfl, _, _, rfl⟩

set_option maxRecDepth 100000 in
set_option maxHeartbeats 400000 in
theorem rstate_any (r : Rf) (w : World) : Calls Try.prog 94 #[.agg r.cells] w fun e w' => e = .returned (.int .i64 (rstate r)) ∧ ∃ o1, w.alloc o1 = w' := by
  unfold Rf.cells
  have hcs : (r.st != 0) = false ∨ ((r.st != 0) = true ∧ r.held = true) ∨ ((r.st != 0) = true ∧ r.held = false) := by cases r.st != 0 <;> cases r.held <;> simp
  rcases hcs with h | ⟨h, h2⟩ | ⟨h, h2⟩
  all_goals
    go_enter Try.func94, Try.ntmps94
    go_wp2
    go_ret
    exact ⟨ret_int (by simp_all [rstate]), _, rfl⟩

theorem rstate_is {r : Rf} {k : Int} (h : rstate r = k) (w : World) : Calls Try.prog 94 #[.agg r.cells] w fun e w' => e = .returned (.int .i64 k) ∧ ∃ o1, w.alloc o1 = w' := by
  subst h; exact rstate_any r w

def startR (n : Int) (r : Rf) : Rf × Int :=
  if tickB n = false then (r, 2) else if ¬ r.st = 0 then (r, 10) else if r.off = 0 then (relR n (freshR r), 0) else ({ freshR r with st := 3, til := n + r.off }, 0)

set_option maxRecDepth 100000 in
set_option maxHeartbeats 1000000 in
theorem rstart_any (r : Rf) (n : Int) (w : World) (hr : r.Ok) : Calls Try.prog 66 #[.agg r.cells, .int .i64 n] w fun e w' => e = .returned (.tuple #[.agg (startR n r).1.cells, .int .i64 (startR n r).2]) ∧ Below w.heap.size w w' := by
  obtain ⟨⟨hp1, hp2⟩, ⟨hc1, hc2⟩, ⟨hd1, hd2⟩, ⟨ho1, ho2⟩, ⟨hb1, hb2⟩, ⟨hu1, hu2⟩⟩ := hr
  by_cases hq0 : tickB n = false
  · have HE : Hid ((.tuple #[.agg (startR n r).1.cells, .int .i64 (startR n r).2] : Value) = .tuple #[.agg (r : Rf).cells, .int .i64 (2)]) := by
      unfold Hid
      simp only [startR, Value.tuple.injEq]
      simp [hq0]
    have HT : Hid (tickB n = false) := by unfold Hid; exact hq0
    clear hq0
    unfold Rf.cells
    go_enter Try.func66, Try.ntmps66
    go_wp2_with (go_at_call 112; refine (rtick_is HT.out _).mono ?_; rintro e w' ⟨rfl, rfl⟩)
    refine bodyPost_ret (v := .tuple #[.agg (r : Rf).cells, .int .i64 (2)]) (by simp [results, Try.results66, go_sem, Rf.cells, freshR, relR]) rfl ⟨congrArg Ending.returned HE.out.symm, ?_⟩
    repeat first | with_reducible exact Below.refl _ _ | (with_reducible refine Below.alloc ?_ (by simp; try omega) _) | (with_reducible refine Below.setCell ?_ (by simp; try omega) _)
  by_cases hq1 : ¬ r.st = 0
  · have HE : Hid ((.tuple #[.agg (startR n r).1.cells, .int .i64 (startR n r).2] : Value) = .tuple #[.agg (r : Rf).cells, .int .i64 (10)]) := by
      unfold Hid
      simp only [startR, Value.tuple.injEq]
      simp [hq0, hq1]
    have HT : Hid (tickB n = true) := by unfold Hid; simpa using hq0
    have h1 : (r.st != 0) = true := by simpa using hq1
    clear hq0 hq1
    unfold Rf.cells
    go_enter Try.func66, Try.ntmps66
    go_wp2_with (go_at_call 112; refine (rtick_is HT.out _).mono ?_; rintro e w' ⟨rfl, rfl⟩)
    refine bodyPost_ret (v := .tuple #[.agg (r : Rf).cells, .int .i64 (10)]) (by simp [results, Try.results66, go_sem, Rf.cells, freshR, relR]) rfl ⟨congrArg Ending.returned HE.out.symm, ?_⟩
    repeat first | with_reducible exact Below.refl _ _ | (with_reducible refine Below.alloc ?_ (by simp; try omega) _) | (with_reducible refine Below.setCell ?_ (by simp; try omega) _)
  by_cases hq2 : r.off = 0
  · have HE : Hid ((.tuple #[.agg (startR n r).1.cells, .int .i64 (startR n r).2] : Value) = .tuple #[.agg (relR n (freshR r) : Rf).cells, .int .i64 (0)]) := by
      unfold Hid
      simp only [startR, Value.tuple.injEq]
      simp [hq0, hq1, hq2]
    have HT : Hid (tickB n = true) := by unfold Hid; simpa using hq0
    have h1 : (r.st != 0) = false := by simpa using hq1
    have h2 : (r.off == 0) = true := by simpa using hq2
    clear hq0 hq1 hq2
    unfold Rf.cells
    go_enter Try.func66, Try.ntmps66
    go_wp2_with (first | (go_at_call 112; refine (rtick_is HT.out _).mono ?_; rintro e w' ⟨rfl, rfl⟩) | (go_at_call 111; refine (rfresh_any r _).mono ?_; rintro e w' ⟨rfl, o1, o2, rfl⟩) | (go_at_call 113; refine (rrel_any (freshR r) n _).mono ?_; rintro e w' ⟨rfl, o3, o4, rfl⟩))
    refine bodyPost_ret (v := .tuple #[.agg (relR n (freshR r) : Rf).cells, .int .i64 (0)]) (by simp [results, Try.results66, go_sem, Rf.cells, freshR, relR]) rfl ⟨congrArg Ending.returned HE.out.symm, ?_⟩
    repeat first | with_reducible exact Below.refl _ _ | (with_reducible refine Below.alloc ?_ (by simp; try omega) _) | (with_reducible refine Below.setCell ?_ (by simp; try omega) _)
  have HE : Hid ((.tuple #[.agg (startR n r).1.cells, .int .i64 (startR n r).2] : Value) = .tuple #[.agg ({ freshR r with st := 3, til := n + r.off } : Rf).cells, .int .i64 (0)]) := by
    unfold Hid
    simp only [startR, Value.tuple.injEq]
    simp [hq0, hq1, hq2]
  have HT : Hid (tickB n = true) := by unfold Hid; simpa using hq0
  have h1 : (r.st != 0) = false := by simpa using hq1
  have h2 : (r.off == 0) = false := by simpa using hq2
  obtain ⟨hn1, hn2⟩ := tickB_true HT.out
  clear hq0 hq1 hq2
  unfold Rf.cells
  go_enter Try.func66, Try.ntmps66
  go_wp2_with (first | (go_at_call 112; refine (rtick_is HT.out _).mono ?_; rintro e w' ⟨rfl, rfl⟩) | (go_at_call 111; refine (rfresh_any r _).mono ?_; rintro e w' ⟨rfl, o1, o2, rfl⟩))
  refine bodyPost_ret (v := .tuple #[.agg ({ freshR r with st := 3, til := n + r.off } : Rf).cells, .int .i64 (0)]) (by simp [results, Try.results66, go_sem, Rf.cells, freshR, relR]) rfl ⟨congrArg Ending.returned HE.out.symm, ?_⟩
  repeat first | with_reducible exact Below.refl _ _ | (with_reducible refine Below.alloc ?_ (by simp; try omega) _) | (with_reducible refine Below.setCell ?_ (by simp; try omega) _)

def stopR (r : Rf) : Rf × Int := if r.st = 0 then (r, 10) else (freshR r, 0)
set_option maxRecDepth 100000 in
set_option maxHeartbeats 1000000 in
theorem rstop_any (r : Rf) (w : World) (hr : r.Ok) : Calls Try.prog 67 #[.agg r.cells] w fun e w' => e = .returned (.tuple #[.agg (stopR r).1.cells, .int .i64 (stopR r).2]) ∧ Below w.heap.size w w' := by
  obtain ⟨⟨hp1, hp2⟩, ⟨hc1, hc2⟩, ⟨hd1, hd2⟩, ⟨ho1, ho2⟩, ⟨hb1, hb2⟩, ⟨hu1, hu2⟩⟩ := hr
  by_cases hq0 : r.st = 0
  · have HE : Hid ((.tuple #[.agg (stopR r).1.cells, .int .i64 (stopR r).2] : Value) = .tuple #[.agg (r : Rf).cells, .int .i64 (10)]) := by
      unfold Hid
      simp only [stopR, Value.tuple.injEq]
      simp [hq0]
    have h1 : (r.st == 0) = true := by simpa using hq0
    clear hq0
    unfold Rf.cells
    go_enter Try.func67, Try.ntmps67
    go_wp2_with fail
    refine bodyPost_ret (v := .tuple #[.agg (r : Rf).cells, .int .i64 (10)]) (by simp [results, Try.results67, go_sem, Rf.cells, freshR, relR]) rfl ⟨congrArg Ending.returned HE.out.symm, ?_⟩
    repeat first | with_reducible exact Below.refl _ _ | (with_reducible refine Below.alloc ?_ (by simp; try omega) _) | (with_reducible refine Below.setCell ?_ (by simp; try omega) _)
  have HE : Hid ((.tuple #[.agg (stopR r).1.cells, .int .i64 (stopR r).2] : Value) = .tuple #[.agg (freshR r : Rf).cells, .int .i64 (0)]) := by
    unfold Hid
    simp only [stopR, Value.tuple.injEq]
    simp [hq0]
  have h1 : (r.st == 0) = false := by simpa using hq0
  clear hq0
  unfold Rf.cells
  go_enter Try.func67, Try.ntmps67
  go_wp2_with (go_at_call 111; refine (rfresh_any r _).mono ?_; rintro e w' ⟨rfl, o1, o2, rfl⟩)
  refine bodyPost_ret (v := .tuple #[.agg (freshR r : Rf).cells, .int .i64 (0)]) (by simp [results, Try.results67, go_sem, Rf.cells, freshR, relR]) rfl ⟨congrArg Ending.returned HE.out.symm, ?_⟩
  repeat first | with_reducible exact Below.refl _ _ | (with_reducible refine Below.alloc ?_ (by simp; try omega) _) | (with_reducible refine Below.setCell ?_ (by simp; try omega) _)

def holdR (b : Bool) (r : Rf) : Rf × Int := if r.st = 0 then (r, 10) else if r.held = b then (r, 10) else ({ r with held := b }, 0)
set_option maxRecDepth 100000 in
set_option maxHeartbeats 1000000 in
theorem rhold_any (r : Rf) (b : Bool) (w : World) (hr : r.Ok) : Calls Try.prog 68 #[.agg r.cells, .bool b] w fun e w' => e = .returned (.tuple #[.agg (holdR b r).1.cells, .int .i64 (holdR b r).2]) ∧ Below w.heap.size w w' := by
  obtain ⟨⟨hp1, hp2⟩, ⟨hc1, hc2⟩, ⟨hd1, hd2⟩, ⟨ho1, ho2⟩, ⟨hb1, hb2⟩, ⟨hu1, hu2⟩⟩ := hr
  by_cases hq0 : r.st = 0
  · have HE : Hid ((.tuple #[.agg (holdR b r).1.cells, .int .i64 (holdR b r).2] : Value) = .tuple #[.agg (r : Rf).cells, .int .i64 (10)]) := by
      unfold Hid
      simp only [holdR, Value.tuple.injEq]
      simp [hq0]
    have h1 : (r.st == 0) = true := by simpa using hq0
    clear hq0
    unfold Rf.cells
    go_enter Try.func68, Try.ntmps68
    go_wp2_with fail
    refine bodyPost_ret (v := .tuple #[.agg (r : Rf).cells, .int .i64 (10)]) (by simp [results, Try.results68, go_sem, Rf.cells, freshR, relR]) rfl ⟨congrArg Ending.returned HE.out.symm, ?_⟩
    repeat first | with_reducible exact Below.refl _ _ | (with_reducible refine Below.alloc ?_ (by simp; try omega) _) | (with_reducible refine Below.setCell ?_ (by simp; try omega) _)
  by_cases hq1 : r.held = b
  · have HE : Hid ((.tuple #[.agg (holdR b r).1.cells, .int .i64 (holdR b r).2] : Value) = .tuple #[.agg (r : Rf).cells, .int .i64 (10)]) := by
      unfold Hid
      simp only [holdR, Value.tuple.injEq]
      simp [hq0, hq1]
    have h1 : (r.st == 0) = false := by simpa using hq0
    have h2 : (r.held == b) = true := by simpa using hq1
    clear hq0 hq1
    unfold Rf.cells
    go_enter Try.func68, Try.ntmps68
    go_wp2_with fail
    refine bodyPost_ret (v := .tuple #[.agg (r : Rf).cells, .int .i64 (10)]) (by simp [results, Try.results68, go_sem, Rf.cells, freshR, relR]) rfl ⟨congrArg Ending.returned HE.out.symm, ?_⟩
    repeat first | with_reducible exact Below.refl _ _ | (with_reducible refine Below.alloc ?_ (by simp; try omega) _) | (with_reducible refine Below.setCell ?_ (by simp; try omega) _)
  have HE : Hid ((.tuple #[.agg (holdR b r).1.cells, .int .i64 (holdR b r).2] : Value) = .tuple #[.agg ({ r with held := b } : Rf).cells, .int .i64 (0)]) := by
    unfold Hid
    simp only [holdR, Value.tuple.injEq]
    simp [hq0, hq1]
  have h1 : (r.st == 0) = false := by simpa using hq0
  have h2 : (r.held == b) = false := by simpa using hq1
  clear hq0 hq1
  unfold Rf.cells
  go_enter Try.func68, Try.ntmps68
  go_wp2_with fail
  refine bodyPost_ret (v := .tuple #[.agg ({ r with held := b } : Rf).cells, .int .i64 (0)]) (by simp [results, Try.results68, go_sem, Rf.cells, freshR, relR]) rfl ⟨congrArg Ending.returned HE.out.symm, ?_⟩
  repeat first | with_reducible exact Below.refl _ _ | (with_reducible refine Below.alloc ?_ (by simp; try omega) _) | (with_reducible refine Below.setCell ?_ (by simp; try omega) _)

def waitR (n : Int) (r : Rf) : Rf × Int := if 1099511627776 < n then (r, 2) else if ¬ rstate r = 1 then (r, 10) else if n < 0 then ({ r with st := 2, til := -1 }, 0) else ({ r with st := 2, til := n }, 0)
set_option maxRecDepth 100000 in
set_option maxHeartbeats 1000000 in
theorem rwait_any (r : Rf) (n : Int) (w : World) (hr : r.Ok) : Calls Try.prog 69 #[.agg r.cells, .int .i64 n] w fun e w' => e = .returned (.tuple #[.agg (waitR n r).1.cells, .int .i64 (waitR n r).2]) ∧ Below w.heap.size w w' := by
  obtain ⟨⟨hp1, hp2⟩, ⟨hc1, hc2⟩, ⟨hd1, hd2⟩, ⟨ho1, ho2⟩, ⟨hb1, hb2⟩, ⟨hu1, hu2⟩⟩ := hr
  by_cases hq0 : 1099511627776 < n
  · have HE : Hid ((.tuple #[.agg (waitR n r).1.cells, .int .i64 (waitR n r).2] : Value) = .tuple #[.agg (r : Rf).cells, .int .i64 (2)]) := by
      unfold Hid
      simp only [waitR, Value.tuple.injEq]
      simp [hq0]
    have h1 : 1099511627776 < n := hq0
    clear hq0
    unfold Rf.cells
    go_enter Try.func69, Try.ntmps69
    go_wp2_with fail
    refine bodyPost_ret (v := .tuple #[.agg (r : Rf).cells, .int .i64 (2)]) (by simp [results, Try.results69, go_sem, Rf.cells, freshR, relR]) rfl ⟨congrArg Ending.returned HE.out.symm, ?_⟩
    repeat first | with_reducible exact Below.refl _ _ | (with_reducible refine Below.alloc ?_ (by simp; try omega) _) | (with_reducible refine Below.setCell ?_ (by simp; try omega) _)
  by_cases hq1 : ¬ rstate r = 1
  · have HE : Hid ((.tuple #[.agg (waitR n r).1.cells, .int .i64 (waitR n r).2] : Value) = .tuple #[.agg (r : Rf).cells, .int .i64 (10)]) := by
      unfold Hid
      simp only [waitR, Value.tuple.injEq]
      simp [hq0, hq1]
    have h1 : n ≤ 1099511627776 := by omega
    obtain ⟨ks, hks⟩ : ∃ ks, rstate r = ks := ⟨_, rfl⟩
    have HS := Lib.hid hks
    have h2 : (ks != 1) = true := by rw [← hks]; simpa using hq1
    clear hks
    clear hq0 hq1
    unfold Rf.cells
    go_enter Try.func69, Try.ntmps69
    go_wp2_with (go_at_call 94; refine (rstate_is HS.out _).mono ?_; rintro e w' ⟨rfl, o5, rfl⟩)
    refine bodyPost_ret (v := .tuple #[.agg (r : Rf).cells, .int .i64 (10)]) (by simp [results, Try.results69, go_sem, Rf.cells, freshR, relR]) rfl ⟨congrArg Ending.returned HE.out.symm, ?_⟩
    repeat first | with_reducible exact Below.refl _ _ | (with_reducible refine Below.alloc ?_ (by simp; try omega) _) | (with_reducible refine Below.setCell ?_ (by simp; try omega) _)
  by_cases hq2 : n < 0
  · have HE : Hid ((.tuple #[.agg (waitR n r).1.cells, .int .i64 (waitR n r).2] : Value) = .tuple #[.agg ({ r with st := 2, til := -1 } : Rf).cells, .int .i64 (0)]) := by
      unfold Hid
      simp only [waitR, Value.tuple.injEq]
      simp [hq0, hq1, hq2]
    have h1 : n ≤ 1099511627776 := by omega
    have HS : Hid (rstate r = 1) := by unfold Hid; omega
    have h2 : n < 0 := hq2
    clear hq0 hq1 hq2
    unfold Rf.cells
    go_enter Try.func69, Try.ntmps69
    go_wp2_with (go_at_call 94; refine (rstate_is HS.out _).mono ?_; rintro e w' ⟨rfl, o5, rfl⟩)
    refine bodyPost_ret (v := .tuple #[.agg ({ r with st := 2, til := -1 } : Rf).cells, .int .i64 (0)]) (by simp [results, Try.results69, go_sem, Rf.cells, freshR, relR]) rfl ⟨congrArg Ending.returned HE.out.symm, ?_⟩
    repeat first | with_reducible exact Below.refl _ _ | (with_reducible refine Below.alloc ?_ (by simp; try omega) _) | (with_reducible refine Below.setCell ?_ (by simp; try omega) _)
  have HE : Hid ((.tuple #[.agg (waitR n r).1.cells, .int .i64 (waitR n r).2] : Value) = .tuple #[.agg ({ r with st := 2, til := n } : Rf).cells, .int .i64 (0)]) := by
    unfold Hid
    simp only [waitR, Value.tuple.injEq]
    simp [hq0, hq1, hq2]
  have h1 : n ≤ 1099511627776 := by omega
  have HS : Hid (rstate r = 1) := by unfold Hid; omega
  have h2 : 0 ≤ n := by omega
  clear hq0 hq1 hq2
  unfold Rf.cells
  go_enter Try.func69, Try.ntmps69
  go_wp2_with (go_at_call 94; refine (rstate_is HS.out _).mono ?_; rintro e w' ⟨rfl, o5, rfl⟩)
  refine bodyPost_ret (v := .tuple #[.agg ({ r with st := 2, til := n } : Rf).cells, .int .i64 (0)]) (by simp [results, Try.results69, go_sem, Rf.cells, freshR, relR]) rfl ⟨congrArg Ending.returned HE.out.symm, ?_⟩
  repeat first | with_reducible exact Below.refl _ _ | (with_reducible refine Below.alloc ?_ (by simp; try omega) _) | (with_reducible refine Below.setCell ?_ (by simp; try omega) _)

def wakeR (r : Rf) : Rf × Int := if ¬ r.st = 2 then (r, 10) else ({ r with st := 1, til := 0 }, 0)
set_option maxRecDepth 100000 in
set_option maxHeartbeats 1000000 in
theorem rwake_any (r : Rf) (w : World) (hr : r.Ok) : Calls Try.prog 70 #[.agg r.cells] w fun e w' => e = .returned (.tuple #[.agg (wakeR r).1.cells, .int .i64 (wakeR r).2]) ∧ Below w.heap.size w w' := by
  obtain ⟨⟨hp1, hp2⟩, ⟨hc1, hc2⟩, ⟨hd1, hd2⟩, ⟨ho1, ho2⟩, ⟨hb1, hb2⟩, ⟨hu1, hu2⟩⟩ := hr
  by_cases hq0 : ¬ r.st = 2
  · have HE : Hid ((.tuple #[.agg (wakeR r).1.cells, .int .i64 (wakeR r).2] : Value) = .tuple #[.agg (r : Rf).cells, .int .i64 (10)]) := by
      unfold Hid
      simp only [wakeR, Value.tuple.injEq]
      simp [hq0]
    have h1 : (r.st != 2) = true := by simpa using hq0
    clear hq0
    unfold Rf.cells
    go_enter Try.func70, Try.ntmps70
    go_wp2_with fail
    refine bodyPost_ret (v := .tuple #[.agg (r : Rf).cells, .int .i64 (10)]) (by simp [results, Try.results70, go_sem, Rf.cells, freshR, relR]) rfl ⟨congrArg Ending.returned HE.out.symm, ?_⟩
    repeat first | with_reducible exact Below.refl _ _ | (with_reducible refine Below.alloc ?_ (by simp; try omega) _) | (with_reducible refine Below.setCell ?_ (by simp; try omega) _)
  have HE : Hid ((.tuple #[.agg (wakeR r).1.cells, .int .i64 (wakeR r).2] : Value) = .tuple #[.agg ({ r with st := 1, til := 0 } : Rf).cells, .int .i64 (0)]) := by
    unfold Hid
    simp only [wakeR, Value.tuple.injEq]
    simp [hq0]
  have h1 : (r.st != 2) = false := by simpa using hq0
  clear hq0
  unfold Rf.cells
  go_enter Try.func70, Try.ntmps70
  go_wp2_with fail
  refine bodyPost_ret (v := .tuple #[.agg ({ r with st := 1, til := 0 } : Rf).cells, .int .i64 (0)]) (by simp [results, Try.results70, go_sem, Rf.cells, freshR, relR]) rfl ⟨congrArg Ending.returned HE.out.symm, ?_⟩
  repeat first | with_reducible exact Below.refl _ _ | (with_reducible refine Below.alloc ?_ (by simp; try omega) _) | (with_reducible refine Below.setCell ?_ (by simp; try omega) _)

end Go.Proofs.Ytgnjenmicojgnaa
