/-
  What the document's readers answer of one process.
-/
import Derived.Test.YtgnjenmicojgnaaD0
namespace Go.Proofs.Ytgnjenmicojgnaa
set_option linter.unusedVariables false
set_option linter.unusedSimpArgs false
open Go.RowKit

def rused (r : Rf) : Int := if r.st = 0 ∨ r.st = 3 then 0 else r.used
def rleft (r : Rf) : Int := if r.cap = 0 then -1 else max (r.cap - rused r) 0
def rcur (r : Rf) : Int := if r.base < r.raised then r.raised else r.base
def runtilB (r : Rf) : Bool := (r.st == 2 || r.st == 3) && decide (0 ≤ r.til)
def runtil (r : Rf) : Int := if runtilB r = true then r.til else 0
def bareR (r : Rf) : Rf :=
  if r.st = 0 then freshR r
  else if r.st = 3 then { r with beg := 0, used := 0, missed := false }
  else if r.st = 1 then { r with til := 0 }
  else r

set_option maxRecDepth 100000 in
set_option maxHeartbeats 1000000 in
theorem rused_any (r : Rf) (w : World) :
    Calls Try.prog 114 #[.agg r.cells] w fun e w' => e = .returned (.int .i64 (rused r)) ∧ Below w.heap.size w w' := by
  by_cases hq0 : r.st = 0
  · have HE : Hid ((.int .i64 (rused r) : Value) = .int .i64 0) := by
      unfold Hid
      unfold rused
      rw [if_pos (.inl hq0)]
    have b0 : (r.st == 0) = true := by simp; omega
    clear hq0
    unfold Rf.cells
    go_enter Try.func114, Try.ntmps114
    go_wp2
    first
      | (go_ret
         refine ⟨congrArg Ending.returned HE.out.symm, ?_⟩)
      | (refine bodyPost_ret (v := .int .i64 0) (by simp [results, Try.results114, go_sem, Rf.cells, freshR]) rfl ⟨congrArg Ending.returned HE.out.symm, ?_⟩)
    repeat first | with_reducible exact Below.refl _ _ | (with_reducible refine Below.alloc ?_ (by simp; try omega) _) | (with_reducible refine Below.setCell ?_ (by simp; try omega) _)
  by_cases hq1 : r.st = 3
  · have HE : Hid ((.int .i64 (rused r) : Value) = .int .i64 0) := by
      unfold Hid
      unfold rused
      rw [if_pos (.inr hq1)]
    have b0 : (r.st == 0) = false := by simp; omega
    have b3 : (r.st == 3) = true := by simp; omega
    clear hq0 hq1
    unfold Rf.cells
    go_enter Try.func114, Try.ntmps114
    go_wp2
    first
      | (go_ret
         refine ⟨congrArg Ending.returned HE.out.symm, ?_⟩)
      | (refine bodyPost_ret (v := .int .i64 0) (by simp [results, Try.results114, go_sem, Rf.cells, freshR]) rfl ⟨congrArg Ending.returned HE.out.symm, ?_⟩)
    repeat first | with_reducible exact Below.refl _ _ | (with_reducible refine Below.alloc ?_ (by simp; try omega) _) | (with_reducible refine Below.setCell ?_ (by simp; try omega) _)
  have HE : Hid ((.int .i64 (rused r) : Value) = .int .i64 r.used) := by
    unfold Hid
    unfold rused
    rw [if_neg (by omega)]
  have b0 : (r.st == 0) = false := by simp; omega
  have b3 : (r.st == 3) = false := by simp; omega
  clear hq0 hq1
  unfold Rf.cells
  go_enter Try.func114, Try.ntmps114
  go_wp2
  first
    | (go_ret
       refine ⟨congrArg Ending.returned HE.out.symm, ?_⟩)
    | (refine bodyPost_ret (v := .int .i64 r.used) (by simp [results, Try.results114, go_sem, Rf.cells, freshR]) rfl ⟨congrArg Ending.returned HE.out.symm, ?_⟩)
  repeat first | with_reducible exact Below.refl _ _ | (with_reducible refine Below.alloc ?_ (by simp; try omega) _) | (with_reducible refine Below.setCell ?_ (by simp; try omega) _)

set_option maxRecDepth 100000 in
set_option maxHeartbeats 1000000 in
theorem rcur_any (r : Rf) (w : World) :
    Calls Try.prog 96 #[.agg r.cells] w fun e w' => e = .returned (.int .i64 (rcur r)) ∧ Below w.heap.size w w' := by
  by_cases hq0 : r.base < r.raised
  · have HE : Hid ((.int .i64 (rcur r) : Value) = .int .i64 r.raised) := by
      unfold Hid
      unfold rcur
      rw [if_pos hq0]
    have h0 : r.base < r.raised := hq0
    clear hq0
    unfold Rf.cells
    go_enter Try.func96, Try.ntmps96
    go_wp2
    first
      | (go_ret
         refine ⟨congrArg Ending.returned HE.out.symm, ?_⟩)
      | (refine bodyPost_ret (v := .int .i64 r.raised) (by simp [results, Try.results96, go_sem, Rf.cells, freshR]) rfl ⟨congrArg Ending.returned HE.out.symm, ?_⟩)
    repeat first | with_reducible exact Below.refl _ _ | (with_reducible refine Below.alloc ?_ (by simp; try omega) _) | (with_reducible refine Below.setCell ?_ (by simp; try omega) _)
  have HE : Hid ((.int .i64 (rcur r) : Value) = .int .i64 r.base) := by
    unfold Hid
    unfold rcur
    rw [if_neg hq0]
  have h0 : r.raised ≤ r.base := by omega
  clear hq0
  unfold Rf.cells
  go_enter Try.func96, Try.ntmps96
  go_wp2
  first
    | (go_ret
       refine ⟨congrArg Ending.returned HE.out.symm, ?_⟩)
    | (refine bodyPost_ret (v := .int .i64 r.base) (by simp [results, Try.results96, go_sem, Rf.cells, freshR]) rfl ⟨congrArg Ending.returned HE.out.symm, ?_⟩)
  repeat first | with_reducible exact Below.refl _ _ | (with_reducible refine Below.alloc ?_ (by simp; try omega) _) | (with_reducible refine Below.setCell ?_ (by simp; try omega) _)

set_option maxRecDepth 100000 in
set_option maxHeartbeats 1000000 in
theorem runtil_any (r : Rf) (w : World) :
    Calls Try.prog 93 #[.agg r.cells] w fun e w' => e = .returned (.tuple #[.int .i64 (runtil r), .bool (runtilB r)]) ∧ Below w.heap.size w w' := by
  by_cases hq0 : r.st = 2 ∧ 0 ≤ r.til
  · have HE : Hid ((.tuple #[.int .i64 (runtil r), .bool (runtilB r)] : Value) = .tuple #[.int .i64 r.til, .bool true]) := by
      unfold Hid
      have e : runtilB r = true := by unfold runtilB; simp [hq0.1, hq0.2]
      unfold runtil
      rw [e]
      rfl
    have h1 : 0 ≤ r.til := hq0.2
    have b2 : (r.st == 2) = true := by simp; omega
    clear hq0
    unfold Rf.cells
    go_enter Try.func93, Try.ntmps93
    go_wp2
    first
      | (go_ret
         refine ⟨congrArg Ending.returned HE.out.symm, ?_⟩)
      | (refine bodyPost_ret (v := .tuple #[.int .i64 r.til, .bool true]) (by simp [results, Try.results93, go_sem, Rf.cells, freshR]) rfl ⟨congrArg Ending.returned HE.out.symm, ?_⟩)
    repeat first | with_reducible exact Below.refl _ _ | (with_reducible refine Below.alloc ?_ (by simp; try omega) _) | (with_reducible refine Below.setCell ?_ (by simp; try omega) _)
  by_cases hq1 : r.st = 3 ∧ 0 ≤ r.til
  · have HE : Hid ((.tuple #[.int .i64 (runtil r), .bool (runtilB r)] : Value) = .tuple #[.int .i64 r.til, .bool true]) := by
      unfold Hid
      have e : runtilB r = true := by unfold runtilB; simp [hq1.1, hq1.2]
      unfold runtil
      rw [e]
      rfl
    have h1 : 0 ≤ r.til := hq1.2
    have b2 : (r.st == 2) = false := by simp; omega
    have b3 : (r.st == 3) = true := by simp; omega
    clear hq0 hq1
    unfold Rf.cells
    go_enter Try.func93, Try.ntmps93
    go_wp2
    first
      | (go_ret
         refine ⟨congrArg Ending.returned HE.out.symm, ?_⟩)
      | (refine bodyPost_ret (v := .tuple #[.int .i64 r.til, .bool true]) (by simp [results, Try.results93, go_sem, Rf.cells, freshR]) rfl ⟨congrArg Ending.returned HE.out.symm, ?_⟩)
    repeat first | with_reducible exact Below.refl _ _ | (with_reducible refine Below.alloc ?_ (by simp; try omega) _) | (with_reducible refine Below.setCell ?_ (by simp; try omega) _)
  by_cases hq2 : r.st = 2
  · have HE : Hid ((.tuple #[.int .i64 (runtil r), .bool (runtilB r)] : Value) = .tuple #[.int .i64 0, .bool false]) := by
      unfold Hid
      have e : runtilB r = false := by unfold runtilB; simp; omega
      unfold runtil
      rw [e]
      rfl
    have h1 : r.til < 0 := by omega
    have b2 : (r.st == 2) = true := by simp; omega
    clear hq0 hq1 hq2
    unfold Rf.cells
    go_enter Try.func93, Try.ntmps93
    go_wp2
    first
      | (go_ret
         refine ⟨congrArg Ending.returned HE.out.symm, ?_⟩)
      | (refine bodyPost_ret (v := .tuple #[.int .i64 0, .bool false]) (by simp [results, Try.results93, go_sem, Rf.cells, freshR]) rfl ⟨congrArg Ending.returned HE.out.symm, ?_⟩)
    repeat first | with_reducible exact Below.refl _ _ | (with_reducible refine Below.alloc ?_ (by simp; try omega) _) | (with_reducible refine Below.setCell ?_ (by simp; try omega) _)
  by_cases hq3 : r.st = 3
  · have HE : Hid ((.tuple #[.int .i64 (runtil r), .bool (runtilB r)] : Value) = .tuple #[.int .i64 0, .bool false]) := by
      unfold Hid
      have e : runtilB r = false := by unfold runtilB; simp; omega
      unfold runtil
      rw [e]
      rfl
    have h1 : r.til < 0 := by omega
    have b2 : (r.st == 2) = false := by simp; omega
    have b3 : (r.st == 3) = true := by simp; omega
    clear hq0 hq1 hq2 hq3
    unfold Rf.cells
    go_enter Try.func93, Try.ntmps93
    go_wp2
    first
      | (go_ret
         refine ⟨congrArg Ending.returned HE.out.symm, ?_⟩)
      | (refine bodyPost_ret (v := .tuple #[.int .i64 0, .bool false]) (by simp [results, Try.results93, go_sem, Rf.cells, freshR]) rfl ⟨congrArg Ending.returned HE.out.symm, ?_⟩)
    repeat first | with_reducible exact Below.refl _ _ | (with_reducible refine Below.alloc ?_ (by simp; try omega) _) | (with_reducible refine Below.setCell ?_ (by simp; try omega) _)
  have HE : Hid ((.tuple #[.int .i64 (runtil r), .bool (runtilB r)] : Value) = .tuple #[.int .i64 0, .bool false]) := by
    unfold Hid
    have e : runtilB r = false := by unfold runtilB; simp; omega
    unfold runtil
    rw [e]
    rfl
  have b2 : (r.st == 2) = false := by simp; omega
  have b3 : (r.st == 3) = false := by simp; omega
  clear hq0 hq1 hq2 hq3
  unfold Rf.cells
  go_enter Try.func93, Try.ntmps93
  go_wp2
  first
    | (go_ret
       refine ⟨congrArg Ending.returned HE.out.symm, ?_⟩)
    | (refine bodyPost_ret (v := .tuple #[.int .i64 0, .bool false]) (by simp [results, Try.results93, go_sem, Rf.cells, freshR]) rfl ⟨congrArg Ending.returned HE.out.symm, ?_⟩)
  repeat first | with_reducible exact Below.refl _ _ | (with_reducible refine Below.alloc ?_ (by simp; try omega) _) | (with_reducible refine Below.setCell ?_ (by simp; try omega) _)

theorem runtil_is {r : Rf} {x : Int} {b : Bool} (h : runtil r = x) (h' : runtilB r = b) (w : World) : Calls Try.prog 93 #[.agg r.cells] w fun e w' => e = .returned (.tuple #[.int .i64 x, .bool b]) ∧ Below w.heap.size w w' := by
  subst h h'; exact runtil_any r w
theorem rcur_is {r : Rf} {x : Int} (h : rcur r = x) (w : World) : Calls Try.prog 96 #[.agg r.cells] w fun e w' => e = .returned (.int .i64 x) ∧ Below w.heap.size w w' := by
  subst h; exact rcur_any r w
theorem rused_is {r : Rf} {x : Int} (h : rused r = x) (w : World) : Calls Try.prog 114 #[.agg r.cells] w fun e w' => e = .returned (.int .i64 x) ∧ Below w.heap.size w w' := by
  subst h; exact rused_any r w

set_option maxRecDepth 100000 in
set_option maxHeartbeats 1000000 in
theorem rleft_any (r : Rf) (w : World) (hcap : 0 ≤ r.cap ∧ r.cap ≤ 1048576) (hu : 0 ≤ r.used ∧ r.used ≤ 1099511627776) :
    Calls Try.prog 97 #[.agg r.cells] w fun e w' => e = .returned (.int .i64 (rleft r)) ∧ Below w.heap.size w w' := by
  by_cases h0 : r.cap = 0
  · have HE : Hid ((.int .i64 (rleft r) : Value) = .int .i64 (-1)) := by unfold Hid rleft; rw [if_pos h0]
    have b0 : (r.cap == 0) = true := by simp; omega
    clear h0 hcap hu
    unfold Rf.cells
    go_enter Try.func97, Try.ntmps97
    go_wp2
    go_ret
    refine ⟨congrArg Ending.returned HE.out.symm, ?_⟩
    repeat first | with_reducible exact Below.refl _ _ | (with_reducible refine Below.alloc ?_ (by simp; try omega) _) | (with_reducible refine Below.setCell ?_ (by simp; try omega) _)
  · obtain ⟨u, hu'⟩ : ∃ u, rused r = u := ⟨_, rfl⟩
    have hb : 0 ≤ u ∧ u ≤ 1099511627776 := by rw [← hu']; unfold rused; split <;> omega
    have b0 : (r.cap == 0) = false := by simp; omega
    have HU := Lib.hid hu'
    have HE : Hid ((.int .i64 (rleft r) : Value) = .int .i64 (max (r.cap - u) 0)) := by unfold Hid rleft; rw [if_neg h0, hu']
    obtain ⟨hb1, hb2⟩ := hb
    obtain ⟨hc1, hc2⟩ := hcap
    clear h0 hu' hu
    have hx := fun (x : BW (w.alloc (.cells #[.int .i64 r.pri, .int .i64 r.per, .int .i64 r.cap, .int .i64 r.dl, .int .i64 r.off, .int .i64 r.st, .bool r.held, .int .i64 r.til, .int .i64 r.beg, .int .i64 r.used, .bool r.missed, .int .i64 r.base, .int .i64 r.raised] 101))) (o : Nat) => (x.cell w.heap.size o (by simp)).trans (show (w.alloc (.cells #[.int .i64 r.pri, .int .i64 r.per, .int .i64 r.cap, .int .i64 r.dl, .int .i64 r.off, .int .i64 r.st, .bool r.held, .int .i64 r.til, .int .i64 r.beg, .int .i64 r.used, .bool r.missed, .int .i64 r.base, .int .i64 r.raised] 101)).cell? ⟨w.heap.size, o, none⟩ = (#[.int .i64 r.pri, .int .i64 r.per, .int .i64 r.cap, .int .i64 r.dl, .int .i64 r.off, .int .i64 r.st, .bool r.held, .int .i64 r.til, .int .i64 r.beg, .int .i64 r.used, .bool r.missed, .int .i64 r.base, .int .i64 r.raised] : Array Value)[o]? from by go_simp)
    by_cases hn : r.cap - u < 0
    · have HE' : Hid ((.int .i64 (rleft r) : Value) = .int .i64 0) := by unfold Hid; rw [HE.out]; congr 1; omega
      unfold Rf.cells
      go_enter Try.func97, Try.ntmps97
      go_wp2_with fail
      refine wp_region_bw (by kernel_rfl) (by kernel_rfl) ?_
      repeat (go_big_quiet_step ((go_at_call 114; exact Calls.bw (rused_is HU.out _))))
      refine wpQuiet_nil ?_
      rintro w2 ⟨x2, hx2⟩
      have HB2 : Hid (Below (w.alloc (.cells #[.int .i64 r.pri, .int .i64 r.per, .int .i64 r.cap, .int .i64 r.dl, .int .i64 r.off, .int .i64 r.st, .bool r.held, .int .i64 r.til, .int .i64 r.beg, .int .i64 r.used, .bool r.missed, .int .i64 r.base, .int .i64 r.raised] 101)).heap.size (w.alloc (.cells #[.int .i64 r.pri, .int .i64 r.per, .int .i64 r.cap, .int .i64 r.dl, .int .i64 r.off, .int .i64 r.st, .bool r.held, .int .i64 r.til, .int .i64 r.beg, .int .i64 r.used, .bool r.missed, .int .i64 r.base, .int .i64 r.raised] 101)) w2) := by rw [hx2]; exact x2.property
      clear hx2 x2 hx
      go_wp2
      go_ret
      refine ⟨congrArg Ending.returned HE'.out.symm, ((Below.refl _ _).alloc (Nat.le_refl _) _).trans (HB2.out.mono (by simp))⟩
    · have HE' : Hid ((.int .i64 (rleft r) : Value) = .int .i64 (r.cap - u)) := by unfold Hid; rw [HE.out]; congr 1; omega
      unfold Rf.cells
      go_enter Try.func97, Try.ntmps97
      go_wp2_with fail
      refine wp_region_bw (by kernel_rfl) (by kernel_rfl) ?_
      repeat (go_big_quiet_step ((go_at_call 114; exact Calls.bw (rused_is HU.out _))))
      refine wpQuiet_nil ?_
      rintro w2 ⟨x2, hx2⟩
      have HB2 : Hid (Below (w.alloc (.cells #[.int .i64 r.pri, .int .i64 r.per, .int .i64 r.cap, .int .i64 r.dl, .int .i64 r.off, .int .i64 r.st, .bool r.held, .int .i64 r.til, .int .i64 r.beg, .int .i64 r.used, .bool r.missed, .int .i64 r.base, .int .i64 r.raised] 101)).heap.size (w.alloc (.cells #[.int .i64 r.pri, .int .i64 r.per, .int .i64 r.cap, .int .i64 r.dl, .int .i64 r.off, .int .i64 r.st, .bool r.held, .int .i64 r.til, .int .i64 r.beg, .int .i64 r.used, .bool r.missed, .int .i64 r.base, .int .i64 r.raised] 101)) w2) := by rw [hx2]; exact x2.property
      clear hx2 x2 hx
      go_wp2
      go_ret
      refine ⟨congrArg Ending.returned HE'.out.symm, ((Below.refl _ _).alloc (Nat.le_refl _) _).trans (HB2.out.mono (by simp))⟩

theorem rleft_is {r : Rf} {x : Int} (h : rleft r = x) (hcap : 0 ≤ r.cap ∧ r.cap ≤ 1048576) (hu : 0 ≤ r.used ∧ r.used ≤ 1099511627776) (w : World) : Calls Try.prog 97 #[.agg r.cells] w fun e w' => e = .returned (.int .i64 x) ∧ Below w.heap.size w w' := by
  subst h; exact rleft_any r w hcap hu

set_option maxRecDepth 100000 in
set_option maxHeartbeats 1000000 in
theorem bare_any (r : Rf) (w : World) :
    Calls Try.prog 80 #[.agg r.cells] w fun e w' => e = .returned (.agg (bareR r).cells) ∧ Below w.heap.size w w' := by
  by_cases hq0 : r.st = 0
  · have HE : Hid ((.agg (bareR r).cells : Value) = .agg (freshR r : Rf).cells) := by
      unfold Hid
      unfold bareR
      rw [if_pos hq0]
    have b0 : (r.st == 0) = true := by simp; omega
    clear hq0
    unfold Rf.cells
    go_enter Try.func80, Try.ntmps80
    go_wp2_with (go_at_call 111; refine (rfresh_any r _).mono ?_; rintro e w' ⟨rfl, o1, o2, rfl⟩)
    refine bodyPost_ret (v := .agg (freshR r : Rf).cells) (by simp [results, Try.results80, go_sem, Rf.cells, freshR]) rfl ⟨congrArg Ending.returned HE.out.symm, ?_⟩
    repeat first | with_reducible exact Below.refl _ _ | (with_reducible refine Below.alloc ?_ (by simp; try omega) _) | (with_reducible refine Below.setCell ?_ (by simp; try omega) _)
  by_cases hq1 : r.st = 3
  · have HE : Hid ((.agg (bareR r).cells : Value) = .agg ({ r with beg := 0, used := 0, missed := false } : Rf).cells) := by
      unfold Hid
      unfold bareR
      rw [if_neg hq0, if_pos hq1]
    have b0 : (r.st == 0) = false := by simp; omega
    have b3 : (r.st == 3) = true := by simp; omega
    clear hq0 hq1
    unfold Rf.cells
    go_enter Try.func80, Try.ntmps80
    go_wp2_with fail
    refine bodyPost_ret (v := .agg ({ r with beg := 0, used := 0, missed := false } : Rf).cells) (by simp [results, Try.results80, go_sem, Rf.cells, freshR]) rfl ⟨congrArg Ending.returned HE.out.symm, ?_⟩
    repeat first | with_reducible exact Below.refl _ _ | (with_reducible refine Below.alloc ?_ (by simp; try omega) _) | (with_reducible refine Below.setCell ?_ (by simp; try omega) _)
  by_cases hq2 : r.st = 1
  · have HE : Hid ((.agg (bareR r).cells : Value) = .agg ({ r with til := 0 } : Rf).cells) := by
      unfold Hid
      unfold bareR
      rw [if_neg hq0, if_neg hq1, if_pos hq2]
    have b0 : (r.st == 0) = false := by simp; omega
    have b3 : (r.st == 3) = false := by simp; omega
    have b1 : (r.st == 1) = true := by simp; omega
    clear hq0 hq1 hq2
    unfold Rf.cells
    go_enter Try.func80, Try.ntmps80
    go_wp2_with fail
    refine bodyPost_ret (v := .agg ({ r with til := 0 } : Rf).cells) (by simp [results, Try.results80, go_sem, Rf.cells, freshR]) rfl ⟨congrArg Ending.returned HE.out.symm, ?_⟩
    repeat first | with_reducible exact Below.refl _ _ | (with_reducible refine Below.alloc ?_ (by simp; try omega) _) | (with_reducible refine Below.setCell ?_ (by simp; try omega) _)
  have HE : Hid ((.agg (bareR r).cells : Value) = .agg (r : Rf).cells) := by
    unfold Hid
    unfold bareR
    rw [if_neg hq0, if_neg hq1, if_neg hq2]
  have b0 : (r.st == 0) = false := by simp; omega
  have b3 : (r.st == 3) = false := by simp; omega
  have b1 : (r.st == 1) = false := by simp; omega
  clear hq0 hq1 hq2
  unfold Rf.cells
  go_enter Try.func80, Try.ntmps80
  go_wp2_with fail
  refine bodyPost_ret (v := .agg (r : Rf).cells) (by simp [results, Try.results80, go_sem, Rf.cells, freshR]) rfl ⟨congrArg Ending.returned HE.out.symm, ?_⟩
  repeat first | with_reducible exact Below.refl _ _ | (with_reducible refine Below.alloc ?_ (by simp; try omega) _) | (with_reducible refine Below.setCell ?_ (by simp; try omega) _)

end Go.Proofs.Ytgnjenmicojgnaa
