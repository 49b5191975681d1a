/-
  What Start, Stop, Suspend, Resume, Wait, Wake, Release, SetPriority, Raise do to a table, for every index and number.
-/
import Derived.Test.YtgnjenmicojgnaaA5
namespace Go.Proofs.Ytgnjenmicojgnaa
set_option linter.unusedVariables false
set_option linter.unusedSimpArgs false
open Go.RowKit

/-- What is true of a process of a table. -/
structure Pr.Ok (p : Pr) : Prop where
  pri : 1 ≤ p.pri ∧ p.pri ≤ 63
  per : 0 ≤ p.per ∧ p.per ≤ 1048576
  cap : 0 ≤ p.cap ∧ p.cap ≤ 1048576
  dl : 0 ≤ p.dl ∧ p.dl ≤ 1048576
  off : 0 ≤ p.off ∧ p.off ≤ 1048576
  st : 0 ≤ p.st ∧ p.st ≤ 3
  base : 0 ≤ p.base ∧ p.base ≤ 63
  raised : 0 ≤ p.raised ∧ p.raised ≤ 63
  til : -1 ≤ p.til ∧ p.til ≤ 1099512676352
  beg : 0 ≤ p.beg ∧ p.beg ≤ 1099511627776
  used : 0 ≤ p.used ∧ p.used ≤ 1099511627776
  dorm : p.st = 0 → p.held = false ∧ p.base = 0 ∧ p.raised = 0 ∧ p.til = 0 ∧ p.beg = 0 ∧ p.used = 0 ∧ p.missed = false
  rest : p.st = 3 → p.beg = 0 ∧ p.used = 0 ∧ p.missed = false ∧ 0 ≤ p.til

/-- A process as it is asked for, dormant. -/
def sleepP (p : Pr) : Pr := { p with st := 0, held := false, base := 0, raised := 0, til := 0, beg := 0, used := 0, missed := false }
def atP (now : Int) (p : Pr) : Pr := { p with st := 1, beg := now, used := 0, missed := false }
def restP (til : Int) (p : Pr) : Pr := { p with st := 3, til := til, beg := 0, used := 0, missed := false }
def startP (now : Int) (p : Pr) : Pr :=
  if p.off = 0 then { p with st := 1, held := false, base := p.pri, raised := 0, til := 0, beg := now, used := 0, missed := false }
  else { p with st := 3, held := false, base := p.pri, raised := 0, til := now + p.off, beg := 0, used := 0, missed := false }
def doneP (now : Int) (p : Pr) : Pr :=
  if p.per = 0 then sleepP p else if p.beg + p.per ≤ now then atP (p.beg + p.per) p else restP (p.beg + p.per) p
def doneN (p : Pr) : Int := if p.per = 0 then -1 else p.beg + p.per
def usedN (n : Int) (p : Pr) : Int := if 1099511627776 < p.used + n then 1099511627776 else p.used + n
def overN (n : Int) (p : Pr) : Bool := decide (0 < p.cap) && decide (p.cap < usedN n p)

def startF (now : Int) (p : Pr) : Option Pr := if (!(p.st != 0)) = true then some (startP now p) else none
def stopF (p : Pr) : Option Pr := if (p.st != 0) = true then some (sleepP p) else none
def suspF (p : Pr) : Option Pr := if (p.st != 0 && !p.held) = true then some { p with held := true } else none
def resuF (p : Pr) : Option Pr := if (p.st != 0 && p.held) = true then some { p with held := false } else none
def waitF (til : Int) (p : Pr) : Option Pr := if (p.st == 1 && !p.held) = true then some { p with st := 2, til := if til < -1 then -1 else til } else none
def wakeF (p : Pr) : Option Pr := if (p.st == 2) = true then some { p with st := 1 } else none
def releF (now : Int) (p : Pr) : Option Pr := if (p.st == 3 && decide (p.til ≤ now)) = true then some (atP p.til p) else none
def doneF (now : Int) (p : Pr) : Option Pr := if (p.st == 1 && !p.held) = true then some (doneP now p) else none
def chargeF (n : Int) (p : Pr) : Option Pr := if (p.st == 1 || p.st == 2) = true then some { p with used := usedN n p } else none
def setpF (n : Int) (p : Pr) : Option Pr := if (p.st != 0) = true then some { p with base := n } else none
def raisF (n : Int) (p : Pr) : Option Pr := if (p.st != 0) = true then some { p with raised := n } else none

def inB (a b c : Int) : Bool := decide (b ≤ a) && decide (a ≤ c)
def tickB (n : Int) : Bool := inB n 0 1099511627776

theorem isSome_ite {b : Bool} {x : Pr} : (if b = true then some x else none).isSome = b := by cases b <;> rfl
theorem some_ite {b : Bool} {x y : Pr} (h : (if b = true then some x else none) = some y) : b = true ∧ x = y := by
  cases b with
  | false => cases h
  | true => exact ⟨rfl, by injection h⟩

theorem tickB_true {n : Int} (h : tickB n = true) : 0 ≤ n ∧ n ≤ 1099511627776 := by simpa [tickB, inB] using h

set_option maxHeartbeats 400000 in
theorem in_any (a b c : Int) (w : World) :
    Calls Try.prog 86 #[.int .i64 a, .int .i64 b, .int .i64 c] w fun e w' => e = .returned (.bool (inB a b c)) ∧ w = w' := by
  unfold inB
  by_cases h : b ≤ a
  · go_enter Try.func86, Try.ntmps86
    go_wp2
    go_ret
    exact ⟨ret_bool (by simp [h]), rfl⟩
  · have h' : a < b := by omega
    go_enter Try.func86, Try.ntmps86
    go_wp2
    go_ret
    exact ⟨ret_bool (by simp; omega), rfl⟩

set_option maxHeartbeats 400000 in
theorem tick_any (a : Int) (w : World) :
    Calls Try.prog 48 #[.int .i64 a] w fun e w' => e = .returned (.bool (tickB a)) ∧ w = w' := by
  unfold tickB
  go_enter Try.func48, Try.ntmps48
  go_wp2_with (go_at_call 86; refine (in_any _ _ _ _).mono ?_; rintro e w' ⟨rfl, rfl⟩)
  go_ret
  exact ⟨rfl, rfl⟩

theorem enters57 : Enters 57 := fun _ _ => by kernel_rfl
theorem enters59 : Enters 59 := fun _ _ => by kernel_rfl
theorem enters60 : Enters 60 := fun _ _ => by kernel_rfl
theorem enters61 : Enters 61 := fun _ _ => by kernel_rfl
theorem enters82 : Enters 82 := fun _ _ => by kernel_rfl
theorem enters83 : Enters 83 := fun _ _ => by kernel_rfl
theorem enters84 : Enters 84 := fun _ _ => by kernel_rfl
theorem enters85 : Enters 85 := fun _ _ => by kernel_rfl
theorem enters87 : Enters 87 := fun _ _ => by kernel_rfl
theorem enters88 : Enters 88 := fun _ _ => by kernel_rfl
theorem enters89 : Enters 89 := fun _ _ => by kernel_rfl
theorem enters90 : Enters 90 := fun _ _ => by kernel_rfl
theorem enters91 : Enters 91 := fun _ _ => by kernel_rfl
theorem enters55 : Enters 55 := fun _ _ => by kernel_rfl
theorem enters56 : Enters 56 := fun _ _ => by kernel_rfl
theorem enters58 : Enters 58 := fun _ _ => by kernel_rfl

set_option maxRecDepth 100000 in
set_option maxHeartbeats 400000 in
theorem stop_any (t g c : Nat) (ps : List Pr) (i : Int) (w : World) (hT : Tab w t g c ps) (hok : ∀ p, p ∈ ps → p.Ok) :
    Calls Try.prog 33 #[.pointer (some ⟨t, 0, none⟩), .int .i64 i] w fun e w' => e = .returned (.int .i64 (act stopF true ps i).2) ∧ Tab w' t g c (act stopF true ps i).1 ∧ Apart w.heap.size w w' g := by
  have htl := hT.lt
  have HT := Lib.hid hT
  clear hT
  go_enter Try.func33, Try.ntmps33
  go_wp2_with fail
  refine Calls.mono (change_any t g c 50 59 ps i true stopF (fun _ _ => True) #[] #[] w w.heap.size enters50 enters59 (Nat.le_refl _) htl HT.out ?_ ?_) ?_
  · intro _ p hp
    show Calls Try.prog 50 #[.agg p.cells] w _
    unfold stopF
    rw [isSome_ite]
    exact awake_any p w
  · intro _ j p p' hj hf w1 hb hP hr
    show Calls Try.prog 59 #[.pointer (some ⟨g, j * 13, none⟩)] w1 _
    unfold stopF at hf
    obtain ⟨_, rfl⟩ := some_ite hf
    exact (sleep_any w.heap.size g (j * 13) p w1 hr hb.size hP).mono fun e w2 h => ⟨h.1, h.2.1, h.2.2, trivial⟩
  · rintro e w' ⟨rfl, hT', hA, -, -, -⟩
    have HT' := Lib.hid hT'
    have HA := Lib.hid hA
    clear hT' hA
    go_wp2
    go_ret
    exact ⟨rfl, HT'.out, HA.out⟩

set_option maxRecDepth 100000 in
set_option maxHeartbeats 400000 in
theorem susp_any (t g c : Nat) (ps : List Pr) (i : Int) (w : World) (hT : Tab w t g c ps) (hok : ∀ p, p ∈ ps → p.Ok) :
    Calls Try.prog 27 #[.pointer (some ⟨t, 0, none⟩), .int .i64 i] w fun e w' => e = .returned (.int .i64 (act suspF true ps i).2) ∧ Tab w' t g c (act suspF true ps i).1 ∧ Apart w.heap.size w w' g := by
  have htl := hT.lt
  have HT := Lib.hid hT
  clear hT
  go_enter Try.func27, Try.ntmps27
  go_wp2_with fail
  refine Calls.mono (change_any t g c 82 83 ps i true suspF (fun _ _ => True) #[] #[] w w.heap.size enters82 enters83 (Nat.le_refl _) htl HT.out ?_ ?_) ?_
  · intro _ p hp
    show Calls Try.prog 82 #[.agg p.cells] w _
    unfold suspF
    rw [isSome_ite]
    exact susp1_any p w
  · intro _ j p p' hj hf w1 hb hP hr
    show Calls Try.prog 83 #[.pointer (some ⟨g, j * 13, none⟩)] w1 _
    unfold suspF at hf
    obtain ⟨_, rfl⟩ := some_ite hf
    exact (susp2 w.heap.size g (j * 13) p w1 hr hb.size hP).mono fun e w2 h => ⟨h.1, h.2.1, h.2.2, trivial⟩
  · rintro e w' ⟨rfl, hT', hA, -, -, -⟩
    have HT' := Lib.hid hT'
    have HA := Lib.hid hA
    clear hT' hA
    go_wp2
    go_ret
    exact ⟨rfl, HT'.out, HA.out⟩

set_option maxRecDepth 100000 in
set_option maxHeartbeats 400000 in
theorem resu_any (t g c : Nat) (ps : List Pr) (i : Int) (w : World) (hT : Tab w t g c ps) (hok : ∀ p, p ∈ ps → p.Ok) :
    Calls Try.prog 32 #[.pointer (some ⟨t, 0, none⟩), .int .i64 i] w fun e w' => e = .returned (.int .i64 (act resuF true ps i).2) ∧ Tab w' t g c (act resuF true ps i).1 ∧ Apart w.heap.size w w' g := by
  have htl := hT.lt
  have HT := Lib.hid hT
  clear hT
  go_enter Try.func32, Try.ntmps32
  go_wp2_with fail
  refine Calls.mono (change_any t g c 90 91 ps i true resuF (fun _ _ => True) #[] #[] w w.heap.size enters90 enters91 (Nat.le_refl _) htl HT.out ?_ ?_) ?_
  · intro _ p hp
    show Calls Try.prog 90 #[.agg p.cells] w _
    unfold resuF
    rw [isSome_ite]
    exact resu1_any p w
  · intro _ j p p' hj hf w1 hb hP hr
    show Calls Try.prog 91 #[.pointer (some ⟨g, j * 13, none⟩)] w1 _
    unfold resuF at hf
    obtain ⟨_, rfl⟩ := some_ite hf
    exact (resu2 w.heap.size g (j * 13) p w1 hr hb.size hP).mono fun e w2 h => ⟨h.1, h.2.1, h.2.2, trivial⟩
  · rintro e w' ⟨rfl, hT', hA, -, -, -⟩
    have HT' := Lib.hid hT'
    have HA := Lib.hid hA
    clear hT' hA
    go_wp2
    go_ret
    exact ⟨rfl, HT'.out, HA.out⟩

set_option maxRecDepth 100000 in
set_option maxHeartbeats 400000 in
theorem wake_any (t g c : Nat) (ps : List Pr) (i : Int) (w : World) (hT : Tab w t g c ps) (hok : ∀ p, p ∈ ps → p.Ok) :
    Calls Try.prog 28 #[.pointer (some ⟨t, 0, none⟩), .int .i64 i] w fun e w' => e = .returned (.int .i64 (act wakeF true ps i).2) ∧ Tab w' t g c (act wakeF true ps i).1 ∧ Apart w.heap.size w w' g := by
  have htl := hT.lt
  have HT := Lib.hid hT
  clear hT
  go_enter Try.func28, Try.ntmps28
  go_wp2_with fail
  refine Calls.mono (change_any t g c 84 85 ps i true wakeF (fun _ _ => True) #[] #[] w w.heap.size enters84 enters85 (Nat.le_refl _) htl HT.out ?_ ?_) ?_
  · intro _ p hp
    show Calls Try.prog 84 #[.agg p.cells] w _
    unfold wakeF
    rw [isSome_ite]
    exact wake1_any p w
  · intro _ j p p' hj hf w1 hb hP hr
    show Calls Try.prog 85 #[.pointer (some ⟨g, j * 13, none⟩)] w1 _
    unfold wakeF at hf
    obtain ⟨_, rfl⟩ := some_ite hf
    exact (wake2 w.heap.size g (j * 13) p w1 hr hb.size hP).mono fun e w2 h => ⟨h.1, h.2.1, h.2.2, trivial⟩
  · rintro e w' ⟨rfl, hT', hA, -, -, -⟩
    have HT' := Lib.hid hT'
    have HA := Lib.hid hA
    clear hT' hA
    go_wp2
    go_ret
    exact ⟨rfl, HT'.out, HA.out⟩

set_option maxRecDepth 100000 in
set_option maxHeartbeats 400000 in
theorem start_any (t g c : Nat) (ps : List Pr) (i n : Int) (w : World) (hT : Tab w t g c ps) (hok : ∀ p, p ∈ ps → p.Ok) :
    Calls Try.prog 13 #[.pointer (some ⟨t, 0, none⟩), .int .i64 i, .int .i64 n] w fun e w' => e = .returned (.int .i64 (act (startF n) (tickB n) ps i).2) ∧ Tab w' t g c (act (startF n) (tickB n) ps i).1 ∧ Apart w.heap.size w w' g := by
  have htl := hT.lt
  have HT := Lib.hid (hT.alloc (.cells #[.int .i64 n] 3))
  have hg0 : ps.length ≠ 0 → w.heap.size ≠ g := fun h => by have := hT.glt h; omega
  clear hT
  go_enter Try.func13, Try.ntmps13
  go_wp2_with (go_at_call 48; refine (tick_any _ _).mono ?_; rintro e w' ⟨rfl, rfl⟩)
  refine Calls.mono (change_any t g c 49 51 ps i (tickB n) (startF n) (fun _ _ => True) #[] #[.pointer (some ⟨w.heap.size, 0, none⟩)] (w.alloc (.cells #[.int .i64 n] 3)) w.heap.size enters49 enters51 (by simp) htl HT.out ?_ ?_) ?_
  · intro hm p hp
    show Calls Try.prog 49 #[.agg p.cells] _ _
    unfold startF
    rw [isSome_ite]
    exact start1_any p _
  · intro hm j p p' hj hf w1 hb hP hr
    have hpo := hok p (List.mem_of_getElem? hj)
    have hjl : j < ps.length := (List.getElem?_eq_some_iff.1 hj).1
    have hbg := hg0 (by omega)
    have hcell : w1.cell? ⟨w.heap.size, 0, none⟩ = some (.int .i64 n) := (hb.cell (p := ⟨w.heap.size, 0, none⟩) (by simp)).trans (by simp)
    have hB1 : w.heap.size ≤ w1.heap.size := by have := hb.size; simp at this; omega
    unfold startF at hf
    obtain ⟨_, rfl⟩ := some_ite hf
    show Calls Try.prog 51 #[.pointer (some ⟨g, j * 13, none⟩), .pointer (some ⟨w.heap.size, 0, none⟩)] w1 _
    unfold startP
    by_cases h0 : p.off = 0
    · rw [if_pos h0]
      exact (start2_now w.heap.size g (j * 13) n w.heap.size p w1 hr hB1 hcell hbg (Ne.symm hbg) h0 hP).mono fun e w2 h => ⟨h.1, h.2.1, h.2.2, trivial⟩
    · rw [if_neg h0]
      exact (start2_later w.heap.size g (j * 13) n w.heap.size p w1 hr hB1 hcell hbg (Ne.symm hbg) h0 (tickB_true hm) hpo.off hP).mono fun e w2 h => ⟨h.1, h.2.1, h.2.2, trivial⟩
  · rintro e w' ⟨rfl, hT', hA, -, -, -⟩
    have HT' := Lib.hid hT'
    have HA := Lib.hid hA
    clear hT' hA
    go_wp2
    go_ret
    exact ⟨rfl, HT'.out, ((Apart.of_below ((Below.refl _ _).alloc (Nat.le_refl _) _) (Nat.le_refl _)).trans HA.out)⟩

set_option maxRecDepth 100000 in
set_option maxHeartbeats 400000 in
theorem wait_any (t g c : Nat) (ps : List Pr) (i n : Int) (w : World) (hT : Tab w t g c ps) (hok : ∀ p, p ∈ ps → p.Ok) :
    Calls Try.prog 31 #[.pointer (some ⟨t, 0, none⟩), .int .i64 i, .int .i64 n] w fun e w' => e = .returned (.int .i64 (act (waitF n) (decide (n ≤ 1099511627776)) ps i).2) ∧ Tab w' t g c (act (waitF n) (decide (n ≤ 1099511627776)) ps i).1 ∧ Apart w.heap.size w w' g := by
  have htl := hT.lt
  have HT := Lib.hid (hT.alloc (.cells #[.int .i64 n] 3))
  have hg0 : ps.length ≠ 0 → w.heap.size ≠ g := fun h => by have := hT.glt h; omega
  clear hT
  go_enter Try.func31, Try.ntmps31
  go_wp2_with fail
  refine Calls.mono (change_any t g c 57 89 ps i (decide (n ≤ 1099511627776)) (waitF n) (fun _ _ => True) #[] #[.pointer (some ⟨w.heap.size, 0, none⟩)] (w.alloc (.cells #[.int .i64 n] 3)) w.heap.size enters57 enters89 (by simp) htl HT.out ?_ ?_) ?_
  · intro hm p hp
    show Calls Try.prog 57 #[.agg p.cells] _ _
    unfold waitF
    rw [isSome_ite]
    exact free_any p _
  · intro hm j p p' hj hf w1 hb hP hr
    have hpo := hok p (List.mem_of_getElem? hj)
    have hjl : j < ps.length := (List.getElem?_eq_some_iff.1 hj).1
    have hbg := hg0 (by omega)
    have hcell : w1.cell? ⟨w.heap.size, 0, none⟩ = some (.int .i64 n) := (hb.cell (p := ⟨w.heap.size, 0, none⟩) (by simp)).trans (by simp)
    have hB1 : w.heap.size ≤ w1.heap.size := by have := hb.size; simp at this; omega
    unfold waitF at hf
    obtain ⟨_, rfl⟩ := some_ite hf
    show Calls Try.prog 89 #[.pointer (some ⟨g, j * 13, none⟩), .pointer (some ⟨w.heap.size, 0, none⟩)] w1 _
    exact (wait1 w.heap.size g (j * 13) n w.heap.size p w1 hr hB1 hcell hbg (Ne.symm hbg) hP).mono fun e w2 h => ⟨h.1, h.2.1, h.2.2, trivial⟩
  · rintro e w' ⟨rfl, hT', hA, -, -, -⟩
    have HT' := Lib.hid hT'
    have HA := Lib.hid hA
    clear hT' hA
    go_wp2
    go_ret
    exact ⟨rfl, HT'.out, ((Apart.of_below ((Below.refl _ _).alloc (Nat.le_refl _) _) (Nat.le_refl _)).trans HA.out)⟩

set_option maxRecDepth 100000 in
set_option maxHeartbeats 400000 in
theorem setp_any (t g c : Nat) (ps : List Pr) (i n : Int) (w : World) (hT : Tab w t g c ps) (hok : ∀ p, p ∈ ps → p.Ok) :
    Calls Try.prog 29 #[.pointer (some ⟨t, 0, none⟩), .int .i64 i, .int .i64 n] w fun e w' => e = .returned (.int .i64 (act (setpF n) (inB n 1 63) ps i).2) ∧ Tab w' t g c (act (setpF n) (inB n 1 63) ps i).1 ∧ Apart w.heap.size w w' g := by
  have htl := hT.lt
  have HT := Lib.hid (hT.alloc (.cells #[.int .i64 n] 3))
  have hg0 : ps.length ≠ 0 → w.heap.size ≠ g := fun h => by have := hT.glt h; omega
  clear hT
  go_enter Try.func29, Try.ntmps29
  go_wp2_with (go_at_call 86; refine (in_any _ _ _ _).mono ?_; rintro e w' ⟨rfl, rfl⟩)
  refine Calls.mono (change_any t g c 50 87 ps i (inB n 1 63) (setpF n) (fun _ _ => True) #[] #[.pointer (some ⟨w.heap.size, 0, none⟩)] (w.alloc (.cells #[.int .i64 n] 3)) w.heap.size enters50 enters87 (by simp) htl HT.out ?_ ?_) ?_
  · intro hm p hp
    show Calls Try.prog 50 #[.agg p.cells] _ _
    unfold setpF
    rw [isSome_ite]
    exact awake_any p _
  · intro hm j p p' hj hf w1 hb hP hr
    have hpo := hok p (List.mem_of_getElem? hj)
    have hjl : j < ps.length := (List.getElem?_eq_some_iff.1 hj).1
    have hbg := hg0 (by omega)
    have hcell : w1.cell? ⟨w.heap.size, 0, none⟩ = some (.int .i64 n) := (hb.cell (p := ⟨w.heap.size, 0, none⟩) (by simp)).trans (by simp)
    have hB1 : w.heap.size ≤ w1.heap.size := by have := hb.size; simp at this; omega
    unfold setpF at hf
    obtain ⟨_, rfl⟩ := some_ite hf
    show Calls Try.prog 87 #[.pointer (some ⟨g, j * 13, none⟩), .pointer (some ⟨w.heap.size, 0, none⟩)] w1 _
    exact (setp1 w.heap.size g (j * 13) n w.heap.size p w1 hr hB1 hcell hbg (Ne.symm hbg) hP).mono fun e w2 h => ⟨h.1, h.2.1, h.2.2, trivial⟩
  · rintro e w' ⟨rfl, hT', hA, -, -, -⟩
    have HT' := Lib.hid hT'
    have HA := Lib.hid hA
    clear hT' hA
    go_wp2
    go_ret
    exact ⟨rfl, HT'.out, ((Apart.of_below ((Below.refl _ _).alloc (Nat.le_refl _) _) (Nat.le_refl _)).trans HA.out)⟩

set_option maxRecDepth 100000 in
set_option maxHeartbeats 400000 in
theorem rais_any (t g c : Nat) (ps : List Pr) (i n : Int) (w : World) (hT : Tab w t g c ps) (hok : ∀ p, p ∈ ps → p.Ok) :
    Calls Try.prog 30 #[.pointer (some ⟨t, 0, none⟩), .int .i64 i, .int .i64 n] w fun e w' => e = .returned (.int .i64 (act (raisF n) (inB n 0 63) ps i).2) ∧ Tab w' t g c (act (raisF n) (inB n 0 63) ps i).1 ∧ Apart w.heap.size w w' g := by
  have htl := hT.lt
  have HT := Lib.hid (hT.alloc (.cells #[.int .i64 n] 3))
  have hg0 : ps.length ≠ 0 → w.heap.size ≠ g := fun h => by have := hT.glt h; omega
  clear hT
  go_enter Try.func30, Try.ntmps30
  go_wp2_with (go_at_call 86; refine (in_any _ _ _ _).mono ?_; rintro e w' ⟨rfl, rfl⟩)
  refine Calls.mono (change_any t g c 50 88 ps i (inB n 0 63) (raisF n) (fun _ _ => True) #[] #[.pointer (some ⟨w.heap.size, 0, none⟩)] (w.alloc (.cells #[.int .i64 n] 3)) w.heap.size enters50 enters88 (by simp) htl HT.out ?_ ?_) ?_
  · intro hm p hp
    show Calls Try.prog 50 #[.agg p.cells] _ _
    unfold raisF
    rw [isSome_ite]
    exact awake_any p _
  · intro hm j p p' hj hf w1 hb hP hr
    have hpo := hok p (List.mem_of_getElem? hj)
    have hjl : j < ps.length := (List.getElem?_eq_some_iff.1 hj).1
    have hbg := hg0 (by omega)
    have hcell : w1.cell? ⟨w.heap.size, 0, none⟩ = some (.int .i64 n) := (hb.cell (p := ⟨w.heap.size, 0, none⟩) (by simp)).trans (by simp)
    have hB1 : w.heap.size ≤ w1.heap.size := by have := hb.size; simp at this; omega
    unfold raisF at hf
    obtain ⟨_, rfl⟩ := some_ite hf
    show Calls Try.prog 88 #[.pointer (some ⟨g, j * 13, none⟩), .pointer (some ⟨w.heap.size, 0, none⟩)] w1 _
    exact (rais1 w.heap.size g (j * 13) n w.heap.size p w1 hr hB1 hcell hbg (Ne.symm hbg) hP).mono fun e w2 h => ⟨h.1, h.2.1, h.2.2, trivial⟩
  · rintro e w' ⟨rfl, hT', hA, -, -, -⟩
    have HT' := Lib.hid hT'
    have HA := Lib.hid hA
    clear hT' hA
    go_wp2
    go_ret
    exact ⟨rfl, HT'.out, ((Apart.of_below ((Below.refl _ _).alloc (Nat.le_refl _) _) (Nat.le_refl _)).trans HA.out)⟩

set_option maxRecDepth 100000 in
set_option maxHeartbeats 400000 in
theorem rele_any (t g c : Nat) (ps : List Pr) (i n : Int) (w : World) (hT : Tab w t g c ps) (hok : ∀ p, p ∈ ps → p.Ok) :
    Calls Try.prog 16 #[.pointer (some ⟨t, 0, none⟩), .int .i64 i, .int .i64 n] w fun e w' => e = .returned (.int .i64 (act (releF n) (tickB n) ps i).2) ∧ Tab w' t g c (act (releF n) (tickB n) ps i).1 ∧ Apart w.heap.size w w' g := by
  have htl := hT.lt
  have HT := Lib.hid (hT.alloc (.cells #[.int .i64 n] 3))
  have hg0 : ps.length ≠ 0 → w.heap.size ≠ g := fun h => by have := hT.glt h; omega
  clear hT
  go_enter Try.func16, Try.ntmps16
  go_wp2_with (go_at_call 48; refine (tick_any _ _).mono ?_; rintro e w' ⟨rfl, rfl⟩)
  refine Calls.mono (change_any t g c 55 56 ps i (tickB n) (releF n) (fun _ _ => True) #[.pointer (some ⟨w.heap.size, 0, none⟩)] #[] (w.alloc (.cells #[.int .i64 n] 3)) w.heap.size enters55 enters56 (by simp) htl HT.out ?_ ?_) ?_
  · intro hm p hp
    show Calls Try.prog 55 #[.agg p.cells, .pointer (some ⟨w.heap.size, 0, none⟩)] _ _
    unfold releF
    rw [isSome_ite]
    exact rele1_any p n w.heap.size _ (by simp) (by simp)
  · intro hm j p p' hj hf w1 hb hP hr
    have hpo := hok p (List.mem_of_getElem? hj)
    have hjl : j < ps.length := (List.getElem?_eq_some_iff.1 hj).1
    have hbg := hg0 (by omega)
    have hcell : w1.cell? ⟨w.heap.size, 0, none⟩ = some (.int .i64 n) := (hb.cell (p := ⟨w.heap.size, 0, none⟩) (by simp)).trans (by simp)
    have hB1 : w.heap.size ≤ w1.heap.size := by have := hb.size; simp at this; omega
    unfold releF at hf
    obtain ⟨_, rfl⟩ := some_ite hf
    show Calls Try.prog 56 #[.pointer (some ⟨g, j * 13, none⟩)] w1 _
    exact (rele2 w.heap.size g (j * 13) p w1 hr hB1 hP).mono fun e w2 h => ⟨h.1, h.2.1, h.2.2, trivial⟩
  · rintro e w' ⟨rfl, hT', hA, -, -, -⟩
    have HT' := Lib.hid hT'
    have HA := Lib.hid hA
    clear hT' hA
    go_wp2
    go_ret
    exact ⟨rfl, HT'.out, ((Apart.of_below ((Below.refl _ _).alloc (Nat.le_refl _) _) (Nat.le_refl _)).trans HA.out)⟩

end Go.Proofs.Ytgnjenmicojgnaa
