/-
  What State, Until, Base, Current, Attr, Left answer, for every index.
-/
import Derived.Test.YtgnjenmicojgnaaA8
namespace Go.Proofs.Ytgnjenmicojgnaa
set_option linter.unusedVariables false
set_option linter.unusedSimpArgs false
open Go.RowKit

theorem look_lit (t g c : Nat) (ps : List Pr) (i : Int) (w : World) (hT : Tab w t g c ps) :
    Calls Try.prog 54 #[.pointer (some ⟨t, 0, none⟩), .int .i64 i] w fun e w' => e = .returned (.agg #[.int .i64 (lookP ps i).pri, .int .i64 (lookP ps i).per, .int .i64 (lookP ps i).cap, .int .i64 (lookP ps i).dl, .int .i64 (lookP ps i).off, .int .i64 (lookP ps i).st, .bool (lookP ps i).held, .int .i64 (lookP ps i).base, .int .i64 (lookP ps i).raised, .int .i64 (lookP ps i).til, .int .i64 (lookP ps i).beg, .int .i64 (lookP ps i).used, .bool (lookP ps i).missed]) ∧ Below w.heap.size w w' := look_any t g c ps i w hT

def stateR (p : Pr) : Int := if p.held = true then 4 else p.st
def untilR (p : Pr) : Int := if p.st = 3 ∨ (p.st = 2 ∧ p.til ≠ -1) then p.til else 0
def untilB (p : Pr) : Bool := decide (p.st = 3 ∨ (p.st = 2 ∧ p.til ≠ -1))
def baseR (p : Pr) : Int := if p.st = 0 then p.pri else p.base
def curR (p : Pr) : Int := max (baseR p) p.raised
def leftR (ps : List Pr) (i : Int) : Int := if i < 0 then 0 else match ps[i.toNat]? with | none => 0 | some p => if p.cap = 0 then -1 else max (p.cap - p.used) 0

theorem ret_int_bool {a b : Int} {x y : Bool} (h : a = b) (k : x = y) : Ending.returned (.tuple #[.int .i64 a, .bool x]) = .returned (.tuple #[.int .i64 b, .bool y]) := by rw [h, k]

set_option maxRecDepth 100000 in
set_option maxHeartbeats 400000 in
theorem state_any (t g c : Nat) (ps : List Pr) (i : Int) (w : World) (hT : Tab w t g c ps) :
    Calls Try.prog 14 #[.pointer (some ⟨t, 0, none⟩), .int .i64 i] w fun e w' => e = .returned (.int .i64 (stateR (lookP ps i))) ∧ Below w.heap.size w w' := by
  have HT := Lib.hid hT
  clear hT
  have hcs : (lookP ps i).held = true ∨ (lookP ps i).held = false := by cases (lookP ps i).held <;> simp
  rcases hcs with h | h
  all_goals
    go_enter Try.func14, Try.ntmps14
    go_wp2_with (go_at_call 54; refine (look_lit t g c ps i _ HT.out).mono ?_; rintro e w' ⟨rfl, hb⟩)
    go_ret
    exact ⟨ret_int (by simp [stateR, h]), by repeat first | with_reducible exact Below.refl _ _ | with_reducible assumption | with_reducible refine Below.drew ?_ | (with_reducible refine Below.alloc ?_ (by have := hb.size; simp at this ⊢; omega) _) | (with_reducible refine Below.setCell ?_ (by have := hb.size; simp at this ⊢; omega) _)⟩

set_option maxRecDepth 100000 in
set_option maxHeartbeats 400000 in
theorem until_any (t g c : Nat) (ps : List Pr) (i : Int) (w : World) (hT : Tab w t g c ps) :
    Calls Try.prog 15 #[.pointer (some ⟨t, 0, none⟩), .int .i64 i] w fun e w' => e = .returned (.tuple #[.int .i64 (untilR (lookP ps i)), .bool (untilB (lookP ps i))]) ∧ Below w.heap.size w w' := by
  have HT := Lib.hid hT
  clear hT
  have hcs : (lookP ps i).st = 3 ∨ ((lookP ps i).st = 2 ∧ ((lookP ps i).st == 3) = false ∧ ((lookP ps i).til != -1) = true) ∨ ((lookP ps i).st = 2 ∧ ((lookP ps i).st == 3) = false ∧ ((lookP ps i).til != -1) = false) ∨ (((lookP ps i).st == 3) = false ∧ ((lookP ps i).st == 2) = false) := by by_cases h1 : (lookP ps i).st = 3 <;> by_cases h2 : (lookP ps i).st = 2 <;> by_cases h3 : (lookP ps i).til = -1 <;> simp [h1, h2, h3]
  rcases hcs with h | ⟨h, h1, h2⟩ | ⟨h, h1, h2⟩ | ⟨h, h1⟩
  all_goals
    go_enter Try.func15, Try.ntmps15
    go_wp2_with (go_at_call 54; refine (look_lit t g c ps i _ HT.out).mono ?_; rintro e w' ⟨rfl, hb⟩)
    go_ret2
    exact ⟨ret_int_bool (by simp_all [untilR]) (by simp_all [untilB]), by repeat first | with_reducible exact Below.refl _ _ | with_reducible assumption | with_reducible refine Below.drew ?_ | (with_reducible refine Below.alloc ?_ (by have := hb.size; simp at this ⊢; omega) _) | (with_reducible refine Below.setCell ?_ (by have := hb.size; simp at this ⊢; omega) _)⟩

theorem field86_2 (a b c d e f h i j k : Int) (x y : Bool) (z : Int) (w : World) : (Instr.field 86 (.agg #[.int .i64 a, .int .i64 b, .int .i64 c, .int .i64 d, .int .i64 e, .int .i64 f, .bool x, .int .i64 h, .int .i64 i, .int .i64 j, .int .i64 k, .int .i64 z, .bool y]) 2).run Try.prog w = .ok (.agg #[.bool x, .int .i64 h, .int .i64 i, .int .i64 j]) w := by kernel_rfl
theorem field86_0 (a b c d e f h i j k : Int) (x y : Bool) (z : Int) (w : World) : (Instr.field 86 (.agg #[.int .i64 a, .int .i64 b, .int .i64 c, .int .i64 d, .int .i64 e, .int .i64 f, .bool x, .int .i64 h, .int .i64 i, .int .i64 j, .int .i64 k, .int .i64 z, .bool y]) 0).run Try.prog w = .ok (.agg #[.int .i64 a, .int .i64 b, .int .i64 c, .int .i64 d, .int .i64 e]) w := by kernel_rfl
theorem field82_2 (h i j : Int) (x : Bool) (w : World) : (Instr.field 82 (.agg #[.bool x, .int .i64 h, .int .i64 i, .int .i64 j]) 2).run Try.prog w = .ok (.int .i64 i) w := by kernel_rfl

theorem bcell {W w1 : World} (hb : Below W.heap.size W w1) : (∀ b o, b < W.heap.size → w1.cell? ⟨b, o, none⟩ = W.cell? ⟨b, o, none⟩) ∧ (∀ b o, b < W.heap.size → w1.frozen? ⟨b, o, none⟩ = W.frozen? ⟨b, o, none⟩) :=
  ⟨fun b o h => hb.cell (p := ⟨b, o, none⟩) h, fun b o h => hb.frozen (p := ⟨b, o, none⟩) h⟩

set_option maxRecDepth 100000 in
set_option maxHeartbeats 400000 in
theorem base_any (t g c : Nat) (ps : List Pr) (i : Int) (w : World) (hT : Tab w t g c ps) :
    Calls Try.prog 95 #[.pointer (some ⟨t, 0, none⟩), .int .i64 i] w fun e w' => e = .returned (.int .i64 (baseR (lookP ps i))) ∧ Below w.heap.size w w' := by
  have HT := Lib.hid hT
  clear hT
  have hcs : ((lookP ps i).st != 0) = true ∨ ((lookP ps i).st != 0) = false := by cases (lookP ps i).st != 0 <;> simp
  rcases hcs with h | h
  all_goals
    go_enter Try.func95, Try.ntmps95
    go_wp2_with (go_at_call 54; refine (look_lit t g c ps i _ HT.out).mono ?_; rintro e w' ⟨rfl, hb⟩)
    refine (awake_any (lookP ps i) _).mono ?_
    rintro e w2 ⟨rfl, hb2⟩
    obtain ⟨hc2, hf2⟩ := bcell hb2
    go_wp2
    go_ret
    refine ⟨ret_int (by simp_all [baseR]), ?_⟩
    refine Below.trans (b := _) ?_ (hb2.mono ?_)
    · repeat first | with_reducible exact Below.refl _ _ | with_reducible assumption | with_reducible refine Below.drew ?_ | (with_reducible refine Below.alloc ?_ (by have := hb.size; simp at this ⊢; omega) _) | (with_reducible refine Below.setCell ?_ (by have := hb.size; simp at this ⊢; omega) _)
    · have := hb.size; simp; omega

set_option maxRecDepth 100000 in
set_option maxHeartbeats 400000 in
theorem cur_any (t g c : Nat) (ps : List Pr) (i : Int) (w : World) (hT : Tab w t g c ps) :
    Calls Try.prog 92 #[.pointer (some ⟨t, 0, none⟩), .int .i64 i] w fun e w' => e = .returned (.int .i64 (curR (lookP ps i))) ∧ Below w.heap.size w w' := by
  have HT := Lib.hid hT
  clear hT
  go_enter Try.func92, Try.ntmps92
  go_wp2_with fail
  refine (base_any t g c ps i _ HT.out).mono ?_
  rintro e w1 ⟨rfl, hb1⟩
  have HT1 := Lib.hid (HT.out.below hb1)
  go_wp2_with fail
  refine (look_lit t g c ps i _ HT1.out).mono ?_
  rintro e w2 ⟨rfl, hb2⟩
  have hf1 := field86_2
  have hf2 := field82_2
  go_wp2
  all_goals
    go_ret
    exact ⟨ret_int (by unfold curR; omega), hb1.trans (hb2.mono hb1.size)⟩

set_option maxRecDepth 100000 in
set_option maxHeartbeats 400000 in
theorem attr_any (t g c : Nat) (ps : List Pr) (i : Int) (w : World) (hT : Tab w t g c ps) :
    Calls Try.prog 98 #[.pointer (some ⟨t, 0, none⟩), .int .i64 i] w fun e w' => e = .returned (.agg #[.int .i64 (lookP ps i).pri, .int .i64 (lookP ps i).per, .int .i64 (lookP ps i).cap, .int .i64 (lookP ps i).dl, .int .i64 (lookP ps i).off]) ∧ Below w.heap.size w w' := by
  have HT := Lib.hid (hT.alloc (.cells #[.int .i64 0, .int .i64 0, .int .i64 0, .int .i64 0, .int .i64 0] 31))
  clear hT
  go_enter Try.func98, Try.ntmps98
  go_wp2_with fail
  refine (look_lit t g c ps i _ HT.out).mono ?_
  rintro e w2 ⟨rfl, hb2⟩
  have hb3 : Below w.heap.size w w2 := ((Below.refl _ _).alloc (Nat.le_refl _) _).trans (hb2.mono (by simp))
  have hc : ∀ k, w2.cell? ⟨w.heap.size, k, none⟩ = (#[.int .i64 0, .int .i64 0, .int .i64 0, .int .i64 0, .int .i64 0] : Array Value)[k]? := fun k => (hb2.cell (p := ⟨w.heap.size, k, none⟩) (by simp)).trans (by simp)
  have hf : ∀ k, w2.frozen? ⟨w.heap.size, k, none⟩ = false := fun k => (hb2.frozen (p := ⟨w.heap.size, k, none⟩) (by simp)).trans (by simp)
  have hz : w.heap.size < w2.heap.size := by have := hb2.size; simp at this; omega
  have HB := Lib.hid hb3
  clear hb2 hb3
  have hf1 := field86_0
  go_wp2
  refine bodyPost_ret (v := .agg #[.int .i64 (lookP ps i).pri, .int .i64 (lookP ps i).per, .int .i64 (lookP ps i).cap, .int .i64 (lookP ps i).dl, .int .i64 (lookP ps i).off]) (by simp [results, Try.results98, go_sem, hc]) rfl ⟨rfl, ?_⟩
  have hb := HB.out
  repeat first | with_reducible assumption | (with_reducible refine Below.setCell ?_ (by simp) _)

set_option maxRecDepth 100000 in
set_option maxHeartbeats 400000 in
theorem left_any (t g c : Nat) (ps : List Pr) (i : Int) (w : World) (hT : Tab w t g c ps) (hok : ∀ p, p ∈ ps → p.Ok) :
    Calls Try.prog 19 #[.pointer (some ⟨t, 0, none⟩), .int .i64 i] w fun e w' => e = .returned (.int .i64 (leftR ps i)) ∧ Below w.heap.size w w' := by
  have hl := hT.len
  have hcell := hT.cell
  obtain ⟨a, cc, hv⟩ := slc_form g c ps
  by_cases h0 : i < 0
  · unfold leftR
    rw [if_pos h0]
    clear hT hcell hv
    go_enter Try.func19, Try.ntmps19
    go_wp2
    go_ret
    exact ⟨rfl, Below.refl _ _⟩
  · obtain ⟨k, rfl⟩ := Int.eq_ofNat_of_zero_le (by omega : 0 ≤ i)
    unfold leftR
    rw [if_neg h0, Int.toNat_natCast]
    by_cases hk : k < ps.length
    · have hpk : ps[k]? = some ps[k] := List.getElem?_eq_getElem hk
      obtain ⟨hr, hc⟩ := hT.rows (by omega)
      have hs : slc g c ps = .slice (some ⟨g, 0, none⟩) ps.length c := by unfold slc; rw [if_neg (by omega)]
      have hP := hc k _ hpk
      have hpo := hok ps[k] (List.getElem_mem hk)
      rw [hpk]
      dsimp only
      rw [hs] at hcell
      have hlg := hr.lt
      generalize ps[k] = p at *
      generalize ps.length = n at *
      clear hT hc hs hv hpk hok
      obtain ⟨c0, c1, c2, c3, c4, c5, c6, c7, c8, c9, c10, c11, c12⟩ := hP
      have hu1 := hpo.used.1
      have hu2 := hpo.used.2
      have hc1 := hpo.cap.1
      have hcc2 := hpo.cap.2
      clear hpo
      by_cases hz : p.cap = 0
      · rw [if_pos hz]
        rw [hz] at c2
        clear hz
        go_enter Try.func19, Try.ntmps19
        go_wp2_with (go_at_call 62; refine (len_any t (some ⟨g, 0, none⟩) n c _ ?_).mono ?_; go_simp; rintro e w' ⟨rfl, rfl⟩)
        go_ret
        exact ⟨rfl, by repeat first | with_reducible exact Below.refl _ _ | with_reducible assumption | with_reducible refine Below.drew ?_ | (with_reducible refine Below.alloc ?_ (by simp) _) | (with_reducible refine Below.setCell ?_ (by simp) _)⟩
      · rw [if_neg hz]
        have hzb : (p.cap == 0) = false := by simpa using hz
        clear hz
        go_enter Try.func19, Try.ntmps19
        go_wp2_with (go_at_call 62; refine (len_any t (some ⟨g, 0, none⟩) n c _ ?_).mono ?_; go_simp; rintro e w' ⟨rfl, rfl⟩)
        all_goals
          go_ret
          exact ⟨ret_int (by omega), by repeat first | with_reducible exact Below.refl _ _ | with_reducible assumption | with_reducible refine Below.drew ?_ | (with_reducible refine Below.alloc ?_ (by simp) _) | (with_reducible refine Below.setCell ?_ (by simp) _)⟩
    · have hpk : ps[k]? = none := List.getElem?_eq_none (by omega)
      rw [hpk]
      dsimp only
      rw [hv] at hcell
      have hk' : ps.length ≤ k := by omega
      generalize ps.length = n at *
      clear hT hv hpk hk hok
      go_enter Try.func19, Try.ntmps19
      go_wp2_with (go_at_call 62; refine (len_any t a n cc _ ?_).mono ?_; go_simp; rintro e w' ⟨rfl, rfl⟩)
      go_ret
      exact ⟨rfl, Below.refl _ _⟩

end Go.Proofs.Ytgnjenmicojgnaa
