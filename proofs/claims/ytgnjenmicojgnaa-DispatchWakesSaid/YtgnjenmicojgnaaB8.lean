/-
  What seen, Same's function, slices.EqualFunc and Same answer of processes and of two tables. No condition.
-/
import Derived.Test.YtgnjenmicojgnaaB7
namespace Go.Proofs.Ytgnjenmicojgnaa
set_option linter.unusedVariables false
set_option linter.unusedSimpArgs false
open Go.RowKit

/-- What counts of a process. -/
def seenP (p : Pr) : Pr :=
  if p.st = 0 then sleepP p
  else if p.st = 1 then { p with til := 0 }
  else if p.st = 2 then p
  else { p with beg := 0, used := 0, missed := false }

theorem awake_is {p : Pr} {b : Bool} (h : (p.st != 0) = b) (w : World) :
    Calls Try.prog 50 #[.agg p.cells] w fun e w' => e = .returned (.bool b) ∧ Below w.heap.size w w' := by
  subst h; exact awake_any p w

theorem box_til {w1 : World} {b : Nat} {p : Pr} (h : ∀ o, w1.cell? ⟨b, o, none⟩ = (#[.int .i64 p.pri, .int .i64 p.per, .int .i64 p.cap, .int .i64 p.dl, .int .i64 p.off, .int .i64 p.st, .bool p.held, .int .i64 p.base, .int .i64 p.raised, .int .i64 p.til, .int .i64 p.beg, .int .i64 p.used, .bool p.missed] : Array Value)[o]?) (o : Nat) : (w1.setCell ⟨b, 6 + 3, none⟩ (.int .i64 0)).cell? ⟨b, o, none⟩ = (#[.int .i64 p.pri, .int .i64 p.per, .int .i64 p.cap, .int .i64 p.dl, .int .i64 p.off, .int .i64 p.st, .bool p.held, .int .i64 p.base, .int .i64 p.raised, .int .i64 0, .int .i64 p.beg, .int .i64 p.used, .bool p.missed] : Array Value)[o]? := by
  by_cases e : o = 9
  · subst e
    rw [World.cell?_setCell_same' _ ⟨b, 6 + 3, none⟩ _ (by rw [h]; rfl)]
    rfl
  · rw [World.cell?_setCell_other _ _ _ _ (by intro e'; injection e' with _ e'; omega), h]
    match o, e with
    | 0, _ => rfl
    | 1, _ => rfl
    | 2, _ => rfl
    | 3, _ => rfl
    | 4, _ => rfl
    | 5, _ => rfl
    | 6, _ => rfl
    | 7, _ => rfl
    | 8, _ => rfl
    | 9, e => exact absurd rfl e
    | 10, _ => rfl
    | 11, _ => rfl
    | 12, _ => rfl
    | k + 13, _ => rfl

set_option maxRecDepth 100000 in
set_option maxHeartbeats 1000000 in
theorem seen_any (p : Pr) (w : World) :
    Calls Try.prog 79 #[.agg p.cells] w fun e w' => e = .returned (.agg (seenP p).cells) ∧ Below w.heap.size w w' := by
  by_cases h0 : p.st = 0
  · have hb : Hid ((p.st != 0) = false) := by unfold Hid; simp [h0]
    have hs : Hid (seenP p = sleepP p) := if_pos h0
    clear h0
    unfold Pr.cells
    go_enter Try.func79, Try.ntmps79
    go_wp2_with fail
    refine (awake_is (p := p) hb.out _).mono ?_
    rintro e w1 ⟨rfl, hb1⟩
    have hp1 : ∀ o, w1.cell? ⟨w.heap.size, o, none⟩ = (#[.int .i64 p.pri, .int .i64 p.per, .int .i64 p.cap, .int .i64 p.dl, .int .i64 p.off, .int .i64 p.st, .bool p.held, .int .i64 p.base, .int .i64 p.raised, .int .i64 p.til, .int .i64 p.beg, .int .i64 p.used, .bool p.missed] : Array Value)[o]? := fun o => (hb1.cell (p := ⟨w.heap.size, o, none⟩) (by simp; omega)).trans (by go_simp)
    have hd1 : ∀ o, w1.cell? ⟨w.heap.size + 1, o, none⟩ = (#[.int .i64 0, .int .i64 0, .int .i64 0, .int .i64 0, .int .i64 0, .int .i64 0, .bool false, .int .i64 0, .int .i64 0, .int .i64 0, .int .i64 0, .int .i64 0, .bool false] : Array Value)[o]? := fun o => (hb1.cell (p := ⟨w.heap.size + 1, o, none⟩) (by simp)).trans (by go_simp)
    have hf1 : ∀ o, w1.frozen? ⟨w.heap.size, o, none⟩ = false := fun o => (hb1.frozen (p := ⟨w.heap.size, o, none⟩) (by simp; omega)).trans (by go_simp)
    have hf1' : ∀ o, w1.frozen? ⟨w.heap.size + 1, o, none⟩ = false := fun o => (hb1.frozen (p := ⟨w.heap.size + 1, o, none⟩) (by simp)).trans (by go_simp)
    have hz1 : w.heap.size + 1 < w1.heap.size := by have := hb1.size; simp at this; omega
    have HB1 : Hid (Below w.heap.size w w1) := (((Below.refl _ _).alloc (Nat.le_refl _) _).alloc (by simp) _).trans (hb1.mono (by simp; omega))
    clear hb1
    go_wp2
    refine bodyPost_ret (v := .agg (sleepP p).cells) (by simp [results, Try.results79, go_sem, hp1, hd1, sleepP, Pr.cells]) rfl ⟨by rw [hs.out]; rfl, ?_⟩
    have hb := HB1.out
    repeat first | with_reducible exact Below.refl _ _ | with_reducible assumption | (with_reducible refine Below.alloc ?_ (by simp) _) | (with_reducible refine Below.setCell ?_ (by simp) _)
  by_cases h1 : p.st = 1
  · have hb : Hid ((p.st != 0) = true) := by unfold Hid; simp [h1]
    have hs : Hid (seenP p = { p with til := 0 }) := by unfold Hid seenP; rw [if_neg h0, if_pos h1]
    have h1b : (p.st == 1) = true := by simp [h1]
    have hbu : Hid (Pr.busyB { p with til := 0 } = true) := by unfold Hid Pr.busyB; simp [h1]
    clear h0 h1
    unfold Pr.cells
    go_enter Try.func79, Try.ntmps79
    go_wp2_with fail
    refine (awake_is (p := p) hb.out _).mono ?_
    rintro e w1 ⟨rfl, hb1⟩
    have hp1 : ∀ o, w1.cell? ⟨w.heap.size, o, none⟩ = (#[.int .i64 p.pri, .int .i64 p.per, .int .i64 p.cap, .int .i64 p.dl, .int .i64 p.off, .int .i64 p.st, .bool p.held, .int .i64 p.base, .int .i64 p.raised, .int .i64 p.til, .int .i64 p.beg, .int .i64 p.used, .bool p.missed] : Array Value)[o]? := fun o => (hb1.cell (p := ⟨w.heap.size, o, none⟩) (by simp; omega)).trans (by go_simp)
    have hd1 : ∀ o, w1.cell? ⟨w.heap.size + 1, o, none⟩ = (#[.int .i64 0, .int .i64 0, .int .i64 0, .int .i64 0, .int .i64 0, .int .i64 0, .bool false, .int .i64 0, .int .i64 0, .int .i64 0, .int .i64 0, .int .i64 0, .bool false] : Array Value)[o]? := fun o => (hb1.cell (p := ⟨w.heap.size + 1, o, none⟩) (by simp)).trans (by go_simp)
    have hf1 : ∀ o, w1.frozen? ⟨w.heap.size, o, none⟩ = false := fun o => (hb1.frozen (p := ⟨w.heap.size, o, none⟩) (by simp; omega)).trans (by go_simp)
    have hf1' : ∀ o, w1.frozen? ⟨w.heap.size + 1, o, none⟩ = false := fun o => (hb1.frozen (p := ⟨w.heap.size + 1, o, none⟩) (by simp)).trans (by go_simp)
    have hz1 : w.heap.size + 1 < w1.heap.size := by have := hb1.size; simp at this; omega
    have HB1 : Hid (Below w.heap.size w w1) := (((Below.refl _ _).alloc (Nat.le_refl _) _).alloc (by simp) _).trans (hb1.mono (by simp; omega))
    clear hb1
    go_wp2_with fail
    refine (busy_is (p := { p with til := 0 }) hbu.out _).mono ?_
    rintro e w2 ⟨rfl, hb2⟩
    have hp2 : ∀ o, w2.cell? ⟨w.heap.size, o, none⟩ = (#[.int .i64 p.pri, .int .i64 p.per, .int .i64 p.cap, .int .i64 p.dl, .int .i64 p.off, .int .i64 p.st, .bool p.held, .int .i64 p.base, .int .i64 p.raised, .int .i64 0, .int .i64 p.beg, .int .i64 p.used, .bool p.missed] : Array Value)[o]? := fun o => (hb2.cell (p := ⟨w.heap.size, o, none⟩) (by have := HB1.out.size; first | omega | (simp; omega))).trans (box_til hp1 o)
    have hd2 : ∀ o, w2.cell? ⟨w.heap.size + 1, o, none⟩ = (#[.int .i64 0, .int .i64 0, .int .i64 0, .int .i64 0, .int .i64 0, .int .i64 0, .bool false, .int .i64 0, .int .i64 0, .int .i64 0, .int .i64 0, .int .i64 0, .bool false] : Array Value)[o]? := fun o => (hb2.cell (p := ⟨w.heap.size + 1, o, none⟩) (by have := HB1.out.size; first | omega | (simp; omega))).trans ((World.cell?_setCell_other _ _ _ _ (by intro e; injection e with e _; omega)).trans (hd1 o))
    have hf2 : ∀ o, w2.frozen? ⟨w.heap.size, o, none⟩ = false := fun o => (hb2.frozen (p := ⟨w.heap.size, o, none⟩) (by have := HB1.out.size; first | omega | (simp; omega))).trans (by first | exact hf1 o | simp [hf1])
    have hf2' : ∀ o, w2.frozen? ⟨w.heap.size + 1, o, none⟩ = false := fun o => (hb2.frozen (p := ⟨w.heap.size + 1, o, none⟩) (by have := HB1.out.size; first | omega | (simp; omega))).trans (by first | exact hf1' o | simp [hf1'])
    clear hp1 hd1 hf1 hf1'
    have hz2 : w.heap.size + 1 < w2.heap.size := by have := hb2.size; first | omega | (simp at this; omega)
    have HB2 : Hid (Below w.heap.size w w2) := by
      have hb := HB1.out
      exact Below.trans (b := _) (by repeat first | with_reducible exact Below.refl _ _ | with_reducible assumption | (with_reducible refine Below.alloc ?_ (by simp) _) | (with_reducible refine Below.setCell ?_ (by simp) _)) (hb2.mono (by have := HB1.out.size; first | omega | (simp; omega)))
    clear hb2
    go_wp2
    refine bodyPost_ret (v := .agg ({ p with til := 0 }).cells) (by simp [results, Try.results79, go_sem, hp2, hd2, sleepP, Pr.cells]) rfl ⟨by rw [hs.out]; rfl, ?_⟩
    have hb := HB2.out
    repeat first | with_reducible exact Below.refl _ _ | with_reducible assumption | (with_reducible refine Below.alloc ?_ (by simp) _) | (with_reducible refine Below.setCell ?_ (by simp) _)
  have h1b : (p.st == 1) = false := by simp [h1]
  have hb : Hid ((p.st != 0) = true) := by unfold Hid; simp [h0]
  by_cases h2 : p.st = 2
  · have hs : Hid (seenP p = p) := by unfold Hid seenP; rw [if_neg h0, if_neg h1, if_pos h2]
    have hbu : Hid (p.busyB = true) := by unfold Hid Pr.busyB; simp [h2]
    clear h0 h1 h2
    unfold Pr.cells
    go_enter Try.func79, Try.ntmps79
    go_wp2_with fail
    refine (awake_is (p := p) hb.out _).mono ?_
    rintro e w1 ⟨rfl, hb1⟩
    have hp1 : ∀ o, w1.cell? ⟨w.heap.size, o, none⟩ = (#[.int .i64 p.pri, .int .i64 p.per, .int .i64 p.cap, .int .i64 p.dl, .int .i64 p.off, .int .i64 p.st, .bool p.held, .int .i64 p.base, .int .i64 p.raised, .int .i64 p.til, .int .i64 p.beg, .int .i64 p.used, .bool p.missed] : Array Value)[o]? := fun o => (hb1.cell (p := ⟨w.heap.size, o, none⟩) (by simp; omega)).trans (by go_simp)
    have hd1 : ∀ o, w1.cell? ⟨w.heap.size + 1, o, none⟩ = (#[.int .i64 0, .int .i64 0, .int .i64 0, .int .i64 0, .int .i64 0, .int .i64 0, .bool false, .int .i64 0, .int .i64 0, .int .i64 0, .int .i64 0, .int .i64 0, .bool false] : Array Value)[o]? := fun o => (hb1.cell (p := ⟨w.heap.size + 1, o, none⟩) (by simp)).trans (by go_simp)
    have hf1 : ∀ o, w1.frozen? ⟨w.heap.size, o, none⟩ = false := fun o => (hb1.frozen (p := ⟨w.heap.size, o, none⟩) (by simp; omega)).trans (by go_simp)
    have hf1' : ∀ o, w1.frozen? ⟨w.heap.size + 1, o, none⟩ = false := fun o => (hb1.frozen (p := ⟨w.heap.size + 1, o, none⟩) (by simp)).trans (by go_simp)
    have hz1 : w.heap.size + 1 < w1.heap.size := by have := hb1.size; simp at this; omega
    have HB1 : Hid (Below w.heap.size w w1) := (((Below.refl _ _).alloc (Nat.le_refl _) _).alloc (by simp) _).trans (hb1.mono (by simp; omega))
    clear hb1
    go_wp2_with fail
    refine (busy_is (p := p) hbu.out _).mono ?_
    rintro e w2 ⟨rfl, hb2⟩
    have hp2 : ∀ o, w2.cell? ⟨w.heap.size, o, none⟩ = (#[.int .i64 p.pri, .int .i64 p.per, .int .i64 p.cap, .int .i64 p.dl, .int .i64 p.off, .int .i64 p.st, .bool p.held, .int .i64 p.base, .int .i64 p.raised, .int .i64 p.til, .int .i64 p.beg, .int .i64 p.used, .bool p.missed] : Array Value)[o]? := fun o => (hb2.cell (p := ⟨w.heap.size, o, none⟩) (by have := HB1.out.size; first | omega | (simp; omega))).trans (hp1 o)
    have hd2 : ∀ o, w2.cell? ⟨w.heap.size + 1, o, none⟩ = (#[.int .i64 0, .int .i64 0, .int .i64 0, .int .i64 0, .int .i64 0, .int .i64 0, .bool false, .int .i64 0, .int .i64 0, .int .i64 0, .int .i64 0, .int .i64 0, .bool false] : Array Value)[o]? := fun o => (hb2.cell (p := ⟨w.heap.size + 1, o, none⟩) (by have := HB1.out.size; first | omega | (simp; omega))).trans (hd1 o)
    have hf2 : ∀ o, w2.frozen? ⟨w.heap.size, o, none⟩ = false := fun o => (hb2.frozen (p := ⟨w.heap.size, o, none⟩) (by have := HB1.out.size; first | omega | (simp; omega))).trans (by first | exact hf1 o | simp [hf1])
    have hf2' : ∀ o, w2.frozen? ⟨w.heap.size + 1, o, none⟩ = false := fun o => (hb2.frozen (p := ⟨w.heap.size + 1, o, none⟩) (by have := HB1.out.size; first | omega | (simp; omega))).trans (by first | exact hf1' o | simp [hf1'])
    clear hp1 hd1 hf1 hf1'
    have hz2 : w.heap.size + 1 < w2.heap.size := by have := hb2.size; first | omega | (simp at this; omega)
    have HB2 : Hid (Below w.heap.size w w2) := by
      have hb := HB1.out
      exact Below.trans (b := _) (by repeat first | with_reducible exact Below.refl _ _ | with_reducible assumption | (with_reducible refine Below.alloc ?_ (by simp) _) | (with_reducible refine Below.setCell ?_ (by simp) _)) (hb2.mono (by have := HB1.out.size; first | omega | (simp; omega)))
    clear hb2
    go_wp2
    refine bodyPost_ret (v := .agg (p).cells) (by simp [results, Try.results79, go_sem, hp2, hd2, sleepP, Pr.cells]) rfl ⟨by rw [hs.out]; rfl, ?_⟩
    have hb := HB2.out
    repeat first | with_reducible exact Below.refl _ _ | with_reducible assumption | (with_reducible refine Below.alloc ?_ (by simp) _) | (with_reducible refine Below.setCell ?_ (by simp) _)
  · have hs : Hid (seenP p = { p with beg := 0, used := 0, missed := false }) := by unfold Hid seenP; rw [if_neg h0, if_neg h1, if_neg h2]
    have hbu : Hid (p.busyB = false) := by unfold Hid Pr.busyB; simp [h1, h2]
    clear h0 h1 h2
    unfold Pr.cells
    go_enter Try.func79, Try.ntmps79
    go_wp2_with fail
    refine (awake_is (p := p) hb.out _).mono ?_
    rintro e w1 ⟨rfl, hb1⟩
    have hp1 : ∀ o, w1.cell? ⟨w.heap.size, o, none⟩ = (#[.int .i64 p.pri, .int .i64 p.per, .int .i64 p.cap, .int .i64 p.dl, .int .i64 p.off, .int .i64 p.st, .bool p.held, .int .i64 p.base, .int .i64 p.raised, .int .i64 p.til, .int .i64 p.beg, .int .i64 p.used, .bool p.missed] : Array Value)[o]? := fun o => (hb1.cell (p := ⟨w.heap.size, o, none⟩) (by simp; omega)).trans (by go_simp)
    have hd1 : ∀ o, w1.cell? ⟨w.heap.size + 1, o, none⟩ = (#[.int .i64 0, .int .i64 0, .int .i64 0, .int .i64 0, .int .i64 0, .int .i64 0, .bool false, .int .i64 0, .int .i64 0, .int .i64 0, .int .i64 0, .int .i64 0, .bool false] : Array Value)[o]? := fun o => (hb1.cell (p := ⟨w.heap.size + 1, o, none⟩) (by simp)).trans (by go_simp)
    have hf1 : ∀ o, w1.frozen? ⟨w.heap.size, o, none⟩ = false := fun o => (hb1.frozen (p := ⟨w.heap.size, o, none⟩) (by simp; omega)).trans (by go_simp)
    have hf1' : ∀ o, w1.frozen? ⟨w.heap.size + 1, o, none⟩ = false := fun o => (hb1.frozen (p := ⟨w.heap.size + 1, o, none⟩) (by simp)).trans (by go_simp)
    have hz1 : w.heap.size + 1 < w1.heap.size := by have := hb1.size; simp at this; omega
    have HB1 : Hid (Below w.heap.size w w1) := (((Below.refl _ _).alloc (Nat.le_refl _) _).alloc (by simp) _).trans (hb1.mono (by simp; omega))
    clear hb1
    go_wp2_with fail
    refine (busy_is (p := p) hbu.out _).mono ?_
    rintro e w2 ⟨rfl, hb2⟩
    have hp2 : ∀ o, w2.cell? ⟨w.heap.size, o, none⟩ = (#[.int .i64 p.pri, .int .i64 p.per, .int .i64 p.cap, .int .i64 p.dl, .int .i64 p.off, .int .i64 p.st, .bool p.held, .int .i64 p.base, .int .i64 p.raised, .int .i64 p.til, .int .i64 p.beg, .int .i64 p.used, .bool p.missed] : Array Value)[o]? := fun o => (hb2.cell (p := ⟨w.heap.size, o, none⟩) (by have := HB1.out.size; first | omega | (simp; omega))).trans (hp1 o)
    have hd2 : ∀ o, w2.cell? ⟨w.heap.size + 1, o, none⟩ = (#[.int .i64 0, .int .i64 0, .int .i64 0, .int .i64 0, .int .i64 0, .int .i64 0, .bool false, .int .i64 0, .int .i64 0, .int .i64 0, .int .i64 0, .int .i64 0, .bool false] : Array Value)[o]? := fun o => (hb2.cell (p := ⟨w.heap.size + 1, o, none⟩) (by have := HB1.out.size; first | omega | (simp; omega))).trans (hd1 o)
    have hf2 : ∀ o, w2.frozen? ⟨w.heap.size, o, none⟩ = false := fun o => (hb2.frozen (p := ⟨w.heap.size, o, none⟩) (by have := HB1.out.size; first | omega | (simp; omega))).trans (by first | exact hf1 o | simp [hf1])
    have hf2' : ∀ o, w2.frozen? ⟨w.heap.size + 1, o, none⟩ = false := fun o => (hb2.frozen (p := ⟨w.heap.size + 1, o, none⟩) (by have := HB1.out.size; first | omega | (simp; omega))).trans (by first | exact hf1' o | simp [hf1'])
    clear hp1 hd1 hf1 hf1'
    have hz2 : w.heap.size + 1 < w2.heap.size := by have := hb2.size; first | omega | (simp at this; omega)
    have HB2 : Hid (Below w.heap.size w w2) := by
      have hb := HB1.out
      exact Below.trans (b := _) (by repeat first | with_reducible exact Below.refl _ _ | with_reducible assumption | (with_reducible refine Below.alloc ?_ (by simp) _) | (with_reducible refine Below.setCell ?_ (by simp) _)) (hb2.mono (by have := HB1.out.size; first | omega | (simp; omega)))
    clear hb2
    go_wp2
    refine bodyPost_ret (v := .agg ({ p with beg := 0, used := 0, missed := false }).cells) (by simp [results, Try.results79, go_sem, hp2, hd2, sleepP, Pr.cells]) rfl ⟨by rw [hs.out]; rfl, ?_⟩
    have hb := HB2.out
    repeat first | with_reducible exact Below.refl _ _ | with_reducible assumption | (with_reducible refine Below.alloc ?_ (by simp) _) | (with_reducible refine Below.setCell ?_ (by simp) _)

theorem ite_eq {α : Type} [BEq α] [LawfulBEq α] [DecidableEq α] {a b : α} {r : Result Value} {x : Bool} {w : World} (h : r = .ok (.bool x) w) : (if a = b then r else .ok (.bool false) w) = .ok (.bool (a == b && x)) w := by
  subst h
  by_cases hc : a = b
  · simp [hc]
  · have : (a == b) = false := by simpa using hc
    simp [hc, this]
theorem ite_last {α : Type} [BEq α] [LawfulBEq α] [DecidableEq α] {a b : α} {w : World} : (if a = b then (.ok (.bool true) w : Result Value) else .ok (.bool false) w) = .ok (.bool (a == b)) w := by
  by_cases hc : a = b
  · simp [hc]
  · have : (a == b) = false := by simpa using hc
    simp [hc, this]

/-- Are two processes the same, field by field? -/
def sameB (p q : Pr) : Bool := p.pri == q.pri && (p.per == q.per && (p.cap == q.cap && (p.dl == q.dl && (p.off == q.off && (p.st == q.st && (p.held == q.held && (p.base == q.base && (p.raised == q.raised && (p.til == q.til && (p.beg == q.beg && (p.used == q.used && (p.missed == q.missed))))))))))))

set_option maxRecDepth 100000 in
set_option maxHeartbeats 1000000 in
theorem eql86 (p q : Pr) (w : World) : (binOp .eql 86 (.agg p.cells) (.agg q.cells)).run Try.prog w = .ok (.bool (sameB p q)) w := by
  unfold Pr.cells sameB
  go_simp
  exact ite_eq (ite_eq (ite_eq (ite_eq (ite_eq (ite_eq (ite_eq (ite_eq (ite_eq (ite_eq (ite_eq (ite_eq (ite_last))))))))))))

set_option maxRecDepth 100000 in
set_option maxHeartbeats 1000000 in
theorem same1_any (p q : Pr) (w : World) :
    Calls Try.prog 78 #[.agg p.cells, .agg q.cells] w fun e w' => e = .returned (.bool (sameB (seenP p) (seenP q))) ∧ Below w.heap.size w w' := by
  unfold Pr.cells
  go_enter Try.func78, Try.ntmps78
  go_wp2_with fail
  obtain ⟨W0, hW0⟩ : ∃ W0, W0 = (w.alloc (.cells p.cells 86)).alloc (.cells q.cells 86) := ⟨_, rfl⟩
  unfold Pr.cells at hW0
  rw [← hW0]
  have hp : ∀ j, W0.cell? ⟨w.heap.size, j, none⟩ = p.cells[j]? := by rw [hW0]; intro j; unfold Pr.cells; go_simp
  have hq : ∀ j, W0.cell? ⟨w.heap.size + 1, j, none⟩ = q.cells[j]? := by rw [hW0]; intro j; unfold Pr.cells; go_simp
  have hz : W0.heap.size = w.heap.size + 2 := by rw [hW0]; simp
  have hb : Below w.heap.size w W0 := by rw [hW0]; exact ((Below.refl _ _).alloc (Nat.le_refl _) _).alloc (by simp) _
  have HB := Lib.hid hb
  have hl1 : w.heap.size < W0.heap.size := by omega
  have hl2 : w.heap.size + 1 < W0.heap.size := by omega
  clear hW0 hb hz
  unfold Pr.cells at hp hq
  have hxp := fun (x : BW W0) (o : Nat) => x.cell w.heap.size o hl1
  have hxq := fun (x : BW W0) (o : Nat) => x.cell (w.heap.size + 1) o hl2
  have heq := fun (w : World) => eql86 (seenP p) (seenP q) w
  refine wp_region_bw (by kernel_rfl) (by kernel_rfl) ?_
  repeat (go_big_quiet_step (first | (go_at_call_of 79 (p.pri); exact Calls.bw (seen_any p _)) | (go_at_call_of 79 (q.pri); exact Calls.bw (seen_any q _))))
  refine wpQuiet_nil ?_
  rintro w2 ⟨x2, hx2⟩
  have hb2 : Below W0.heap.size W0 w2 := by rw [hx2]; exact x2.property
  clear hx2 x2 hxp hxq hp hq
  have HB2 := Lib.hid hb2
  clear hb2
  go_wp2
  go_ret
  exact ⟨rfl, HB.out.trans (HB2.out.mono (by omega))⟩

end Go.Proofs.Ytgnjenmicojgnaa
