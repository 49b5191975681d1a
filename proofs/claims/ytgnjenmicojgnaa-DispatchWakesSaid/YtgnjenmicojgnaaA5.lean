/-
  A table of processes in memory, and what change does to it. No condition beside the two functions' contracts.
-/
import Derived.Test.YtgnjenmicojgnaaA4
namespace Go.Proofs.Ytgnjenmicojgnaa
set_option linter.unusedVariables false
set_option linter.unusedSimpArgs false
open Go.RowKit

/-- The value of a table's slice. -/
def slc (g c : Nat) (ps : List Pr) : Value := if ps.length = 0 then .slice none 0 0 else .slice (some ⟨g, 0, none⟩) ps.length c

/-- Block t is a table whose processes are ps; they lie in block g. -/
structure Tab (w : World) (t g c : Nat) (ps : List Pr) : Prop where
  hdr : w.heap[t]? = some (.cells #[slc g c ps] 80 (0, 0))
  rows : ps.length ≠ 0 → Row w g 86 ∧ ∀ i p, ps[i]? = some p → PrAt w g (i * 13) p
  len : ps.length ≤ 16

/-- From w to w' nothing below B has turned but block g; no block has changed its kind. -/
structure Apart (B : Nat) (w w' : World) (g : Nat) : Prop where
  os : w'.os = w.os
  tape : w'.tape = w.tape
  output : w'.output = w.output
  size : w.heap.size ≤ w'.heap.size
  block : ∀ i, i < B → i ≠ g → w'.heap[i]? = w.heap[i]?

section
variable {B : Nat} {w w' w'' : World} {t g c : Nat} {ps : List Pr}

theorem Apart.refl (B g : Nat) (w : World) : Apart B w w g := ⟨rfl, rfl, rfl, Nat.le_refl _, fun _ _ _ => rfl⟩
theorem Apart.trans (h : Apart B w w' g) (k : Apart B w' w'' g) : Apart B w w'' g :=
  ⟨k.os.trans h.os, k.tape.trans h.tape, k.output.trans h.output, Nat.le_trans h.size k.size, fun i hi hn => (k.block i hi hn).trans (h.block i hi hn)⟩
theorem Apart.of_below (h : Below w.heap.size w w') (hB : B ≤ w.heap.size) : Apart B w w' g := ⟨h.os, h.tape, h.output, h.size, fun i hi _ => h.block i (by omega)⟩
theorem Apart.of_near {o : Nat} (h : Near B w w' g o) : Apart B w w' g := ⟨h.os, h.tape, h.output, h.size, h.block⟩
theorem Apart.mono {B' : Nat} (h : Apart B w w' g) (hB : B' ≤ B) : Apart B' w w' g := ⟨h.os, h.tape, h.output, h.size, fun i hi hn => h.block i (by omega) hn⟩
theorem Apart.alloc (h : Apart B w w' g) (hB : B ≤ w.heap.size) (o : Obj) : Apart B w (w'.alloc o) g :=
  ⟨h.os, h.tape, h.output, Nat.le_trans h.size (by simp), fun i hi hne => (Below.heap_alloc w' o i (by have := h.size; omega)).trans (h.block i hi hne)⟩

theorem PrAt.congr {o : Nat} {p : Pr} (h : PrAt w g o p) (hc : ∀ j, o ≤ j → j ≤ o + 12 → w'.cell? ⟨g, j, none⟩ = w.cell? ⟨g, j, none⟩) : PrAt w' g o p where
  c0 := (hc _ (by omega) (by omega)).trans h.c0
  c1 := (hc _ (by omega) (by omega)).trans h.c1
  c2 := (hc _ (by omega) (by omega)).trans h.c2
  c3 := (hc _ (by omega) (by omega)).trans h.c3
  c4 := (hc _ (by omega) (by omega)).trans h.c4
  c5 := (hc _ (by omega) (by omega)).trans h.c5
  c6 := (hc _ (by omega) (by omega)).trans h.c6
  c7 := (hc _ (by omega) (by omega)).trans h.c7
  c8 := (hc _ (by omega) (by omega)).trans h.c8
  c9 := (hc _ (by omega) (by omega)).trans h.c9
  c10 := (hc _ (by omega) (by omega)).trans h.c10
  c11 := (hc _ (by omega) (by omega)).trans h.c11
  c12 := (hc _ (by omega) (by omega)).trans h.c12

theorem Tab.lt (h : Tab w t g c ps) : t < w.heap.size := Row.lt ⟨_, h.hdr⟩
theorem Tab.cell (h : Tab w t g c ps) : w.cell? ⟨t, 0, none⟩ = some (slc g c ps) := by
  simp [World.cell?, h.hdr]
theorem Tab.ne (h : Tab w t g c ps) (hp : ps.length ≠ 0) : t ≠ g := by
  rintro rfl
  obtain ⟨⟨C, hC⟩, _⟩ := h.rows hp
  have := h.hdr
  rw [hC] at this
  injection this with this
  injection this with _ e _
  exact absurd e (by decide)
theorem Tab.glt (h : Tab w t g c ps) (hp : ps.length ≠ 0) : g < w.heap.size := (h.rows hp).1.lt

theorem Tab.keep (h : Tab w t g c ps) (hb : ∀ i, i < w.heap.size → w'.heap[i]? = w.heap[i]?) : Tab w' t g c ps where
  hdr := (hb t h.lt).trans h.hdr
  rows := fun hp => by
    obtain ⟨hr, hc⟩ := h.rows hp
    have hg := hr.lt
    obtain ⟨C, hC⟩ := hr
    exact ⟨⟨C, (hb g hg).trans hC⟩, fun i p hi => (hc i p hi).congr fun j _ _ => World.cell?_of_block (w := w) (hb g hg)⟩
  len := h.len

theorem Tab.below (h : Tab w t g c ps) (hb : Below w.heap.size w w') : Tab w' t g c ps := h.keep hb.block
theorem Tab.alloc (h : Tab w t g c ps) (o : Obj) : Tab (w.alloc o) t g c ps := h.keep fun i hi => Below.heap_alloc w o i hi
theorem Tab.drew (h : Tab w t g c ps) : Tab w.drew t g c ps := h.keep fun _ _ => rfl
theorem Tab.drewN (h : Tab w t g c ps) (n : Nat) : Tab (w.drewN n) t g c ps := h.keep fun _ _ => rfl

/-- Another table's act leaves this one as it is. -/
theorem Tab.apart {g' : Nat} (h : Tab w t g c ps) (ha : Apart w.heap.size w w' g') (ht : t ≠ g') (hg : g ≠ g') : Tab w' t g c ps where
  hdr := (ha.block t h.lt ht).trans h.hdr
  rows := fun hp => by
    obtain ⟨hr, hc⟩ := h.rows hp
    have hgl := hr.lt
    obtain ⟨C, hC⟩ := hr
    exact ⟨⟨C, (ha.block g hgl hg).trans hC⟩, fun i p hi => (hc i p hi).congr fun j _ _ => World.cell?_of_block (w := w) (ha.block g hgl hg)⟩
  len := h.len

theorem slc_set (i : Nat) (p : Pr) : slc g c (ps.set i p) = slc g c ps := by simp [slc]

theorem Tab.put (h : Tab w t g c ps) {i : Nat} {p' : Pr} (hn : Near B w w' g (i * 13)) (htB : t < B) (hi : i < ps.length) (hp : PrAt w' g (i * 13) p') : Tab w' t g c (ps.set i p') where
  hdr := by rw [slc_set]; exact (hn.block t htB (h.ne (by omega))).trans h.hdr
  rows := fun hl => by
    obtain ⟨hr, hc⟩ := h.rows (by omega)
    refine ⟨hn.row _ _ hr, fun j p hj => ?_⟩
    rw [List.getElem?_set] at hj
    by_cases e : i = j
    · subst e
      rw [if_pos rfl, if_pos hi] at hj
      injection hj with hj
      subst hj
      exact hp
    · rw [if_neg e] at hj
      exact (hc j p hj).congr fun k h1 h2 => hn.out k (by omega)
  len := by simpa using h.len
end

/-- What a call of one process does to all: the processes behind it, and the error's number. -/
def act (f : Pr → Option Pr) (may : Bool) (ps : List Pr) (i : Int) : List Pr × Int :=
  if i < 0 ∨ (ps.length : Int) ≤ i then (ps, 9) else if may = false then (ps, 2) else
    match (ps[i.toNat]?).bind f with
    | none => (ps, 10)
    | some p' => (ps.set i.toNat p', 0)

set_option maxHeartbeats 400000 in
theorem change_any (t g c ks kd : Nat) (ps : List Pr) (i : Int) (may : Bool) (f : Pr → Option Pr) (X : Pr → World → Prop) (capS capD : Array Value) (w : World) (B : Nat) (eS : Enters ks) (eD : Enters kd)
    (hB : B ≤ w.heap.size) (htB : t < B) (hT : Tab w t g c ps)
    (hS : may = true → ∀ p, p ∈ ps → Calls Try.prog ks (#[.agg p.cells] ++ capS) w fun e w2 => e = .returned (.bool (f p).isSome) ∧ Below w.heap.size w w2)
    (hD : may = true → ∀ j p p', ps[j]? = some p → f p = some p' → ∀ w1, Below w.heap.size w w1 → PrAt w1 g (j * 13) p → Row w1 g 86 →
      Calls Try.prog kd (#[.pointer (some ⟨g, j * 13, none⟩)] ++ capD) w1 fun e w2 => e = .returned (.tuple #[]) ∧ Near B w1 w2 g (j * 13) ∧ PrAt w2 g (j * 13) p' ∧ X p w2) :
    Calls Try.prog 47 #[.pointer (some ⟨t, 0, none⟩), .int .i64 i, .bool may, .func (.func ks) #[] capS, .func (.func kd) #[] capD] w fun e w' =>
      e = .returned (.int .i64 (act f may ps i).2) ∧ Tab w' t g c (act f may ps i).1 ∧ Apart B w w' g ∧
      ((act f may ps i).2 = 0 → ∃ p, ps[i.toNat]? = some p ∧ X p w') ∧ ((act f may ps i).2 ≠ 0 → Below w.heap.size w w') ∧ (∀ b T, Row w b T → Row w' b T) := by
  have hl := hT.len
  obtain ⟨a, cc, hv⟩ : ∃ a cc, slc g c ps = .slice a ps.length cc := by
    unfold slc
    split
    · rename_i h; rw [h]; exact ⟨_, _, rfl⟩
    · exact ⟨_, _, rfl⟩
  have hcell := hT.cell
  by_cases h1 : i < 0 ∨ (ps.length : Int) ≤ i
  · have e : act f may ps i = (ps, 9) := by simp only [act, if_pos h1]
    rw [e]
    rw [hv] at hcell
    refine (change_none t ps.length cc i a _ _ _ w hcell (by omega) h1).mono ?_
    rintro e w' ⟨rfl, rfl⟩
    exact ⟨rfl, hT, Apart.refl _ _ _, fun h => absurd h (by simp), fun _ => Below.refl _ _, fun _ _ h => h⟩
  · obtain ⟨k, rfl⟩ := Int.eq_ofNat_of_zero_le (by omega : 0 ≤ i)
    have hk : k < ps.length := by omega
    by_cases h2 : may = false
    · have e : act f may ps k = (ps, 2) := by simp only [act, if_neg h1, if_pos h2]
      rw [e]
      subst h2
      rw [hv] at hcell
      refine (change_range t ps.length cc k a _ _ w hcell (by omega) hk).mono ?_
      rintro e w' ⟨rfl, rfl⟩
      exact ⟨rfl, hT, Apart.refl _ _ _, fun h => absurd h (by simp), fun _ => Below.refl _ _, fun _ _ h => h⟩
    · have h2' : may = true := by simpa using h2
      have hpk : ps[k]? = some ps[k] := List.getElem?_eq_getElem hk
      obtain ⟨hr, hc⟩ := hT.rows (by omega)
      have hs : slc g c ps = .slice (some ⟨g, 0, none⟩) ps.length c := by unfold slc; rw [if_neg (by omega)]
      rw [hs] at hcell
      have hP := hc k _ hpk
      have hS' := hS h2' ps[k] (List.getElem_mem hk)
      have hD' := hD h2' k ps[k]
      subst h2'
      cases hf : f ps[k] with
      | none =>
        have e : act f true ps k = (ps, 10) := by simp [act, if_neg h1, hpk, hf, hk]
        rw [e]
        rw [hf] at hS'
        refine (change_state t g ps.length c k ks kd capS capD _ w eS hcell (by omega) hk hP hS').mono ?_
        rintro e w' ⟨rfl, hb⟩
        exact ⟨rfl, hT.below hb, Apart.of_below hb hB, fun h => absurd h (by simp), fun _ => hb, fun _ _ h => h.below hb⟩
      | some p' =>
        have e : act f true ps k = (ps.set k p', 0) := by simp [act, if_neg h1, hpk, hf, hk]
        rw [e]
        rw [hf] at hS'
        refine (change_do t g ps.length c k ks kd capS capD _ w (fun w1 w2 => Near B w1 w2 g (k * 13) ∧ PrAt w2 g (k * 13) p' ∧ X ps[k] w2) eS eD hcell (by omega) hk hP hr hT.lt hS'
          (fun w1 hb => hD' p' hpk hf w1 hb (hP.congr fun j _ _ => hb.cell (p := ⟨g, j, none⟩) hr.lt) (hr.below hb))).mono ?_
        rintro e w' ⟨rfl, w1, hb, hn, hp, hx⟩
        refine ⟨rfl, ((hT.below hb).put hn htB hk hp), (Apart.of_below hb hB).trans (Apart.of_near hn), fun _ => ⟨_, hpk, hx⟩, fun h => absurd rfl h, fun b T h => hn.row b T (h.below hb)⟩

end Go.Proofs.Ytgnjenmicojgnaa
