/-
  What may answers of whatever is asked for.
  Plain lemmas on rows of processes, and the step of New.
  What New makes of a list of at most 2 to the 47 attributes.
  What Clone makes of a table.
  What Missed tells and marks, for every tick that may be.
  What is true of every process stays true, whatever is done. No condition.
  The contracts with the outcome named; the document's example is answered true.
  What slices.Equal answers of two slices of whole numbers that read as lists. No condition.
  What seen, Same's function, slices.EqualFunc and Same answer of processes and of two tables. No condition.
  What slices.EqualFunc and Same answer of two tables of processes. No condition.
-/
import Derived.Test.YtgnjenmicojgnaaGreatQa
import Derived.Handy
import Derived.Deep.RegionHeld3
import Derived.Deep.AppendLies
import Derived.Deep.RegionLaw
import Derived.Deep.DeepCutAuto
import Derived.BigQuiet
namespace Go.Proofs.YtgnjenmicojgnaaGreat
set_option linter.unusedVariables false
set_option linter.unusedSimpArgs false
open Go.RowKit

def mayB (pri per cap dl off : Int) : Bool := inB per 0 1048576 && (inB cap 0 1048576 && (inB dl 0 1048576 && (inB off 0 1048576 && inB pri 1 63)))

set_option maxRecDepth 100000 in
set_option maxHeartbeats 1000000 in
theorem may_any (pri per cap dl off : Int) (w : World) :
    Calls Tryz.prog 63 #[.agg #[.int .i64 pri, .int .i64 per, .int .i64 cap, .int .i64 dl, .int .i64 off]] w fun e w' => e = .returned (.bool (mayB pri per cap dl off)) ∧ Below w.heap.size w w' := by
  unfold mayB
  have hcs : inB per 0 1048576 = false ∨ (inB per 0 1048576 = true ∧ inB cap 0 1048576 = false) ∨ (inB per 0 1048576 = true ∧ inB cap 0 1048576 = true ∧ inB dl 0 1048576 = false) ∨ (inB per 0 1048576 = true ∧ inB cap 0 1048576 = true ∧ inB dl 0 1048576 = true ∧ inB off 0 1048576 = false) ∨ (inB per 0 1048576 = true ∧ inB cap 0 1048576 = true ∧ inB dl 0 1048576 = true ∧ inB off 0 1048576 = true) := by
    cases inB per 0 1048576 <;> cases inB cap 0 1048576 <;> cases inB dl 0 1048576 <;> cases inB off 0 1048576 <;> simp
  rcases hcs with h1 | ⟨h1, h2⟩ | ⟨h1, h2, h3⟩ | ⟨h1, h2, h3, h4⟩ | ⟨h1, h2, h3, h4⟩
  all_goals
    go_enter Tryz.func63, Tryz.ntmps63
    go_wp2_with fail
    refine wp_loop_rounds 5 ?_
    repeat (rw [rounds_succ]; go_wp2_with (go_at_call 81; refine (in_any _ _ _ _).mono ?_; rintro e w' ⟨rfl, rfl⟩))
    go_ret
    exact ⟨ret_bool (by simp [*]), by repeat first | with_reducible exact Below.refl _ _ | (with_reducible refine Below.alloc ?_ (by simp) _)⟩

end Go.Proofs.YtgnjenmicojgnaaGreat

namespace Go.Proofs.YtgnjenmicojgnaaGreat
set_option linter.unusedVariables false
set_option linter.unusedSimpArgs false
open Go.RowKit

def flat (ps : List Pr) : List Value := ps.flatMap fun p => p.cells.toList

theorem flat_length (ps : List Pr) : (flat ps).length = ps.length * 13 := by
  unfold flat
  induction ps with
  | nil => rfl
  | cons p ps ih => rw [List.flatMap_cons, List.length_append, ih]; simp [Pr.cells]; omega

theorem flat_get : ∀ (ps : List Pr) (i k : Nat) (p : Pr), ps[i]? = some p → k < 13 → (flat ps)[i * 13 + k]? = p.cells[k]?
  | [], i, k, p, h, _ => by simp at h
  | q :: ps, 0, k, p, h, hk => by
    simp at h
    subst h
    unfold flat
    rw [List.flatMap_cons, Nat.zero_mul, Nat.zero_add, List.getElem?_append_left (by simp [Pr.cells]; omega)]
    simp
  | q :: ps, i + 1, k, p, h, hk => by
    have ih := flat_get ps i k p (by simpa using h) hk
    unfold flat at ih ⊢
    rw [List.flatMap_cons, List.getElem?_append_right (by simp [Pr.cells]; omega)]
    have e : (i + 1) * 13 + k - q.cells.toList.length = i * 13 + k := by simp [Pr.cells]; omega
    rw [e]
    exact ih

theorem flat_snoc (ps : List Pr) (p : Pr) : flat (ps ++ [p]) = flat ps ++ p.cells.toList := by simp [flat]

theorem prAt_of {w : World} {g o : Nat} {p : Pr} (h : ∀ k, k < 13 → w.cell? ⟨g, o + k, none⟩ = p.cells[k]?) : PrAt w g o p where
  c0 := h 0 (by omega)
  c1 := h 1 (by omega)
  c2 := h 2 (by omega)
  c3 := h 3 (by omega)
  c4 := h 4 (by omega)
  c5 := h 5 (by omega)
  c6 := h 6 (by omega)
  c7 := h 7 (by omega)
  c8 := h 8 (by omega)
  c9 := h 9 (by omega)
  c10 := h 10 (by omega)
  c11 := h 11 (by omega)
  c12 := h 12 (by omega)

theorem prAt_to {w : World} {g o : Nat} {p : Pr} (h : PrAt w g o p) : ∀ k, k < 13 → w.cell? ⟨g, o + k, none⟩ = p.cells[k]?
  | 0, _ => h.c0
  | 1, _ => h.c1
  | 2, _ => h.c2
  | 3, _ => h.c3
  | 4, _ => h.c4
  | 5, _ => h.c5
  | 6, _ => h.c6
  | 7, _ => h.c7
  | 8, _ => h.c8
  | 9, _ => h.c9
  | 10, _ => h.c10
  | 11, _ => h.c11
  | 12, _ => h.c12
  | k + 13, hk => by omega

/-- A table out of a row that the call owns. -/
theorem tab_of_own {w : World} {t base : Nat} {va : Option Addr} {vc : Nat} {ps : List Pr} (hh : w.heap[t]? = some (.cells #[.slice va ps.length vc] 86 (0, 0)))
    (ho : w.ownsRow base 82 13 (.slice va ps.length vc) ps.length (flat ps)) (h0 : ps.length = 0 → Value.slice va ps.length vc = .slice none 0 0) (hl : ps.length ≤ 16) :
    ∃ g c, Tab w t g c ps ∧ (ps.length ≠ 0 → base ≤ g) := by
  by_cases hz : ps.length = 0
  · refine ⟨0, 0, ⟨?_, fun h => absurd hz h, hl⟩, fun h => absurd hz h⟩
    rw [hh, h0 hz]
    simp [slc, hz]
  · rcases ho.2 with ⟨_, h⟩ | ⟨g, cap, cur, hv, hg, hc, _⟩
    · exact absurd h hz
    · injection hv with hva _ hvc
      subst hva hvc
      refine ⟨g, vc, ⟨?_, fun _ => ⟨⟨_, hc⟩, fun i p hi => prAt_of fun k hk => ?_⟩, hl⟩, fun _ => hg⟩
      · rw [hh]; simp [slc, hz]
      · have hil : i < ps.length := (List.getElem?_eq_some_iff.1 hi).1
        rw [← flat_get ps i k p hi hk]
        exact ho.cellAt (i * 13 + k) (by omega)

/-- The cells of a table's processes, as append reads them. -/
theorem tab_news {w : World} {t g c : Nat} {ps : List Pr} (h : Tab w t g c ps) (hl : ps.length ≠ 0) : ∀ j u, (flat ps)[j]? = some u → w.cell? ((⟨g, 0, none⟩ : Addr).add j) = some u := by
  intro j u hu
  have hj : j < ps.length * 13 := by
    have := (List.getElem?_eq_some_iff.1 hu).1
    rwa [flat_length] at this
  have hadd : (⟨g, 0, none⟩ : Addr).add j = ⟨g, j, none⟩ := by unfold Addr.add; split <;> simp_all
  have hi : j / 13 < ps.length := by omega
  have hp : ps[j / 13]? = some ps[j / 13] := List.getElem?_eq_getElem hi
  have hP := (h.rows hl).2 _ _ hp
  have e := prAt_to hP (j % 13) (by omega)
  have f := flat_get ps (j / 13) (j % 13) _ hp (by omega)
  have hjj : j / 13 * 13 + j % 13 = j := by omega
  rw [hjj] at e f
  rw [hadd, e, ← f, hu]

theorem flat_one (ps : List Pr) : ∀ u ∈ flat ps, u.oneCell' = true := by
  intro u hu
  unfold flat at hu
  rw [List.mem_flatMap] at hu
  obtain ⟨p, _, hp⟩ := hu
  simp [Pr.cells] at hp
  rcases hp with h | h | h | h | h | h | h | h | h | h | h | h | h <;> subst h <;> rfl

/-- What a process is asked for. -/
structure At where
  pri : Int
  per : Int
  cap : Int
  dl : Int
  off : Int

structure AtAt (w : World) (b o : Nat) (a : At) : Prop where
  c0 : w.cell? ⟨b, o, none⟩ = some (.int .i64 a.pri)
  c1 : w.cell? ⟨b, o + 1, none⟩ = some (.int .i64 a.per)
  c2 : w.cell? ⟨b, o + 2, none⟩ = some (.int .i64 a.cap)
  c3 : w.cell? ⟨b, o + 3, none⟩ = some (.int .i64 a.dl)
  c4 : w.cell? ⟨b, o + 4, none⟩ = some (.int .i64 a.off)

def At.may (a : At) : Bool := mayB a.pri a.per a.cap a.dl a.off
def prOf (a : At) : Pr := ⟨a.pri, a.per, a.cap, a.dl, a.off, 0, false, 0, 0, 0, 0, 0, false⟩
def newOk (l : List At) : Bool := decide (l.length ≤ 16) && l.all At.may

/-- A slice value whose elements are what processes are asked for. -/
def AtRow (w : World) (A : Option Addr) (l : List At) : Prop := l.length ≠ 0 → ∃ b o, A = some ⟨b, o, none⟩ ∧ b < w.heap.size ∧ ∀ k a, l[k]? = some a → AtAt w b (o + k * 5) a

theorem info82 : (Tryz.prog.info? 82).map (fun i => (i.zero, i.size, i.bytes)) = some (some (.agg zeroP.cells), 13, 104) := by kernel_rfl

/-- New's loop: what holds behind k rounds. -/
def NewRel (w : World) (l : List At) (k : Nat) (va : Option Addr) (vc : Nat) (wr : World) : Prop :=
  wr.heap[w.heap.size]? = some (.cells #[.slice va k vc] 86 (0, 0)) ∧ wr.ownsRow (w.heap.size + 1) 82 13 (.slice va k vc) k (flat ((l.take k).map prOf)) ∧ Below w.heap.size w wr ∧
    (k = 0 → Value.slice va k vc = .slice none 0 0) ∧ (l.take k).all At.may = true

theorem new_start (w : World) (l : List At) : NewRel w l 0 none 0 (w.alloc (.cells #[.slice none 0 0] 86)) := by
  refine ⟨heap_alloc_new w _, ?_, (Below.refl _ _).alloc (Nat.le_refl _) _, fun _ => rfl, rfl⟩
  exact World.ownsRow_nil _ _ _ _

theorem take_snoc' {α : Type} (l : List α) (k : Nat) (a : α) (h : l[k]? = some a) : l.take (k + 1) = l.take k ++ [a] := by
  rw [List.take_add_one, h]; rfl

theorem new_step {w wr w1 w2 : World} {l : List At} {k : Nat} {va : Option Addr} {vc : Nat} {a : At} {o : Obj} (h : NewRel w l k va vc wr) (hlk : l[k]? = some a) (hm : a.may = true)
    (hb1 : Below (wr.alloc o).heap.size (wr.alloc o) w1) {p : Obj} {gg cap : Nat}
    (hown2 : w2.ownsRow (w.heap.size + 1) 82 13 (.slice (some ⟨gg, 0, none⟩) (k + 1) cap) (k + 1) (flat ((l.take k).map prOf) ++ (prOf a).cells.toList))
    (hgrow : (w1.alloc p).drew.grownBy w2 (Value.ownBlock (.slice va k vc))) :
    NewRel w l (k + 1) (some ⟨gg, 0, none⟩) cap (w2.setCell ⟨w.heap.size, 0, none⟩ (.slice (some ⟨gg, 0, none⟩) (k + 1) cap)) := by
  obtain ⟨hh, hown, hb, -, hall⟩ := h
  have htl : w.heap.size < wr.heap.size := Row.lt ⟨_, hh⟩
  have hs1 := hb1.size
  rw [World.size_alloc] at hs1
  have hne : some w.heap.size ≠ Value.ownBlock (.slice va k vc) := fun he => by have := (hown.lt _ he.symm).1; omega
  have e1 : w1.heap[w.heap.size]? = wr.heap[w.heap.size]? := (hb1.block _ (by simp; omega)).trans (Below.heap_alloc _ _ _ htl)
  have e2 : w2.heap[w.heap.size]? = some (.cells #[.slice va k vc] 86 (0, 0)) := by
    rw [hgrow.block _ (by simp; omega) hne]
    exact (Below.heap_alloc w1 p _ (by omega)).trans (e1.trans hh)
  have hb2 : Below w.heap.size w w2 := by
    have k1 : Below w.heap.size w w1 := (hb.alloc hb.size o).trans (hb1.mono (by simp; omega))
    have k2 : Below w.heap.size w (w1.alloc p).drew := (k1.alloc k1.size p).drew
    exact k2.grown hgrow k2.size (fun g hg => by have := (hown.lt g hg).1; omega)
  refine ⟨?_, ?_, hb2.setCell (Nat.le_refl _) _, fun h => by omega, ?_⟩
  · simp [World.setCell, Array.getElem?_modify, e2]
  · rw [take_snoc' l k a hlk, List.map_append, List.map_singleton, flat_snoc]
    exact ownsRow_setCell_below hown2 (by simp) _
  · rw [take_snoc' l k a hlk, List.all_append, hall]
    simp [hm]

end Go.Proofs.YtgnjenmicojgnaaGreat

namespace Go.Proofs.YtgnjenmicojgnaaGreat
set_option linter.unusedVariables false
set_option linter.unusedSimpArgs false
open Go.RowKit

def NewPost (w : World) (l : List At) (e : Ending) (w' : World) : Prop :=
  ((newOk l = true ∧ ∃ t g c, e = .returned (.tuple #[.pointer (some ⟨t, 0, none⟩), .int .i64 0]) ∧ Tab w' t g c (l.map prOf) ∧ w.heap.size ≤ t ∧ (l.length ≠ 0 → w.heap.size ≤ g)) ∨
    (newOk l = false ∧ e = .returned (.tuple #[.pointer none, .int .i64 (if 16 < l.length then 8 else 2)]))) ∧ Below w.heap.size w w'

set_option maxRecDepth 100000 in
set_option maxHeartbeats 1000000 in
theorem new_any (A : Option Addr) (n cc : Nat) (l : List At) (w : World) (hn : l.length = n) (hA : AtRow w A l) (hm : n ≤ 140737488355328) :
    Calls Tryz.prog 26 #[.slice A n cc] w (NewPost w l) := by
  by_cases hs : n ≤ 16
  case neg =>
    have HP : Hid (NewPost w l (.returned (.tuple #[.pointer none, .int .i64 8])) w) := by
      refine ⟨.inr ⟨?_, ?_⟩, Below.refl _ _⟩
      · unfold newOk; simp; omega
      · rw [if_pos (by omega)]
    clear hn hA
    go_enter Tryz.func26, Tryz.ntmps26
    go_wp2
    go_ret2
    exact HP.out
  case pos =>
  obtain ⟨i0, hi0, hz0, hz1, hz2⟩ := info_parts info82
  have HN := Lib.hid hn
  have HA := Lib.hid hA
  clear hn hA
  go_enter Tryz.func26, Tryz.ntmps26
  go_wp2_with fail
  go_loopw [14] (fun i wr => ∃ k : Nat, k ≤ n ∧ i = .int .i64 k ∧ ∃ va vc, NewRel w l k va vc wr) (fun i _ => n - (intOf i).toNat)
  case atStart => exact ⟨0, Nat.zero_le _, rfl, none, 0, new_start w l⟩
  case round =>
    obtain ⟨k, hk, rfl, va, vc, hrel⟩ := hrel
    have HREL := Lib.hid hrel
    have hb := hrel.2.2.1
    have htl : w.heap.size < wr.heap.size := Row.lt ⟨_, hrel.1⟩
    by_cases hlt : k < n
    · obtain ⟨b, o, rfl, hbl, hel⟩ := HA.out (by have := HN.out; omega)
      obtain ⟨a, hlk⟩ : ∃ a, l[k]? = some a := ⟨_, List.getElem?_eq_getElem (by have := HN.out; omega)⟩
      have hE := hel k a hlk
      have hbr := hb.size
      have e0 := (hb.cell (p := ⟨b, o + k * 5, none⟩) hbl).trans hE.c0
      have e1 := (hb.cell (p := ⟨b, o + k * 5 + 1, none⟩) hbl).trans hE.c1
      have e2 := (hb.cell (p := ⟨b, o + k * 5 + 2, none⟩) hbl).trans hE.c2
      have e3 := (hb.cell (p := ⟨b, o + k * 5 + 3, none⟩) hbl).trans hE.c3
      have e4 := (hb.cell (p := ⟨b, o + k * 5 + 4, none⟩) hbl).trans hE.c4
      have hbl' : b < wr.heap.size := by omega
      have HLK := Lib.hid hlk
      clear hlk hel hE hrel
      go_wp2_with fail
      refine (may_any a.pri a.per a.cap a.dl a.off _).mono ?_
      rintro e w1 ⟨rfl, hb1⟩
      cases hmay : mayB a.pri a.per a.cap a.dl a.off with
      | false =>
        have HP : Hid (NewPost w l (.returned (.tuple #[.pointer none, .int .i64 2])) w1) := by
          have hf : a.may = false := hmay
          refine ⟨.inr ⟨?_, ?_⟩, (hb.alloc hb.size _).trans (hb1.mono (by simp; omega))⟩
          · have hmem : a ∈ l := List.mem_of_getElem? HLK.out
            have : l.all At.may = false := List.all_eq_false.2 ⟨a, hmem, by simp [hf]⟩
            unfold newOk
            rw [this, Bool.and_false]
          · rw [if_neg (by have := HN.out; omega)]
        have HB1 := Lib.hid hb1
        clear hb1
        go_wp2
        go_ret2
        exact HP.out
      | true =>
        have hs1 := hb1.size
        rw [World.size_alloc] at hs1
        obtain ⟨hh, hown, -⟩ := HREL.out
        have hh1 : w1.heap[w.heap.size]? = some (.cells #[.slice va k vc] 86 (0, 0)) := (hb1.block _ (by simp; omega)).trans ((Below.heap_alloc _ _ _ htl).trans hh)
        have hown1 : w1.ownsRow (w.heap.size + 1) 82 13 (.slice va k vc) k (flat ((l.take k).map prOf)) := (hown.alloc _).kept (row := none) ⟨hb1.os, hb1.tape, hb1.output, hb1.size, fun i hi _ => hb1.block i hi⟩ (by cases h : Value.ownBlock (.slice va k vc) <;> simp)
        have q0 : w1.cell? ⟨wr.heap.size, 0, none⟩ = some (.int .i64 a.pri) := (hb1.cell (p := ⟨wr.heap.size, 0, none⟩) (by simp)).trans (by simp)
        have q1 : w1.cell? ⟨wr.heap.size, 1, none⟩ = some (.int .i64 a.per) := (hb1.cell (p := ⟨wr.heap.size, 1, none⟩) (by simp)).trans (by simp)
        have q2 : w1.cell? ⟨wr.heap.size, 2, none⟩ = some (.int .i64 a.cap) := (hb1.cell (p := ⟨wr.heap.size, 2, none⟩) (by simp)).trans (by simp)
        have q3 : w1.cell? ⟨wr.heap.size, 3, none⟩ = some (.int .i64 a.dl) := (hb1.cell (p := ⟨wr.heap.size, 3, none⟩) (by simp)).trans (by simp)
        have q4 : w1.cell? ⟨wr.heap.size, 4, none⟩ = some (.int .i64 a.off) := (hb1.cell (p := ⟨wr.heap.size, 4, none⟩) (by simp)).trans (by simp)
        have t0 : w1.cell? ⟨w.heap.size, 0, none⟩ = some (.slice va k vc) := by simp [World.cell?, hh1]
        have tf : w1.frozen? ⟨w.heap.size, 0, none⟩ = false := Row.fz ⟨_, hh1⟩ 0
        have htl1 : w.heap.size < w1.heap.size := by omega
        have hrl1 : wr.heap.size < w1.heap.size := by omega
        have HNE : Hid (some w.heap.size ≠ Value.ownBlock (.slice va k vc)) := fun he => by have := (hown1.lt _ he.symm).1; omega
        have HMAY : Hid (a.may = true) := hmay
        have HOWN1 := Lib.hid hown1
        have HB1 := Lib.hid hb1
        clear hh hown hh1 hown1 hb1
        go_wp2_with fail
        go_region_law (
          (refine step_append_lies _ (by rfl) _ _ _ (by rfl) (w.heap.size + 1) 82 i0 _ 13 104 Tryz.underlying84 hi0 hz0 hz1 hz2 rfl (by omega) (.slice va k vc) k (flat ((l.take k).map prOf)) (by rfl) ((HOWN1.out.alloc _).drew)
              ⟨w1.heap.size, 0, none⟩ 1 1 (prOf a).cells.toList (by rfl) (by rfl) (World.news_of_block (cs := (prOf a).cells) (t := 82) (fr := (0, 0)) (heap_alloc_new w1 _)) (by simp [Value.oneCell', prOf, Pr.cells])
              (by omega) (by unfold maxLen; omega) (by omega) (by simp; omega) (w1.heap.size + 1) (by simp) ?_
           intro gg cap w2 hown2 hgrow hat hlt2
           have t2 : w2.cell? ⟨w.heap.size, 0, none⟩ = some (.slice va k vc) := (hgrow.cell_far ⟨w.heap.size, 0, none⟩ (by simp; omega) HNE.out).trans (by simp [World.cell?_alloc_lt, htl1, t0])
           have tf2 : w2.frozen? ⟨w.heap.size, 0, none⟩ = false := (hgrow.frozen_far ⟨w.heap.size, 0, none⟩ (by simp; omega) HNE.out).trans (by go_simp)))
        all_goals
          have HR := Lib.hid (new_step HREL.out HLK.out HMAY.out HB1.out hown2 hgrow)
          clear hown2 hgrow
          go_wp2
          go_roundw
          case rel => exact ⟨k + 1, by omega, by go_num, some ⟨gg, 0, none⟩, cap, HR.out⟩
          case measure => simp [intOf]; omega
    · have hkn : k = n := by omega
      have HP : Hid (NewPost w l (.returned (.tuple #[.pointer (some ⟨w.heap.size, 0, none⟩), .int .i64 0])) wr) := by
        obtain ⟨hh, hown, hb, h0, hall⟩ := hrel
        have hl := HN.out
        have htk : l.take k = l := List.take_of_length_le (by omega)
        rw [htk] at hown hall
        have e1 : (l.map prOf).length = k := by rw [List.length_map]; omega
        obtain ⟨g, c, hT, hg⟩ := tab_of_own (t := w.heap.size) (base := w.heap.size + 1) (va := va) (vc := vc) (ps := l.map prOf) (by rw [e1]; exact hh) (by rw [e1]; exact hown) (by rw [e1]; exact h0) (by omega)
        refine ⟨.inl ⟨?_, w.heap.size, g, c, rfl, hT, Nat.le_refl _, fun h => ?_⟩, hb⟩
        · unfold newOk
          rw [hall]
          simp
          omega
        · have := hg (by rw [e1]; omega)
          omega
      clear hrel
      go_wp2_with fail
      go_ret2
      exact HP.out

end Go.Proofs.YtgnjenmicojgnaaGreat

namespace Go.Proofs.YtgnjenmicojgnaaGreat
set_option linter.unusedVariables false
set_option linter.unusedSimpArgs false
open Go.RowKit

def CloneSl (w : World) (ps : List Pr) (e : Ending) (w' : World) : Prop :=
  ∃ g' c', e = .returned (.slice (some ⟨g', 0, none⟩) ps.length c') ∧ w'.ownsRow w.heap.size 82 13 (.slice (some ⟨g', 0, none⟩) ps.length c') ps.length (flat ps) ∧ Below w.heap.size w w'

set_option maxRecDepth 100000 in
set_option maxHeartbeats 400000 in
theorem clone_sl (t g c : Nat) (ps : List Pr) (w : World) (hT : Tab w t g c ps) (hl : ps.length ≠ 0) :
    Calls Tryz.prog 56 #[.slice (some ⟨g, 0, none⟩) ps.length c] w (CloneSl w ps) := by
  obtain ⟨i0, hi0, hz0, hz1, hz2⟩ := info_parts info82
  have hnil := fun (wx : World) (a : Option Addr) (n c n' c' : Nat) => Lib.run_eql_slice_nil (P := Tryz.prog) wx 84 82 a n c n' c' Tryz.underlying84
  have hlen := hT.len
  have HT := Lib.hid hT
  have HL := Lib.hid hl
  clear hT hl
  have hfl := Lib.hid (flat_length ps)
  go_enter Tryz.func56, Tryz.ntmps56
  go_wp2_with (first
    | (at_builtin
       refine wpList_append_own _ rfl (.tmp 5) (.tmp 6) 84 rfl w.heap.size 82 i0 _ 13 104 Tryz.underlying84 hi0 hz0 hz1 hz2 rfl (by decide) (.slice (some ⟨w.heap.size, 0, none⟩) 0 0) 0 [] rfl
         (by have := World.ownsRow_lit (base := w.heap.size) (e := 82) (size := 13) w #[] 0 (Nat.le_refl _) (by unfold maxLen; omega) rfl; exact this) ⟨g, 0, none⟩ ps.length c (flat ps) rfl hfl.out (tab_news (HT.out.alloc _) HL.out) (flat_one ps) (by unfold maxLen; omega) (by omega) (by simp) ?_
       intro v' w1 hown1 hgrow hiff))
  go_ret
  rw [Nat.zero_add, List.nil_append] at hown1
  have hb : Below w.heap.size w w1 := ((Below.refl w.heap.size w).alloc (Nat.le_refl _) _).grown hgrow (by simp) (fun k hk => by simp [Value.ownBlock] at hk; omega)
  rcases hown1.2 with ⟨_, h⟩ | ⟨g', cap, cur, hv, _⟩
  · exact absurd h HL.out
  · subst hv
    exact ⟨g', cap, rfl, hown1, hb⟩

def ClonePost (w : World) (ps : List Pr) (e : Ending) (w' : World) : Prop :=
  ∃ t' g' c', e = .returned (.pointer (some ⟨t', 0, none⟩)) ∧ Tab w' t' g' c' ps ∧ w.heap.size ≤ t' ∧ (ps.length ≠ 0 → w.heap.size ≤ g') ∧ Below w.heap.size w w'

set_option maxRecDepth 100000 in
set_option maxHeartbeats 400000 in
theorem clone_any (t g c : Nat) (ps : List Pr) (w : World) (hT : Tab w t g c ps) :
    Calls Tryz.prog 20 #[.pointer (some ⟨t, 0, none⟩)] w (ClonePost w ps) := by
  have hcell := hT.cell
  have htl := hT.lt
  by_cases hl : ps.length = 0
  · have hnil := fun (wx : World) (a : Option Addr) (n c n' c' : Nat) => Lib.run_eql_slice_nil (P := Tryz.prog) wx 84 82 a n c n' c' Tryz.underlying84
    have hs : slc g c ps = .slice none 0 0 := by unfold slc; rw [if_pos hl]
    rw [hs] at hcell
    have hle := hT.len
    have HL := Lib.hid hl
    clear hT hl hs
    go_enter Tryz.func20, Tryz.ntmps20
    go_wp2
    go_ret
    have hl := HL.out
    refine ⟨w.heap.size, 0, 0, rfl, ⟨?_, fun h => absurd hl h, hle⟩, Nat.le_refl _, fun h => absurd hl h, (Below.refl _ _).alloc (Nat.le_refl _) _⟩
    rw [heap_alloc_new]
    simp [slc, hl]
  · have hs : slc g c ps = .slice (some ⟨g, 0, none⟩) ps.length c := by unfold slc; rw [if_neg hl]
    rw [hs] at hcell
    have hle := hT.len
    have HT := Lib.hid hT
    have HL := Lib.hid hl
    clear hT hl hs
    go_enter Tryz.func20, Tryz.ntmps20
    go_wp2_with fail
    refine (clone_sl t g c ps w HT.out HL.out).mono ?_
    rintro e w1 ⟨g', c', rfl, hown, hb⟩
    have HO := Lib.hid hown
    have HB := Lib.hid hb
    clear hown hb
    go_wp2
    go_ret
    have hl := HL.out
    have hb := HB.out
    obtain ⟨g2, c2, hT2, hg2⟩ := tab_of_own (t := w1.heap.size) (w := w1.alloc (.cells #[.slice (some ⟨g', 0, none⟩) ps.length c'] 86)) (base := w.heap.size) (va := some ⟨g', 0, none⟩) (vc := c') (ps := ps) (heap_alloc_new _ _) (HO.out.alloc _) (fun h => absurd h hl) hle
    exact ⟨w1.heap.size, g2, c2, rfl, hT2, hb.size, hg2, hb.alloc hb.size _⟩

end Go.Proofs.YtgnjenmicojgnaaGreat

namespace Go.Proofs.YtgnjenmicojgnaaGreat
set_option linter.unusedVariables false
set_option linter.unusedSimpArgs false
open Go.RowKit

/-- The worlds that lie behind W: nothing of it has turned, new blocks may have come. -/
def BW (W : World) : Type := { w' : World // Below W.heap.size W w' }

instance instNonemptyBW (W : World) : Nonempty (BW W) := ⟨⟨W, Below.refl _ _⟩⟩

/-- A region that draws its order, whose operations only read, and whose callees leave all that was: one walk in the order of the text. -/
theorem wp_region_bw {P : Program} {id : Nat} {Q : Exit → Act → World → Prop} {a : Act} {w : World} {l : List Oper} (hm : P.follows .mixedOrders = true) (hB : Region.lexB .any l.toArray = true)
    (h : wpQuiet P l.toArray (fun w' => ∃ x : BW w, w' = x.val) (fun a' => ∀ w', (∃ x : BW w, w' = x.val) → Q .normal a' w') l a) : (Code.region id l.toArray true).wp P Q a w :=
  wp_region_quiet (C := fun w' => ∃ x : BW w, w' = x.val) hm hB ⟨⟨w.drew, (Below.refl _ _).drew⟩, rfl⟩ (by simpa using h)

theorem BW.cell {W : World} (x : BW W) (b o : Nat) (h : b < W.heap.size) : x.val.cell? ⟨b, o, none⟩ = W.cell? ⟨b, o, none⟩ := x.property.cell (p := ⟨b, o, none⟩) h
theorem BW.frozen {W : World} (x : BW W) (b o : Nat) (h : b < W.heap.size) : x.val.frozen? ⟨b, o, none⟩ = W.frozen? ⟨b, o, none⟩ := x.property.frozen (p := ⟨b, o, none⟩) h

/-- A callee's contract, met in such a world. -/
theorem Calls.bw {P : Program} {f : FuncId} {args : Array Value} {W : World} {v : Value} {x : BW W} (h : Calls P f args x.val fun e w' => e = .returned v ∧ Below x.val.heap.size x.val w') :
    Calls P f args x.val fun e w'' => e = .returned v ∧ ∃ y : BW W, w'' = y.val :=
  h.mono fun _ w' ⟨he, hb⟩ => ⟨he, ⟨w', x.property.trans (hb.mono x.property.size)⟩, rfl⟩

def Pr.busyB (p : Pr) : Bool := p.st == 1 || p.st == 2
theorem busy_is {p : Pr} {b : Bool} (h : p.busyB = b) (w : World) :
    Calls Tryz.prog 88 #[.agg p.cells] w fun e w' => e = .returned (.bool b) ∧ Below w.heap.size w w' := by
  subst h
  exact busy_any p w

theorem info3 : (Tryz.prog.info? 3).map (fun i => (i.zero, i.size, i.bytes)) = some (some (.int .i64 0), 1, 8) := by kernel_rfl

/-- Is a deadline missed, that was not told yet? -/
def missB (now : Int) (p : Pr) : Bool := decide (0 < p.dl) && (p.busyB && (!p.missed && decide (p.beg + p.dl ≤ now)))
def markP (now : Int) (p : Pr) : Pr := if missB now p = true then { p with missed := true } else p
def markTo (now : Int) (ps : List Pr) (k : Nat) : List Pr := (ps.take k).map (markP now) ++ ps.drop k
def isMiss (now : Int) (ps : List Pr) (i : Nat) : Bool := ((ps[i]?).map (missB now)).getD false
def idsTo (now : Int) (ps : List Pr) (k : Nat) : List Int := ((List.range k).filter (isMiss now ps)).map Int.ofNat

theorem markTo_length (now : Int) (ps : List Pr) (k : Nat) : (markTo now ps k).length = ps.length := by
  simp [markTo]; omega
theorem markTo_get (now : Int) (ps : List Pr) (k : Nat) (hk : k < ps.length) : (markTo now ps k)[k]? = ps[k]? := by
  unfold markTo
  rw [List.getElem?_append_right (by simp; omega)]
  simp [List.getElem?_drop]
  congr 1
  omega
theorem markTo_succ (now : Int) (ps : List Pr) (k : Nat) (p : Pr) (h : ps[k]? = some p) : markTo now ps (k + 1) = (markTo now ps k).set k (markP now p) := by
  have hk : k < ps.length := (List.getElem?_eq_some_iff.1 h).1
  unfold markTo
  rw [take_snoc' ps k p h, List.map_append, List.map_singleton, List.append_assoc, List.set_append_right _ _ (by simp; omega)]
  congr 1
  have e : k - ((ps.take k).map (markP now)).length = 0 := by simp; omega
  rw [e]
  have hd : ps.drop k = p :: ps.drop (k + 1) := by
    rw [List.drop_eq_getElem_cons hk]
    congr 1
    have := List.getElem?_eq_getElem hk
    rw [this] at h
    injection h
  rw [hd]
  rfl
theorem markTo_same (now : Int) (ps : List Pr) (k : Nat) (p : Pr) (h : ps[k]? = some p) (hm : missB now p = false) : markTo now ps (k + 1) = markTo now ps k := by
  rw [markTo_succ now ps k p h]
  have hk : k < ps.length := (List.getElem?_eq_some_iff.1 h).1
  have : markP now p = p := by unfold markP; rw [hm]; rfl
  rw [this]
  apply List.ext_getElem?
  intro j
  rw [List.getElem?_set]
  by_cases e : k = j
  · subst e
    rw [if_pos rfl, if_pos (by rw [markTo_length]; exact hk), markTo_get now ps k hk, h]
  · rw [if_neg e]
theorem idsTo_miss (now : Int) (ps : List Pr) (k : Nat) (p : Pr) (h : ps[k]? = some p) (hm : missB now p = true) : idsTo now ps (k + 1) = idsTo now ps k ++ [(k : Int)] := by
  unfold idsTo
  rw [List.range_succ, List.filter_append, List.map_append]
  have : isMiss now ps k = true := by simp [isMiss, h, hm]
  simp [List.filter_cons, this]
theorem idsTo_none (now : Int) (ps : List Pr) (k : Nat) (p : Pr) (h : ps[k]? = some p) (hm : missB now p = false) : idsTo now ps (k + 1) = idsTo now ps k := by
  unfold idsTo
  rw [List.range_succ, List.filter_append, List.map_append]
  have : isMiss now ps k = false := by simp [isMiss, h, hm]
  simp [List.filter_cons, this]
theorem idsTo_length (now : Int) (ps : List Pr) (k : Nat) : (idsTo now ps k).length ≤ k := by
  unfold idsTo
  rw [List.length_map]
  have := List.length_filter_le (isMiss now ps) (List.range k)
  rw [List.length_range] at this
  exact this

theorem Tab.keep2 {w w' : World} {t g c : Nat} {ps : List Pr} (h : Tab w t g c ps) (ht : w'.heap[t]? = w.heap[t]?) (hg : w'.heap[g]? = w.heap[g]?) : Tab w' t g c ps where
  hdr := ht.trans h.hdr
  rows := fun hp => by
    obtain ⟨⟨C, hC⟩, hc⟩ := h.rows hp
    exact ⟨⟨C, hg.trans hC⟩, fun i p hi => (hc i p hi).congr fun j _ _ => World.cell?_of_block (w := w) hg⟩
  len := h.len

/-- Missed's loop: what holds behind k rounds. -/
def MissRel (w : World) (t g c : Nat) (ps : List Pr) (now : Int) (k : Nat) (v : Value) (wr : World) : Prop :=
  wr.ownsRow w.heap.size 3 1 v (idsTo now ps k).length ((idsTo now ps k).map (Value.int .i64)) ∧ Tab wr t g c (markTo now ps k) ∧ Apart w.heap.size w wr g ∧ (idsTo now ps k = [] → v = .slice none 0 0)

theorem ownsRow_below {w w' : World} {base : Nat} {e : TypeId} {size : Nat} {v : Value} {n : Nat} {xs : List Value} (h : w.ownsRow base e size v n xs) (hb : Below w.heap.size w w') : w'.ownsRow base e size v n xs :=
  h.kept (row := none) ⟨hb.os, hb.tape, hb.output, hb.size, fun i hi _ => hb.block i hi⟩ (by cases h : Value.ownBlock v <;> simp)

theorem miss_keep {w wr w2 : World} {t g c : Nat} {ps : List Pr} {now : Int} {k : Nat} {v : Value} {p : Pr} (h : MissRel w t g c ps now k v wr) (hk : ps[k]? = some p) (hm : missB now p = false) (hb : Below wr.heap.size wr w2) :
    MissRel w t g c ps now (k + 1) v w2 := by
  obtain ⟨h1, h2, h3, h4⟩ := h
  unfold MissRel
  rw [idsTo_none now ps k p hk hm, markTo_same now ps k p hk hm]
  exact ⟨ownsRow_below h1 hb, h2.below hb, h3.trans (Apart.of_below hb h3.size), h4⟩

theorem miss_put {w wr w2 w3 : World} {t g c : Nat} {ps : List Pr} {now : Int} {k : Nat} {v v' : Value} {p : Pr} {o : Obj} (h : MissRel w t g c ps now k v wr) (hT0 : Tab w t g c ps) (hk : ps[k]? = some p) (hm : missB now p = true) (hb : Below wr.heap.size wr w2)
    (hown : w3.ownsRow w.heap.size 3 1 v' ((idsTo now ps k).length + 1) ((idsTo now ps k).map (Value.int .i64) ++ [.int .i64 k])) (hg : ((w2.setCell ⟨g, k * 13 + 12, none⟩ (.bool true)).alloc o).grownBy w3 v.ownBlock) :
    MissRel w t g c ps now (k + 1) v' w3 := by
  obtain ⟨h1, h2, h3, h4⟩ := h
  have hkl : k < ps.length := (List.getElem?_eq_some_iff.1 hk).1
  have hgl : g < w.heap.size := hT0.glt (by omega)
  have htl : t < w.heap.size := hT0.lt
  have hT2 := h2.below hb
  have hlen2 : (markTo now ps k).length ≠ 0 := by rw [markTo_length]; omega
  have hpk : (markTo now ps k)[k]? = some p := by rw [markTo_get now ps k hkl, hk]
  have hP : PrAt w2 g (k * 13) p := (hT2.rows hlen2).2 k p hpk
  have hn : Near w.heap.size w2 (w2.setCell ⟨g, k * 13 + 12, none⟩ (.bool true)) g (k * 13) := (Near.refl w.heap.size (k * 13) (hT2.glt hlen2)).set (k * 13 + 12) (by omega) _
  have hP' : PrAt (w2.setCell ⟨g, k * 13 + 12, none⟩ (.bool true)) g (k * 13) { p with missed := true } := by
    obtain ⟨c0, c1, c2, c3, c4, c5, c6, c7, c8, c9, c10, c11, c12⟩ := hP
    constructor <;> simp [*, World.cell?_setCell_same', World.cell?_setCell_other]
  have hT3 : Tab (w2.setCell ⟨g, k * 13 + 12, none⟩ (.bool true)) t g c ((markTo now ps k).set k { p with missed := true }) := hT2.put hn htl (by rw [markTo_length]; exact hkl) hP'
  have hmk : markP now p = { p with missed := true } := by unfold markP; rw [if_pos hm]
  have hT4 := hT3.alloc o
  have hown0 : ∀ j, v.ownBlock = some j → w.heap.size ≤ j := fun j hj => (h1.lt j hj).1
  have hs2 := h3.size
  have hs3 := hb.size
  have hA2 : Apart w.heap.size w ((w2.setCell ⟨g, k * 13 + 12, none⟩ (.bool true)).alloc o) g :=
    ((h3.trans (Apart.of_below hb h3.size)).trans (Apart.of_near hn)).alloc (Nat.le_refl _) o
  have hA3 : Apart w.heap.size ((w2.setCell ⟨g, k * 13 + 12, none⟩ (.bool true)).alloc o) w3 g := by
    exact ⟨hg.os, hg.tape, hg.output, hg.size, fun i hi hne => hg.block i (by simp; omega) (fun e => by have := hown0 i e.symm; omega)⟩
  unfold MissRel
  rw [idsTo_miss now ps k p hk hm, markTo_succ now ps k p hk, hmk, List.length_append, List.map_append]
  refine ⟨hown, ?_, hA2.trans hA3, fun h => by simp at h⟩
  have hown1 : ∀ b, b < w.heap.size → w3.heap[b]? = ((w2.setCell ⟨g, k * 13 + 12, none⟩ (.bool true)).alloc o).heap[b]? := fun b hb' => hg.block b (by simp; omega) (fun e => by have := hown0 b e.symm; omega)
  exact hT4.keep2 (hown1 t htl) (hown1 g hgl)

def MissPost (w : World) (t g c : Nat) (ps : List Pr) (now : Int) (e : Ending) (w' : World) : Prop :=
  ∃ v, e = .returned v ∧ w'.ownsRow w.heap.size 3 1 v (idsTo now ps ps.length).length ((idsTo now ps ps.length).map (Value.int .i64)) ∧ Tab w' t g c (ps.map (markP now)) ∧ Apart w.heap.size w w' g ∧ (idsTo now ps ps.length = [] → v = .slice none 0 0)

set_option maxRecDepth 100000 in
set_option maxHeartbeats 2000000 in
theorem missed_any (t g c : Nat) (ps : List Pr) (now : Int) (w : World) (hT : Tab w t g c ps) (hok : ∀ p, p ∈ ps → p.Ok) (hn : 0 ≤ now ∧ now ≤ 1099511627776) :
    Calls Tryz.prog 68 #[.pointer (some ⟨t, 0, none⟩), .int .i64 now] w (MissPost w t g c ps now) := by
  obtain ⟨i0, hi0, hz0, hz1, hz2⟩ := info_parts info3
  obtain ⟨hn1, hn2⟩ := hn
  obtain ⟨a, cc, hv⟩ := slc_form g c ps
  have hcell := hT.cell
  have hlen := hT.len
  rw [hv] at hcell
  obtain ⟨n, hnl⟩ : ∃ n, n = ps.length := ⟨_, rfl⟩
  rw [← hnl] at hcell hlen
  have HN := Lib.hid hnl
  have HV := Lib.hid hv
  have HT := Lib.hid hT
  have HOK := Lib.hid hok
  clear hnl hv hT hok
  go_enter Tryz.func68, Tryz.ntmps68
  go_wp2_with (go_at_call 14; refine (len_any t a n cc _ ?_).mono ?_; exact hcell; rintro e w' ⟨rfl, rfl⟩)
  clear hcell
  go_loopw [5, 10] (fun v i wr => ∃ k : Nat, k ≤ n ∧ i = .int .i64 k ∧ MissRel w t g c ps now k v wr) (fun _ i _ => n - (intOf i).toNat)
  case atStart =>
    refine ⟨0, Nat.zero_le _, rfl, World.ownsRow_nil _ _ _ _, ?_, Apart.refl _ _ _, fun _ => rfl⟩
    exact HT.out
  case round =>
    obtain ⟨k, hk, rfl, hrel⟩ := hrel
    have HREL := Lib.hid hrel
    by_cases hlt : k < n
    · obtain ⟨p, hpk⟩ : ∃ p, ps[k]? = some p := ⟨_, List.getElem?_eq_getElem (by have := HN.out; omega)⟩
      have hT := hrel.2.1
      have hlm := markTo_length now ps k
      obtain ⟨hr, hc⟩ := hT.rows (by have := HN.out; omega)
      obtain ⟨c0, c1, c2, c3, c4, c5, c6, c7, c8, c9, c10, c11, c12⟩ := hc k p (by rw [markTo_get now ps k (by have := HN.out; omega)]; exact hpk)
      have hs : slc g c (markTo now ps k) = .slice (some ⟨g, 0, none⟩) n c := by unfold slc; rw [if_neg (by have := HN.out; omega), hlm, ← HN.out]
      have hcell := hT.cell
      rw [hs] at hcell
      have hlg := hr.lt
      have hfz := hr.fz
      have hpo := HOK.out p (List.mem_of_getElem? hpk)
      have hdl1 := hpo.dl.1
      have hdl2 := hpo.dl.2
      have hbg1 := hpo.beg.1
      have hbg2 := hpo.beg.2
      have HPK := Lib.hid hpk
      clear hpk hc hs hT hpo hrel hlm
      have hxc := fun (x : BW wr) (o : Nat) => x.cell g o hlg
      have hcases : ¬ 0 < p.dl ∨ (0 < p.dl ∧ p.busyB = false) ∨ (0 < p.dl ∧ p.busyB = true ∧ p.missed = true) ∨ (0 < p.dl ∧ p.busyB = true ∧ p.missed = false ∧ now < p.beg + p.dl) ∨ (0 < p.dl ∧ p.busyB = true ∧ p.missed = false ∧ p.beg + p.dl ≤ now) := by
        by_cases h1 : 0 < p.dl <;> by_cases h2 : p.busyB = true <;> by_cases h3 : p.missed = true <;> by_cases h4 : p.beg + p.dl ≤ now <;> simp_all <;> omega
      rcases hcases with h1 | ⟨h1, h2⟩ | ⟨h1, h2, h3⟩ | ⟨h1, h2, h3, h4⟩ | ⟨h1, h2, h3, h4⟩
      · have HB : Hid (p.busyB = p.busyB) := rfl
        have HM : Hid (missB now p = false) := by unfold Hid missB; simp [h1]
        have h1b : decide (0 < p.dl) = false := by simpa using h1
        go_wp2_with fail
        refine wp_region_bw (by kernel_rfl) (by kernel_rfl) ?_
        repeat (go_big_quiet_step ((go_at_call 88; exact Calls.bw (busy_is HB.out _))))
        refine wpQuiet_nil ?_
        rintro w2 ⟨x2, hx2⟩
        have hb2 : Below wr.heap.size wr w2 := by rw [hx2]; exact x2.property
        clear hx2 x2
        have HR := Lib.hid (miss_keep HREL.out HPK.out HM.out hb2)
        clear hb2
        go_wp2
        go_roundw
        case rel => exact ⟨k + 1, by omega, by go_num, HR.out⟩
        case measure => simp [intOf]; omega
      · have HB := Lib.hid h2
        have HM : Hid (missB now p = false) := by unfold Hid missB; simp [h2]
        clear h2
        go_wp2_with fail
        refine wp_region_bw (by kernel_rfl) (by kernel_rfl) ?_
        repeat (go_big_quiet_step ((go_at_call 88; exact Calls.bw (busy_is HB.out _))))
        refine wpQuiet_nil ?_
        rintro w2 ⟨x2, hx2⟩
        have hb2 : Below wr.heap.size wr w2 := by rw [hx2]; exact x2.property
        clear hx2 x2
        have HR := Lib.hid (miss_keep HREL.out HPK.out HM.out hb2)
        clear hb2
        go_wp2
        go_roundw
        case rel => exact ⟨k + 1, by omega, by go_num, HR.out⟩
        case measure => simp [intOf]; omega
      · have HB := Lib.hid h2
        have HM : Hid (missB now p = false) := by unfold Hid missB; simp [h3]
        clear h2
        rw [h3] at c12
        clear h3
        go_wp2_with fail
        refine wp_region_bw (by kernel_rfl) (by kernel_rfl) ?_
        repeat (go_big_quiet_step ((go_at_call 88; exact Calls.bw (busy_is (p := { p with missed := true }) HB.out _))))
        refine wpQuiet_nil ?_
        rintro w2 ⟨x2, hx2⟩
        have hb2 : Below wr.heap.size wr w2 := by rw [hx2]; exact x2.property
        clear hx2 x2
        have HR := Lib.hid (miss_keep HREL.out HPK.out HM.out hb2)
        clear hb2
        go_wp2
        go_roundw
        case rel => exact ⟨k + 1, by omega, by go_num, HR.out⟩
        case measure => simp [intOf]; omega
      · have HB := Lib.hid h2
        have HM : Hid (missB now p = false) := by
          have : ¬ p.beg + p.dl ≤ now := by omega
          unfold Hid missB; simp [this]
        clear h2
        rw [h3] at c12
        clear h3
        go_wp2_with fail
        refine wp_region_bw (by kernel_rfl) (by kernel_rfl) ?_
        repeat (go_big_quiet_step ((go_at_call 88; exact Calls.bw (busy_is (p := { p with missed := false }) HB.out _))))
        refine wpQuiet_nil ?_
        rintro w2 ⟨x2, hx2⟩
        have hb2 : Below wr.heap.size wr w2 := by rw [hx2]; exact x2.property
        clear hx2 x2
        have HR := Lib.hid (miss_keep HREL.out HPK.out HM.out hb2)
        clear hb2
        go_wp2
        go_roundw
        case rel => exact ⟨k + 1, by omega, by go_num, HR.out⟩
        case measure => simp [intOf]; omega
      · have HB := Lib.hid h2
        have HM : Hid (missB now p = true) := by unfold Hid missB; simp [h1, h2, h3, h4]
        have hgw : g < w.heap.size := HT.out.glt (by have := HN.out; omega)
        have hwr : w.heap.size ≤ wr.heap.size := HREL.out.2.2.1.size
        have hil := idsTo_length now ps k
        clear h2
        rw [h3] at c12
        clear h3
        go_wp2_with fail
        refine wp_region_bw (by kernel_rfl) (by kernel_rfl) ?_
        repeat (go_big_quiet_step ((go_at_call 88; exact Calls.bw (busy_is (p := { p with missed := false }) HB.out _))))
        refine wpQuiet_nil ?_
        rintro w2 ⟨x2, hx2⟩
        have hb2 : Below wr.heap.size wr w2 := by rw [hx2]; exact x2.property
        clear hx2 x2
        have d12 : w2.cell? ⟨g, k * 13 + 12, none⟩ = some (.bool false) := (hb2.cell (p := ⟨g, k * 13 + 12, none⟩) hlg).trans c12
        have hfz2 : w2.frozen? ⟨g, k * 13 + 12, none⟩ = false := (hb2.frozen (p := ⟨g, k * 13 + 12, none⟩) hlg).trans (hfz _)
        have hs2 := hb2.size
        have HB2 := Lib.hid hb2
        have HO : Hid ((w2.setCell ⟨g, k * 13 + 12, none⟩ (.bool true)).ownsRow w.heap.size 3 1 u5 (idsTo now ps k).length ((idsTo now ps k).map (Value.int .i64))) :=
          ownsRow_setCell_below (ownsRow_below HREL.out.1 hb2) hgw _
        clear hb2 hxc c0 c1 c2 c3 c4 c5 c6 c7 c8 c9 c10 c11 c12 hfz
        go_wp2_with (
          (at_builtin
           refine wpList_append_own _ rfl (.tmp 58) (.tmp 60) 39 rfl w.heap.size 3 i0 _ 1 8 Tryz.underlying39 hi0 hz0 hz1 hz2 rfl (by omega) u5 (idsTo now ps k).length ((idsTo now ps k).map (Value.int .i64)) rfl (HO.out.alloc _)
             ⟨w2.heap.size, 0, none⟩ 1 1 [.int .i64 k] rfl rfl ?c1 ?c2 ?c3 ?c4 ?c5 ?_))
        case c1 =>
          intro j u hj
          match j, hj with
          | 0, hj => simp at hj; subst hj; show World.cell? _ ⟨w2.heap.size, 0, none⟩ = _; rw [World.cell?_alloc_at _ _ _ _ (by simp)]; rfl
        case c2 => intro u hu; simp at hu; subst hu; rfl
        case c3 => unfold maxLen; omega
        case c4 => omega
        case c5 => simp; omega
        · intro v' w3 hown3 hgrow _
          have HR := Lib.hid (miss_put HREL.out HT.out HPK.out HM.out HB2.out hown3 hgrow)
          clear hown3 hgrow
          go_wp2
          go_roundw
          case rel => exact ⟨k + 1, by omega, by go_num, HR.out⟩
          case measure => simp [intOf]; omega
    · have hkn : k = n := by omega
      have HP : Hid (MissPost w t g c ps now (.returned u5) wr) := by
        obtain ⟨h1, h2, h3, h4⟩ := hrel
        have hkl : k = ps.length := by have := HN.out; omega
        rw [hkl] at h1 h2 h4
        have e : markTo now ps ps.length = ps.map (markP now) := by simp [markTo]
        rw [e] at h2
        exact ⟨u5, rfl, h1, h2, h3, h4⟩
      clear hrel hkn
      go_wp2_with fail
      go_ret
      exact HP.out

end Go.Proofs.YtgnjenmicojgnaaGreat

namespace Go.Proofs.YtgnjenmicojgnaaGreat
set_option linter.unusedVariables false
set_option linter.unusedSimpArgs false
open Go.RowKit

/-- f keeps what is true of a process, where the number may be. -/
def Keeps (f : Pr → Option Pr) (may : Bool) : Prop := may = true → ∀ p p', p.Ok → f p = some p' → p'.Ok

theorem act_ok {f : Pr → Option Pr} {may : Bool} (h : Keeps f may) {ps : List Pr} (hok : ∀ p, p ∈ ps → p.Ok) (i : Int) : ∀ p, p ∈ (act f may ps i).1 → p.Ok := by
  unfold act
  split
  · exact hok
  split
  · exact hok
  · rename_i hm
    have hm : may = true := by simpa using hm
    cases hb : (ps[i.toNat]?).bind f with
    | none => exact hok
    | some p' =>
      intro p hp
      rcases List.mem_or_eq_of_mem_set hp with hp | hp
      · exact hok p hp
      · subst hp
        cases hq : ps[i.toNat]? with
        | none => rw [hq] at hb; cases hb
        | some q =>
          rw [hq] at hb
          exact h hm q p (hok q (List.mem_of_getElem? hq)) hb

theorem act_length (f : Pr → Option Pr) (may : Bool) (ps : List Pr) (i : Int) : (act f may ps i).1.length = ps.length := by
  unfold act
  split
  · rfl
  split
  · rfl
  · cases (ps[i.toNat]?).bind f <;> simp

theorem ok_fresh {a : At} (h : a.may = true) : (prOf a).Ok := by
  simp only [At.may, mayB, inB, Bool.and_eq_true, decide_eq_true_eq] at h
  constructor <;> simp [prOf] <;> omega

theorem sleep_ok {p : Pr} (h : p.Ok) : (sleepP p).Ok := by
  obtain ⟨h1, h2, h3, h4, h5, h6, h7, h8, h9, h10, h11, h12, h13⟩ := h
  constructor <;> simp [sleepP] <;> omega

theorem at_ok {p : Pr} (h : p.Ok) {n : Int} (hn : 0 ≤ n ∧ n ≤ 1099511627776) : (atP n p).Ok := by
  obtain ⟨h1, h2, h3, h4, h5, h6, h7, h8, h9, h10, h11, h12, h13⟩ := h
  constructor <;> simp [atP] <;> omega

theorem rest_ok {p : Pr} (h : p.Ok) {n : Int} (hn : 0 ≤ n ∧ n ≤ 1099512676352) : (restP n p).Ok := by
  obtain ⟨h1, h2, h3, h4, h5, h6, h7, h8, h9, h10, h11, h12, h13⟩ := h
  constructor <;> simp [restP] <;> omega

theorem keeps_start (n : Int) : Keeps (startF n) (tickB n) := by
  intro hm p p' h hf
  have hn := tickB_true hm
  unfold startF at hf
  obtain ⟨_, rfl⟩ := some_ite hf
  obtain ⟨h1, h2, h3, h4, h5, h6, h7, h8, h9, h10, h11, h12, h13⟩ := h
  unfold startP
  split <;> constructor <;> simp <;> omega

theorem keeps_stop : Keeps stopF true := by
  intro _ p p' h hf
  unfold stopF at hf
  obtain ⟨_, rfl⟩ := some_ite hf
  exact sleep_ok h

theorem awake_of {p : Pr} (h : (p.st != 0) = true) : p.st ≠ 0 := by simpa using h

theorem keeps_susp : Keeps suspF true := by
  intro _ p p' h hf
  unfold suspF at hf
  obtain ⟨hc, rfl⟩ := some_ite hf
  simp only [Bool.and_eq_true] at hc
  have hst := awake_of hc.1
  obtain ⟨h1, h2, h3, h4, h5, h6, h7, h8, h9, h10, h11, h12, h13⟩ := h
  constructor <;> simp <;> omega

theorem keeps_resu : Keeps resuF true := by
  intro _ p p' h hf
  unfold resuF at hf
  obtain ⟨hc, rfl⟩ := some_ite hf
  simp only [Bool.and_eq_true] at hc
  have hst := awake_of hc.1
  obtain ⟨h1, h2, h3, h4, h5, h6, h7, h8, h9, h10, h11, h12, h13⟩ := h
  constructor <;> simp <;> omega

theorem keeps_wait (n : Int) : Keeps (waitF n) (decide (n ≤ 1099511627776)) := by
  intro hm p p' h hf
  have hn : n ≤ 1099511627776 := by simpa using hm
  unfold waitF at hf
  obtain ⟨hc, rfl⟩ := some_ite hf
  obtain ⟨h1, h2, h3, h4, h5, h6, h7, h8, h9, h10, h11, h12, h13⟩ := h
  constructor <;> simp <;> (try split) <;> omega

theorem keeps_wake : Keeps wakeF true := by
  intro _ p p' h hf
  unfold wakeF at hf
  obtain ⟨hc, rfl⟩ := some_ite hf
  obtain ⟨h1, h2, h3, h4, h5, h6, h7, h8, h9, h10, h11, h12, h13⟩ := h
  constructor <;> simp <;> omega

theorem keeps_rele (n : Int) : Keeps (releF n) (tickB n) := by
  intro hm p p' h hf
  have hn := tickB_true hm
  unfold releF at hf
  obtain ⟨hc, rfl⟩ := some_ite hf
  simp only [Bool.and_eq_true, beq_iff_eq, decide_eq_true_eq] at hc
  have h3 := h.rest hc.1
  exact at_ok h ⟨h3.2.2.2, by omega⟩

theorem keeps_done (n : Int) : Keeps (doneF n) (tickB n) := by
  intro hm p p' h hf
  have hn := tickB_true hm
  unfold doneF at hf
  obtain ⟨hc, rfl⟩ := some_ite hf
  have hp := h.per
  have hb := h.beg
  unfold doneP
  split
  · exact sleep_ok h
  split
  · exact at_ok h (by omega)
  · exact rest_ok h (by omega)

theorem keeps_charge (n : Int) : Keeps (chargeF n) (tickB n) := by
  intro hm p p' h hf
  have hn := tickB_true hm
  unfold chargeF at hf
  obtain ⟨hc, rfl⟩ := some_ite hf
  have hst : p.st = 1 ∨ p.st = 2 := by simpa using hc
  obtain ⟨h1, h2, h3, h4, h5, h6, h7, h8, h9, h10, h11, h12, h13⟩ := h
  unfold usedN
  constructor <;> simp <;> (try split) <;> omega

theorem keeps_setp (n : Int) : Keeps (setpF n) (inB n 1 63) := by
  intro hm p p' h hf
  have hn : 1 ≤ n ∧ n ≤ 63 := by simpa [inB] using hm
  unfold setpF at hf
  obtain ⟨hc, rfl⟩ := some_ite hf
  have hst := awake_of hc
  obtain ⟨h1, h2, h3, h4, h5, h6, h7, h8, h9, h10, h11, h12, h13⟩ := h
  constructor <;> simp <;> omega

theorem keeps_rais (n : Int) : Keeps (raisF n) (inB n 0 63) := by
  intro hm p p' h hf
  have hn : 0 ≤ n ∧ n ≤ 63 := by simpa [inB] using hm
  unfold raisF at hf
  obtain ⟨hc, rfl⟩ := some_ite hf
  have hst := awake_of hc
  obtain ⟨h1, h2, h3, h4, h5, h6, h7, h8, h9, h10, h11, h12, h13⟩ := h
  constructor <;> simp <;> omega

theorem mark_ok {p : Pr} (now : Int) (h : p.Ok) : (markP now p).Ok := by
  unfold markP
  split
  · rename_i hm
    have hst : p.st = 1 ∨ p.st = 2 := by
      simp only [missB, Pr.busyB, Bool.and_eq_true, Bool.or_eq_true, beq_iff_eq] at hm
      exact hm.2.1
    obtain ⟨h1, h2, h3, h4, h5, h6, h7, h8, h9, h10, h11, h12, h13⟩ := h
    constructor <;> simp <;> omega
  · exact h

theorem Apart.below {B g : Nat} {w w' : World} (h : Apart B w w' g) (hg : B ≤ g) : Below B w w' := ⟨h.os, h.tape, h.output, h.size, fun k hk => h.block k hk (by omega)⟩

end Go.Proofs.YtgnjenmicojgnaaGreat

namespace Go.Proofs.YtgnjenmicojgnaaGreat
set_option linter.unusedVariables false
set_option linter.unusedSimpArgs false
open Go.RowKit

theorem start_is {t g c : Nat} {ps ps' : List Pr} (i : Int) (n : Int) {k : Int} {w : World} (h : act (startF n) (tickB n) ps i = (ps', k)) (hT : Tab w t g c ps) (hok : ∀ p, p ∈ ps → p.Ok) :
    Calls Tryz.prog 70 #[.pointer (some ⟨t, 0, none⟩), .int .i64 i, .int .i64 n] w fun e w' => e = .returned (.int .i64 k) ∧ Tab w' t g c ps' ∧ Apart w.heap.size w w' g := by
  have := start_any t g c ps i n w hT hok
  rw [h] at this
  exact this

theorem stop_is {t g c : Nat} {ps ps' : List Pr} (i : Int) {k : Int} {w : World} (h : act stopF true ps i = (ps', k)) (hT : Tab w t g c ps) (hok : ∀ p, p ∈ ps → p.Ok) :
    Calls Tryz.prog 72 #[.pointer (some ⟨t, 0, none⟩), .int .i64 i] w fun e w' => e = .returned (.int .i64 k) ∧ Tab w' t g c ps' ∧ Apart w.heap.size w w' g := by
  have := stop_any t g c ps i w hT hok
  rw [h] at this
  exact this

theorem susp_is {t g c : Nat} {ps ps' : List Pr} (i : Int) {k : Int} {w : World} (h : act suspF true ps i = (ps', k)) (hT : Tab w t g c ps) (hok : ∀ p, p ∈ ps → p.Ok) :
    Calls Tryz.prog 73 #[.pointer (some ⟨t, 0, none⟩), .int .i64 i] w fun e w' => e = .returned (.int .i64 k) ∧ Tab w' t g c ps' ∧ Apart w.heap.size w w' g := by
  have := susp_any t g c ps i w hT hok
  rw [h] at this
  exact this

theorem resu_is {t g c : Nat} {ps ps' : List Pr} (i : Int) {k : Int} {w : World} (h : act resuF true ps i = (ps', k)) (hT : Tab w t g c ps) (hok : ∀ p, p ∈ ps → p.Ok) :
    Calls Tryz.prog 74 #[.pointer (some ⟨t, 0, none⟩), .int .i64 i] w fun e w' => e = .returned (.int .i64 k) ∧ Tab w' t g c ps' ∧ Apart w.heap.size w w' g := by
  have := resu_any t g c ps i w hT hok
  rw [h] at this
  exact this

theorem wait_is {t g c : Nat} {ps ps' : List Pr} (i : Int) (n : Int) {k : Int} {w : World} (h : act (waitF n) (decide (n ≤ 1099511627776)) ps i = (ps', k)) (hT : Tab w t g c ps) (hok : ∀ p, p ∈ ps → p.Ok) :
    Calls Tryz.prog 75 #[.pointer (some ⟨t, 0, none⟩), .int .i64 i, .int .i64 n] w fun e w' => e = .returned (.int .i64 k) ∧ Tab w' t g c ps' ∧ Apart w.heap.size w w' g := by
  have := wait_any t g c ps i n w hT hok
  rw [h] at this
  exact this

theorem wake_is {t g c : Nat} {ps ps' : List Pr} (i : Int) {k : Int} {w : World} (h : act wakeF true ps i = (ps', k)) (hT : Tab w t g c ps) (hok : ∀ p, p ∈ ps → p.Ok) :
    Calls Tryz.prog 66 #[.pointer (some ⟨t, 0, none⟩), .int .i64 i] w fun e w' => e = .returned (.int .i64 k) ∧ Tab w' t g c ps' ∧ Apart w.heap.size w w' g := by
  have := wake_any t g c ps i w hT hok
  rw [h] at this
  exact this

theorem rele_is {t g c : Nat} {ps ps' : List Pr} (i : Int) (n : Int) {k : Int} {w : World} (h : act (releF n) (tickB n) ps i = (ps', k)) (hT : Tab w t g c ps) (hok : ∀ p, p ∈ ps → p.Ok) :
    Calls Tryz.prog 65 #[.pointer (some ⟨t, 0, none⟩), .int .i64 i, .int .i64 n] w fun e w' => e = .returned (.int .i64 k) ∧ Tab w' t g c ps' ∧ Apart w.heap.size w w' g := by
  have := rele_any t g c ps i n w hT hok
  rw [h] at this
  exact this

theorem setp_is {t g c : Nat} {ps ps' : List Pr} (i : Int) (n : Int) {k : Int} {w : World} (h : act (setpF n) (inB n 1 63) ps i = (ps', k)) (hT : Tab w t g c ps) (hok : ∀ p, p ∈ ps → p.Ok) :
    Calls Tryz.prog 39 #[.pointer (some ⟨t, 0, none⟩), .int .i64 i, .int .i64 n] w fun e w' => e = .returned (.int .i64 k) ∧ Tab w' t g c ps' ∧ Apart w.heap.size w w' g := by
  have := setp_any t g c ps i n w hT hok
  rw [h] at this
  exact this

theorem rais_is {t g c : Nat} {ps ps' : List Pr} (i : Int) (n : Int) {k : Int} {w : World} (h : act (raisF n) (inB n 0 63) ps i = (ps', k)) (hT : Tab w t g c ps) (hok : ∀ p, p ∈ ps → p.Ok) :
    Calls Tryz.prog 40 #[.pointer (some ⟨t, 0, none⟩), .int .i64 i, .int .i64 n] w fun e w' => e = .returned (.int .i64 k) ∧ Tab w' t g c ps' ∧ Apart w.heap.size w w' g := by
  have := rais_any t g c ps i n w hT hok
  rw [h] at this
  exact this

theorem done_is {t g c : Nat} {ps ps' : List Pr} (i n : Int) {k x : Int} {w : World} (h : act (doneF n) (tickB n) ps i = (ps', k)) (hx : doneR ps i n = x) (hT : Tab w t g c ps) (hok : ∀ p, p ∈ ps → p.Ok) :
    Calls Tryz.prog 76 #[.pointer (some ⟨t, 0, none⟩), .int .i64 i, .int .i64 n] w fun e w' => e = .returned (.tuple #[.int .i64 x, .int .i64 k]) ∧ Tab w' t g c ps' ∧ Apart w.heap.size w w' g := by
  have := done_any t g c ps i n w hT hok
  rw [h, hx] at this
  exact this

theorem charge_is {t g c : Nat} {ps ps' : List Pr} (i n : Int) {k x : Int} {w : World} (h : act (chargeF n) (tickB n) ps i = (ps', k)) (hx : chargeR ps i n = x) (hT : Tab w t g c ps) (hok : ∀ p, p ∈ ps → p.Ok) :
    Calls Tryz.prog 43 #[.pointer (some ⟨t, 0, none⟩), .int .i64 i, .int .i64 n] w fun e w' => e = .returned (.int .i64 x) ∧ Tab w' t g c ps' ∧ Apart w.heap.size w w' g := by
  have := charge_any t g c ps i n w hT hok
  rw [h, hx] at this
  exact this

theorem state_is {t g c : Nat} {ps : List Pr} (i : Int) {k : Int} {w : World} (h : stateR (lookP ps i) = k) (hT : Tab w t g c ps) :
    Calls Tryz.prog 13 #[.pointer (some ⟨t, 0, none⟩), .int .i64 i] w fun e w' => e = .returned (.int .i64 k) ∧ Below w.heap.size w w' := by
  subst h; exact state_any t g c ps i w hT

theorem until_is {t g c : Nat} {ps : List Pr} (i : Int) {k : Int} {b : Bool} {w : World} (h : untilR (lookP ps i) = k) (hb : untilB (lookP ps i) = b) (hT : Tab w t g c ps) :
    Calls Tryz.prog 92 #[.pointer (some ⟨t, 0, none⟩), .int .i64 i] w fun e w' => e = .returned (.tuple #[.int .i64 k, .bool b]) ∧ Below w.heap.size w w' := by
  subst h hb; exact until_any t g c ps i w hT

def spQ (st til beg : Int) : Pr := ⟨1, 10, 0, 0, 0, st, false, if st = 0 then 0 else 1, 0, til, beg, 0, false⟩
theorem spQ_ok (st til beg : Int) (h : st = 0 ∧ til = 0 ∧ beg = 0 ∨ st = 1 ∧ 0 ≤ til ∧ til ≤ 100 ∧ 0 ≤ beg ∧ beg ≤ 100 ∨ st = 3 ∧ 0 ≤ til ∧ til ≤ 100 ∧ beg = 0) : ∀ p, p ∈ [spQ st til beg] → p.Ok := by
  intro p hp
  rw [List.mem_singleton] at hp
  subst hp
  unfold spQ
  rcases h with ⟨rfl, rfl, rfl⟩ | ⟨rfl, h1⟩ | ⟨rfl, h1, h2, rfl⟩ <;> constructor <;> simp <;> omega

end Go.Proofs.YtgnjenmicojgnaaGreat

namespace Go.Proofs.YtgnjenmicojgnaaGreat
set_option linter.unusedVariables false
set_option linter.unusedSimpArgs false
open Go.RowKit

/-- A slice (address A) that reads as the whole numbers xs. -/
def Ints (w : World) (A : Option Addr) (xs : List Int) : Prop :=
  xs.length ≠ 0 → ∃ b o, A = some ⟨b, o, none⟩ ∧ b < w.heap.size ∧ ∀ i x, xs[i]? = some x → w.cell? ⟨b, o + i, none⟩ = some (.int .i64 x)

theorem Ints.below {w w' : World} {A : Option Addr} {xs : List Int} (h : Ints w A xs) (hb : Below w.heap.size w w') : Ints w' A xs := by
  intro hl
  obtain ⟨b, o, rfl, hbl, hc⟩ := h hl
  exact ⟨b, o, rfl, Nat.lt_of_lt_of_le hbl hb.size, fun i x hx => (hb.cell (p := ⟨b, o + i, none⟩) hbl).trans (hc i x hx)⟩

theorem ints_of_own {w : World} {base : Nat} {v : Value} {xs : List Int} (h : w.ownsRow base 3 1 v xs.length (xs.map (Value.int .i64))) : ∃ A c, v = .slice A xs.length c ∧ Ints w A xs := by
  rcases h.2 with ⟨rfl, h0⟩ | ⟨g, cap, cur, rfl, hg, hc, hr⟩
  · exact ⟨none, 0, by rw [h0], fun hl => absurd h0 hl⟩
  · refine ⟨some ⟨g, 0, none⟩, cap, rfl, fun hl => ⟨g, 0, rfl, Row.lt ⟨_, hc⟩, fun i x hx => ?_⟩⟩
    have hil : i < xs.length := (List.getElem?_eq_some_iff.1 hx).1
    rw [Nat.zero_add, h.cellAt i (by omega), List.getElem?_map, hx]
    rfl

end Go.Proofs.YtgnjenmicojgnaaGreat

namespace Go.Proofs.YtgnjenmicojgnaaGreat
set_option linter.unusedVariables false
set_option linter.unusedSimpArgs false
open Go.RowKit

/-- What counts of a process. -/
def seenP (p : Pr) : Pr :=
  if p.st = 0 then sleepP p
  else if p.st = 1 then { p with til := 0 }
  else if p.st = 2 then p
  else { p with beg := 0, used := 0, missed := false }

theorem awake_is {p : Pr} {b : Bool} (h : (p.st != 0) = b) (w : World) :
    Calls Tryz.prog 82 #[.agg p.cells] w fun e w' => e = .returned (.bool b) ∧ Below w.heap.size w w' := by
  subst h; exact awake_any p w

theorem box_til {w1 : World} {b : Nat} {p : Pr} (h : ∀ o, w1.cell? ⟨b, o, none⟩ = (#[.int .i64 p.pri, .int .i64 p.per, .int .i64 p.cap, .int .i64 p.dl, .int .i64 p.off, .int .i64 p.st, .bool p.held, .int .i64 p.base, .int .i64 p.raised, .int .i64 p.til, .int .i64 p.beg, .int .i64 p.used, .bool p.missed] : Array Value)[o]?) (o : Nat) : (w1.setCell ⟨b, 6 + 3, none⟩ (.int .i64 0)).cell? ⟨b, o, none⟩ = (#[.int .i64 p.pri, .int .i64 p.per, .int .i64 p.cap, .int .i64 p.dl, .int .i64 p.off, .int .i64 p.st, .bool p.held, .int .i64 p.base, .int .i64 p.raised, .int .i64 0, .int .i64 p.beg, .int .i64 p.used, .bool p.missed] : Array Value)[o]? := by
  by_cases e : o = 9
  · subst e
    rw [World.cell?_setCell_same' _ ⟨b, 6 + 3, none⟩ _ (by rw [h]; rfl)]
    rfl
  · rw [World.cell?_setCell_other _ _ _ _ (by intro e'; injection e' with _ e'; omega), h]
    match o, e with
    | 0, _ => rfl
    | 1, _ => rfl
    | 2, _ => rfl
    | 3, _ => rfl
    | 4, _ => rfl
    | 5, _ => rfl
    | 6, _ => rfl
    | 7, _ => rfl
    | 8, _ => rfl
    | 9, e => exact absurd rfl e
    | 10, _ => rfl
    | 11, _ => rfl
    | 12, _ => rfl
    | k + 13, _ => rfl

set_option maxRecDepth 100000 in
set_option maxHeartbeats 1000000 in
theorem seen_any (p : Pr) (w : World) :
    Calls Tryz.prog 59 #[.agg p.cells] w fun e w' => e = .returned (.agg (seenP p).cells) ∧ Below w.heap.size w w' := by
  by_cases h0 : p.st = 0
  · have hb : Hid ((p.st != 0) = false) := by unfold Hid; simp [h0]
    have hs : Hid (seenP p = sleepP p) := if_pos h0
    clear h0
    unfold Pr.cells
    go_enter Tryz.func59, Tryz.ntmps59
    go_wp2_with fail
    refine (awake_is (p := p) hb.out _).mono ?_
    rintro e w1 ⟨rfl, hb1⟩
    have hp1 : ∀ o, w1.cell? ⟨w.heap.size, o, none⟩ = (#[.int .i64 p.pri, .int .i64 p.per, .int .i64 p.cap, .int .i64 p.dl, .int .i64 p.off, .int .i64 p.st, .bool p.held, .int .i64 p.base, .int .i64 p.raised, .int .i64 p.til, .int .i64 p.beg, .int .i64 p.used, .bool p.missed] : Array Value)[o]? := fun o => (hb1.cell (p := ⟨w.heap.size, o, none⟩) (by simp; omega)).trans (by go_simp)
    have hd1 : ∀ o, w1.cell? ⟨w.heap.size + 1, o, none⟩ = (#[.int .i64 0, .int .i64 0, .int .i64 0, .int .i64 0, .int .i64 0, .int .i64 0, .bool false, .int .i64 0, .int .i64 0, .int .i64 0, .int .i64 0, .int .i64 0, .bool false] : Array Value)[o]? := fun o => (hb1.cell (p := ⟨w.heap.size + 1, o, none⟩) (by simp)).trans (by go_simp)
    have hf1 : ∀ o, w1.frozen? ⟨w.heap.size, o, none⟩ = false := fun o => (hb1.frozen (p := ⟨w.heap.size, o, none⟩) (by simp; omega)).trans (by go_simp)
    have hf1' : ∀ o, w1.frozen? ⟨w.heap.size + 1, o, none⟩ = false := fun o => (hb1.frozen (p := ⟨w.heap.size + 1, o, none⟩) (by simp)).trans (by go_simp)
    have hz1 : w.heap.size + 1 < w1.heap.size := by have := hb1.size; simp at this; omega
    have HB1 : Hid (Below w.heap.size w w1) := (((Below.refl _ _).alloc (Nat.le_refl _) _).alloc (by simp) _).trans (hb1.mono (by simp; omega))
    clear hb1
    go_wp2
    refine bodyPost_ret (v := .agg (sleepP p).cells) (by simp [results, Tryz.results59, go_sem, hp1, hd1, sleepP, Pr.cells]) rfl ⟨by rw [hs.out]; rfl, ?_⟩
    have hb := HB1.out
    repeat first | with_reducible exact Below.refl _ _ | with_reducible assumption | (with_reducible refine Below.alloc ?_ (by simp) _) | (with_reducible refine Below.setCell ?_ (by simp) _)
  by_cases h1 : p.st = 1
  · have hb : Hid ((p.st != 0) = true) := by unfold Hid; simp [h1]
    have hs : Hid (seenP p = { p with til := 0 }) := by unfold Hid seenP; rw [if_neg h0, if_pos h1]
    have h1b : (p.st == 1) = true := by simp [h1]
    have hbu : Hid (Pr.busyB { p with til := 0 } = true) := by unfold Hid Pr.busyB; simp [h1]
    clear h0 h1
    unfold Pr.cells
    go_enter Tryz.func59, Tryz.ntmps59
    go_wp2_with fail
    refine (awake_is (p := p) hb.out _).mono ?_
    rintro e w1 ⟨rfl, hb1⟩
    have hp1 : ∀ o, w1.cell? ⟨w.heap.size, o, none⟩ = (#[.int .i64 p.pri, .int .i64 p.per, .int .i64 p.cap, .int .i64 p.dl, .int .i64 p.off, .int .i64 p.st, .bool p.held, .int .i64 p.base, .int .i64 p.raised, .int .i64 p.til, .int .i64 p.beg, .int .i64 p.used, .bool p.missed] : Array Value)[o]? := fun o => (hb1.cell (p := ⟨w.heap.size, o, none⟩) (by simp; omega)).trans (by go_simp)
    have hd1 : ∀ o, w1.cell? ⟨w.heap.size + 1, o, none⟩ = (#[.int .i64 0, .int .i64 0, .int .i64 0, .int .i64 0, .int .i64 0, .int .i64 0, .bool false, .int .i64 0, .int .i64 0, .int .i64 0, .int .i64 0, .int .i64 0, .bool false] : Array Value)[o]? := fun o => (hb1.cell (p := ⟨w.heap.size + 1, o, none⟩) (by simp)).trans (by go_simp)
    have hf1 : ∀ o, w1.frozen? ⟨w.heap.size, o, none⟩ = false := fun o => (hb1.frozen (p := ⟨w.heap.size, o, none⟩) (by simp; omega)).trans (by go_simp)
    have hf1' : ∀ o, w1.frozen? ⟨w.heap.size + 1, o, none⟩ = false := fun o => (hb1.frozen (p := ⟨w.heap.size + 1, o, none⟩) (by simp)).trans (by go_simp)
    have hz1 : w.heap.size + 1 < w1.heap.size := by have := hb1.size; simp at this; omega
    have HB1 : Hid (Below w.heap.size w w1) := (((Below.refl _ _).alloc (Nat.le_refl _) _).alloc (by simp) _).trans (hb1.mono (by simp; omega))
    clear hb1
    go_wp2_with fail
    refine (busy_is (p := { p with til := 0 }) hbu.out _).mono ?_
    rintro e w2 ⟨rfl, hb2⟩
    have hp2 : ∀ o, w2.cell? ⟨w.heap.size, o, none⟩ = (#[.int .i64 p.pri, .int .i64 p.per, .int .i64 p.cap, .int .i64 p.dl, .int .i64 p.off, .int .i64 p.st, .bool p.held, .int .i64 p.base, .int .i64 p.raised, .int .i64 0, .int .i64 p.beg, .int .i64 p.used, .bool p.missed] : Array Value)[o]? := fun o => (hb2.cell (p := ⟨w.heap.size, o, none⟩) (by have := HB1.out.size; first | omega | (simp; omega))).trans (box_til hp1 o)
    have hd2 : ∀ o, w2.cell? ⟨w.heap.size + 1, o, none⟩ = (#[.int .i64 0, .int .i64 0, .int .i64 0, .int .i64 0, .int .i64 0, .int .i64 0, .bool false, .int .i64 0, .int .i64 0, .int .i64 0, .int .i64 0, .int .i64 0, .bool false] : Array Value)[o]? := fun o => (hb2.cell (p := ⟨w.heap.size + 1, o, none⟩) (by have := HB1.out.size; first | omega | (simp; omega))).trans ((World.cell?_setCell_other _ _ _ _ (by intro e; injection e with e _; omega)).trans (hd1 o))
    have hf2 : ∀ o, w2.frozen? ⟨w.heap.size, o, none⟩ = false := fun o => (hb2.frozen (p := ⟨w.heap.size, o, none⟩) (by have := HB1.out.size; first | omega | (simp; omega))).trans (by first | exact hf1 o | simp [hf1])
    have hf2' : ∀ o, w2.frozen? ⟨w.heap.size + 1, o, none⟩ = false := fun o => (hb2.frozen (p := ⟨w.heap.size + 1, o, none⟩) (by have := HB1.out.size; first | omega | (simp; omega))).trans (by first | exact hf1' o | simp [hf1'])
    clear hp1 hd1 hf1 hf1'
    have hz2 : w.heap.size + 1 < w2.heap.size := by have := hb2.size; first | omega | (simp at this; omega)
    have HB2 : Hid (Below w.heap.size w w2) := by
      have hb := HB1.out
      exact Below.trans (b := _) (by repeat first | with_reducible exact Below.refl _ _ | with_reducible assumption | (with_reducible refine Below.alloc ?_ (by simp) _) | (with_reducible refine Below.setCell ?_ (by simp) _)) (hb2.mono (by have := HB1.out.size; first | omega | (simp; omega)))
    clear hb2
    go_wp2
    refine bodyPost_ret (v := .agg ({ p with til := 0 }).cells) (by simp [results, Tryz.results59, go_sem, hp2, hd2, sleepP, Pr.cells]) rfl ⟨by rw [hs.out]; rfl, ?_⟩
    have hb := HB2.out
    repeat first | with_reducible exact Below.refl _ _ | with_reducible assumption | (with_reducible refine Below.alloc ?_ (by simp) _) | (with_reducible refine Below.setCell ?_ (by simp) _)
  have h1b : (p.st == 1) = false := by simp [h1]
  have hb : Hid ((p.st != 0) = true) := by unfold Hid; simp [h0]
  by_cases h2 : p.st = 2
  · have hs : Hid (seenP p = p) := by unfold Hid seenP; rw [if_neg h0, if_neg h1, if_pos h2]
    have hbu : Hid (p.busyB = true) := by unfold Hid Pr.busyB; simp [h2]
    clear h0 h1 h2
    unfold Pr.cells
    go_enter Tryz.func59, Tryz.ntmps59
    go_wp2_with fail
    refine (awake_is (p := p) hb.out _).mono ?_
    rintro e w1 ⟨rfl, hb1⟩
    have hp1 : ∀ o, w1.cell? ⟨w.heap.size, o, none⟩ = (#[.int .i64 p.pri, .int .i64 p.per, .int .i64 p.cap, .int .i64 p.dl, .int .i64 p.off, .int .i64 p.st, .bool p.held, .int .i64 p.base, .int .i64 p.raised, .int .i64 p.til, .int .i64 p.beg, .int .i64 p.used, .bool p.missed] : Array Value)[o]? := fun o => (hb1.cell (p := ⟨w.heap.size, o, none⟩) (by simp; omega)).trans (by go_simp)
    have hd1 : ∀ o, w1.cell? ⟨w.heap.size + 1, o, none⟩ = (#[.int .i64 0, .int .i64 0, .int .i64 0, .int .i64 0, .int .i64 0, .int .i64 0, .bool false, .int .i64 0, .int .i64 0, .int .i64 0, .int .i64 0, .int .i64 0, .bool false] : Array Value)[o]? := fun o => (hb1.cell (p := ⟨w.heap.size + 1, o, none⟩) (by simp)).trans (by go_simp)
    have hf1 : ∀ o, w1.frozen? ⟨w.heap.size, o, none⟩ = false := fun o => (hb1.frozen (p := ⟨w.heap.size, o, none⟩) (by simp; omega)).trans (by go_simp)
    have hf1' : ∀ o, w1.frozen? ⟨w.heap.size + 1, o, none⟩ = false := fun o => (hb1.frozen (p := ⟨w.heap.size + 1, o, none⟩) (by simp)).trans (by go_simp)
    have hz1 : w.heap.size + 1 < w1.heap.size := by have := hb1.size; simp at this; omega
    have HB1 : Hid (Below w.heap.size w w1) := (((Below.refl _ _).alloc (Nat.le_refl _) _).alloc (by simp) _).trans (hb1.mono (by simp; omega))
    clear hb1
    go_wp2_with fail
    refine (busy_is (p := p) hbu.out _).mono ?_
    rintro e w2 ⟨rfl, hb2⟩
    have hp2 : ∀ o, w2.cell? ⟨w.heap.size, o, none⟩ = (#[.int .i64 p.pri, .int .i64 p.per, .int .i64 p.cap, .int .i64 p.dl, .int .i64 p.off, .int .i64 p.st, .bool p.held, .int .i64 p.base, .int .i64 p.raised, .int .i64 p.til, .int .i64 p.beg, .int .i64 p.used, .bool p.missed] : Array Value)[o]? := fun o => (hb2.cell (p := ⟨w.heap.size, o, none⟩) (by have := HB1.out.size; first | omega | (simp; omega))).trans (hp1 o)
    have hd2 : ∀ o, w2.cell? ⟨w.heap.size + 1, o, none⟩ = (#[.int .i64 0, .int .i64 0, .int .i64 0, .int .i64 0, .int .i64 0, .int .i64 0, .bool false, .int .i64 0, .int .i64 0, .int .i64 0, .int .i64 0, .int .i64 0, .bool false] : Array Value)[o]? := fun o => (hb2.cell (p := ⟨w.heap.size + 1, o, none⟩) (by have := HB1.out.size; first | omega | (simp; omega))).trans (hd1 o)
    have hf2 : ∀ o, w2.frozen? ⟨w.heap.size, o, none⟩ = false := fun o => (hb2.frozen (p := ⟨w.heap.size, o, none⟩) (by have := HB1.out.size; first | omega | (simp; omega))).trans (by first | exact hf1 o | simp [hf1])
    have hf2' : ∀ o, w2.frozen? ⟨w.heap.size + 1, o, none⟩ = false := fun o => (hb2.frozen (p := ⟨w.heap.size + 1, o, none⟩) (by have := HB1.out.size; first | omega | (simp; omega))).trans (by first | exact hf1' o | simp [hf1'])
    clear hp1 hd1 hf1 hf1'
    have hz2 : w.heap.size + 1 < w2.heap.size := by have := hb2.size; first | omega | (simp at this; omega)
    have HB2 : Hid (Below w.heap.size w w2) := by
      have hb := HB1.out
      exact Below.trans (b := _) (by repeat first | with_reducible exact Below.refl _ _ | with_reducible assumption | (with_reducible refine Below.alloc ?_ (by simp) _) | (with_reducible refine Below.setCell ?_ (by simp) _)) (hb2.mono (by have := HB1.out.size; first | omega | (simp; omega)))
    clear hb2
    go_wp2
    refine bodyPost_ret (v := .agg (p).cells) (by simp [results, Tryz.results59, go_sem, hp2, hd2, sleepP, Pr.cells]) rfl ⟨by rw [hs.out]; rfl, ?_⟩
    have hb := HB2.out
    repeat first | with_reducible exact Below.refl _ _ | with_reducible assumption | (with_reducible refine Below.alloc ?_ (by simp) _) | (with_reducible refine Below.setCell ?_ (by simp) _)
  · have hs : Hid (seenP p = { p with beg := 0, used := 0, missed := false }) := by unfold Hid seenP; rw [if_neg h0, if_neg h1, if_neg h2]
    have hbu : Hid (p.busyB = false) := by unfold Hid Pr.busyB; simp [h1, h2]
    clear h0 h1 h2
    unfold Pr.cells
    go_enter Tryz.func59, Tryz.ntmps59
    go_wp2_with fail
    refine (awake_is (p := p) hb.out _).mono ?_
    rintro e w1 ⟨rfl, hb1⟩
    have hp1 : ∀ o, w1.cell? ⟨w.heap.size, o, none⟩ = (#[.int .i64 p.pri, .int .i64 p.per, .int .i64 p.cap, .int .i64 p.dl, .int .i64 p.off, .int .i64 p.st, .bool p.held, .int .i64 p.base, .int .i64 p.raised, .int .i64 p.til, .int .i64 p.beg, .int .i64 p.used, .bool p.missed] : Array Value)[o]? := fun o => (hb1.cell (p := ⟨w.heap.size, o, none⟩) (by simp; omega)).trans (by go_simp)
    have hd1 : ∀ o, w1.cell? ⟨w.heap.size + 1, o, none⟩ = (#[.int .i64 0, .int .i64 0, .int .i64 0, .int .i64 0, .int .i64 0, .int .i64 0, .bool false, .int .i64 0, .int .i64 0, .int .i64 0, .int .i64 0, .int .i64 0, .bool false] : Array Value)[o]? := fun o => (hb1.cell (p := ⟨w.heap.size + 1, o, none⟩) (by simp)).trans (by go_simp)
    have hf1 : ∀ o, w1.frozen? ⟨w.heap.size, o, none⟩ = false := fun o => (hb1.frozen (p := ⟨w.heap.size, o, none⟩) (by simp; omega)).trans (by go_simp)
    have hf1' : ∀ o, w1.frozen? ⟨w.heap.size + 1, o, none⟩ = false := fun o => (hb1.frozen (p := ⟨w.heap.size + 1, o, none⟩) (by simp)).trans (by go_simp)
    have hz1 : w.heap.size + 1 < w1.heap.size := by have := hb1.size; simp at this; omega
    have HB1 : Hid (Below w.heap.size w w1) := (((Below.refl _ _).alloc (Nat.le_refl _) _).alloc (by simp) _).trans (hb1.mono (by simp; omega))
    clear hb1
    go_wp2_with fail
    refine (busy_is (p := p) hbu.out _).mono ?_
    rintro e w2 ⟨rfl, hb2⟩
    have hp2 : ∀ o, w2.cell? ⟨w.heap.size, o, none⟩ = (#[.int .i64 p.pri, .int .i64 p.per, .int .i64 p.cap, .int .i64 p.dl, .int .i64 p.off, .int .i64 p.st, .bool p.held, .int .i64 p.base, .int .i64 p.raised, .int .i64 p.til, .int .i64 p.beg, .int .i64 p.used, .bool p.missed] : Array Value)[o]? := fun o => (hb2.cell (p := ⟨w.heap.size, o, none⟩) (by have := HB1.out.size; first | omega | (simp; omega))).trans (hp1 o)
    have hd2 : ∀ o, w2.cell? ⟨w.heap.size + 1, o, none⟩ = (#[.int .i64 0, .int .i64 0, .int .i64 0, .int .i64 0, .int .i64 0, .int .i64 0, .bool false, .int .i64 0, .int .i64 0, .int .i64 0, .int .i64 0, .int .i64 0, .bool false] : Array Value)[o]? := fun o => (hb2.cell (p := ⟨w.heap.size + 1, o, none⟩) (by have := HB1.out.size; first | omega | (simp; omega))).trans (hd1 o)
    have hf2 : ∀ o, w2.frozen? ⟨w.heap.size, o, none⟩ = false := fun o => (hb2.frozen (p := ⟨w.heap.size, o, none⟩) (by have := HB1.out.size; first | omega | (simp; omega))).trans (by first | exact hf1 o | simp [hf1])
    have hf2' : ∀ o, w2.frozen? ⟨w.heap.size + 1, o, none⟩ = false := fun o => (hb2.frozen (p := ⟨w.heap.size + 1, o, none⟩) (by have := HB1.out.size; first | omega | (simp; omega))).trans (by first | exact hf1' o | simp [hf1'])
    clear hp1 hd1 hf1 hf1'
    have hz2 : w.heap.size + 1 < w2.heap.size := by have := hb2.size; first | omega | (simp at this; omega)
    have HB2 : Hid (Below w.heap.size w w2) := by
      have hb := HB1.out
      exact Below.trans (b := _) (by repeat first | with_reducible exact Below.refl _ _ | with_reducible assumption | (with_reducible refine Below.alloc ?_ (by simp) _) | (with_reducible refine Below.setCell ?_ (by simp) _)) (hb2.mono (by have := HB1.out.size; first | omega | (simp; omega)))
    clear hb2
    go_wp2
    refine bodyPost_ret (v := .agg ({ p with beg := 0, used := 0, missed := false }).cells) (by simp [results, Tryz.results59, go_sem, hp2, hd2, sleepP, Pr.cells]) rfl ⟨by rw [hs.out]; rfl, ?_⟩
    have hb := HB2.out
    repeat first | with_reducible exact Below.refl _ _ | with_reducible assumption | (with_reducible refine Below.alloc ?_ (by simp) _) | (with_reducible refine Below.setCell ?_ (by simp) _)

theorem ite_eq {α : Type} [BEq α] [LawfulBEq α] [DecidableEq α] {a b : α} {r : Result Value} {x : Bool} {w : World} (h : r = .ok (.bool x) w) : (if a = b then r else .ok (.bool false) w) = .ok (.bool (a == b && x)) w := by
  subst h
  by_cases hc : a = b
  · simp [hc]
  · have : (a == b) = false := by simpa using hc
    simp [hc, this]
theorem ite_last {α : Type} [BEq α] [LawfulBEq α] [DecidableEq α] {a b : α} {w : World} : (if a = b then (.ok (.bool true) w : Result Value) else .ok (.bool false) w) = .ok (.bool (a == b)) w := by
  by_cases hc : a = b
  · simp [hc]
  · have : (a == b) = false := by simpa using hc
    simp [hc, this]

/-- Are two processes the same, field by field? -/
def sameB (p q : Pr) : Bool := p.pri == q.pri && (p.per == q.per && (p.cap == q.cap && (p.dl == q.dl && (p.off == q.off && (p.st == q.st && (p.held == q.held && (p.base == q.base && (p.raised == q.raised && (p.til == q.til && (p.beg == q.beg && (p.used == q.used && (p.missed == q.missed))))))))))))

set_option maxRecDepth 100000 in
set_option maxHeartbeats 1000000 in
theorem eql86 (p q : Pr) (w : World) : (binOp .eql 82 (.agg p.cells) (.agg q.cells)).run Tryz.prog w = .ok (.bool (sameB p q)) w := by
  unfold Pr.cells sameB
  go_simp
  exact ite_eq (ite_eq (ite_eq (ite_eq (ite_eq (ite_eq (ite_eq (ite_eq (ite_eq (ite_eq (ite_eq (ite_eq (ite_last))))))))))))

set_option maxRecDepth 100000 in
set_option maxHeartbeats 1000000 in
theorem same1_any (p q : Pr) (w : World) :
    Calls Tryz.prog 58 #[.agg p.cells, .agg q.cells] w fun e w' => e = .returned (.bool (sameB (seenP p) (seenP q))) ∧ Below w.heap.size w w' := by
  unfold Pr.cells
  go_enter Tryz.func58, Tryz.ntmps58
  go_wp2_with fail
  obtain ⟨W0, hW0⟩ : ∃ W0, W0 = (w.alloc (.cells p.cells 82)).alloc (.cells q.cells 82) := ⟨_, rfl⟩
  unfold Pr.cells at hW0
  rw [← hW0]
  have hp : ∀ j, W0.cell? ⟨w.heap.size, j, none⟩ = p.cells[j]? := by rw [hW0]; intro j; unfold Pr.cells; go_simp
  have hq : ∀ j, W0.cell? ⟨w.heap.size + 1, j, none⟩ = q.cells[j]? := by rw [hW0]; intro j; unfold Pr.cells; go_simp
  have hz : W0.heap.size = w.heap.size + 2 := by rw [hW0]; simp
  have hb : Below w.heap.size w W0 := by rw [hW0]; exact ((Below.refl _ _).alloc (Nat.le_refl _) _).alloc (by simp) _
  have HB := Lib.hid hb
  have hl1 : w.heap.size < W0.heap.size := by omega
  have hl2 : w.heap.size + 1 < W0.heap.size := by omega
  clear hW0 hb hz
  unfold Pr.cells at hp hq
  have hxp := fun (x : BW W0) (o : Nat) => x.cell w.heap.size o hl1
  have hxq := fun (x : BW W0) (o : Nat) => x.cell (w.heap.size + 1) o hl2
  have heq := fun (w : World) => eql86 (seenP p) (seenP q) w
  refine wp_region_bw (by kernel_rfl) (by kernel_rfl) ?_
  repeat (go_big_quiet_step (first | (go_at_call_of 59 (p.pri); exact Calls.bw (seen_any p _)) | (go_at_call_of 59 (q.pri); exact Calls.bw (seen_any q _))))
  refine wpQuiet_nil ?_
  rintro w2 ⟨x2, hx2⟩
  have hb2 : Below W0.heap.size W0 w2 := by rw [hx2]; exact x2.property
  clear hx2 x2 hxp hxq hp hq
  have HB2 := Lib.hid hb2
  clear hb2
  go_wp2
  go_ret
  exact ⟨rfl, HB.out.trans (HB2.out.mono (by omega))⟩

end Go.Proofs.YtgnjenmicojgnaaGreat

namespace Go.Proofs.YtgnjenmicojgnaaGreat
set_option linter.unusedVariables false
set_option linter.unusedSimpArgs false
open Go.RowKit

/-- Two lists of processes: what counts is the same, one by one. -/
def SameP (ps qs : List Pr) : Prop := ps.length = qs.length ∧ ∀ (i : Nat) (p q : Pr), ps[i]? = some p → qs[i]? = some q → sameB (seenP p) (seenP q) = true
noncomputable def sameL (ps qs : List Pr) : Bool := @decide (SameP ps qs) (Classical.propDecidable _)
theorem sameL_true {ps qs : List Pr} (h : SameP ps qs) : sameL ps qs = true := @decide_eq_true _ (Classical.propDecidable _) h
theorem sameL_false {ps qs : List Pr} (h : ¬ SameP ps qs) : sameL ps qs = false := @decide_eq_false _ (Classical.propDecidable _) h
theorem sameL_iff {ps qs : List Pr} : sameL ps qs = true ↔ SameP ps qs := ⟨fun h => @of_decide_eq_true _ (Classical.propDecidable _) h, sameL_true⟩

/-- A slice (address A) that reads as the processes ps. -/
def PrRow (w : World) (A : Option Addr) (ps : List Pr) : Prop :=
  ps.length ≠ 0 → ∃ g, A = some ⟨g, 0, none⟩ ∧ g < w.heap.size ∧ ∀ i p, ps[i]? = some p → PrAt w g (i * 13) p

set_option maxRecDepth 100000 in
set_option maxHeartbeats 2000000 in
theorem equalFunc_any (A A' : Option Addr) (c c' : Nat) (ps qs : List Pr) (w : World) (hp : PrRow w A ps) (hq : PrRow w A' qs) (hm : ps.length ≤ 1000) :
    Calls Tryz.prog 57 #[.slice A ps.length c, .slice A' qs.length c', .func (.func 58) #[] #[]] w fun e w' => e = .returned (.bool (sameL ps qs)) ∧ Below w.heap.size w w' := by
  have HP := Lib.hid hp
  have HQ := Lib.hid hq
  clear hp hq
  obtain ⟨n, hn⟩ : ∃ n, n = ps.length := ⟨_, rfl⟩
  obtain ⟨m, hmm⟩ : ∃ m, m = qs.length := ⟨_, rfl⟩
  rw [← hn, ← hmm]
  rw [← hn] at hm
  have HN := Lib.hid hn
  have HM := Lib.hid hmm
  clear hn hmm
  by_cases hl : n = m
  · subst hl
    go_enter Tryz.func57, Tryz.ntmps57
    go_wp2
    go_loopw [17] (fun i wr => ∃ k : Nat, k ≤ n ∧ i = .int .i64 k ∧ (∀ (j : Nat) (p q : Pr), j < k → ps[j]? = some p → qs[j]? = some q → sameB (seenP p) (seenP q) = true) ∧ Below w.heap.size w wr) (fun i _ => n - (intOf i).toNat)
    case atStart => exact ⟨0, Nat.zero_le _, rfl, fun j _ _ hj => absurd hj (Nat.not_lt_zero _), Below.refl _ _⟩
    case round =>
      obtain ⟨k, hk, rfl, hall, hb⟩ := hrel
      have HALL := Lib.hid hall
      have HB := Lib.hid hb
      have hbs := hb.size
      clear hall hb
      by_cases hlt : k < n
      · obtain ⟨g, rfl, hgl, hcp⟩ := HP.out (by have := HN.out; omega)
        obtain ⟨g', rfl, hgl', hcq⟩ := HQ.out (by have := HM.out; omega)
        obtain ⟨p, hpk⟩ : ∃ p, ps[k]? = some p := ⟨_, List.getElem?_eq_getElem (by have := HN.out; omega)⟩
        obtain ⟨q, hqk⟩ : ∃ q, qs[k]? = some q := ⟨_, List.getElem?_eq_getElem (by have := HM.out; omega)⟩
        obtain ⟨c0, c1, c2, c3, c4, c5, c6, c7, c8, c9, c10, c11, c12⟩ := (hcp k p hpk).congr (w' := wr) (fun j _ _ => HB.out.cell (p := ⟨g, j, none⟩) hgl)
        obtain ⟨d0, d1, d2, d3, d4, d5, d6, d7, d8, d9, d10, d11, d12⟩ := (hcq k q hqk).congr (w' := wr) (fun j _ _ => HB.out.cell (p := ⟨g', j, none⟩) hgl')
        have hgr : g < wr.heap.size := by omega
        have hgr' : g' < wr.heap.size := by omega
        have HPK := Lib.hid hpk
        have HQK := Lib.hid hqk
        clear hcp hcq hpk hqk
        go_wp2_with fail
        refine (same1_any p q _).mono ?_
        rintro e w1 ⟨rfl, hb1⟩
        have HB1 : Hid (Below w.heap.size w w1) := ((HB.out.alloc HB.out.size _).alloc (by have := HB.out.size; simp; omega) _).trans (hb1.mono (by have := HB.out.size; simp; omega))
        clear hb1 c0 c1 c2 c3 c4 c5 c6 c7 c8 c9 c10 c11 c12 d0 d1 d2 d3 d4 d5 d6 d7 d8 d9 d10 d11 d12
        cases hs : sameB (seenP p) (seenP q) with
        | true =>
          have HS := Lib.hid hs
          clear hs
          go_wp2
          go_roundw
          case rel =>
            refine ⟨k + 1, by omega, by go_num, fun j x y hj hx hy => ?_, HB1.out⟩
            by_cases e : j = k
            · subst e
              have h1 := HPK.out
              have h2 := HQK.out
              rw [hx] at h1
              rw [hy] at h2
              injection h1 with h1
              injection h2 with h2
              rw [h1, h2]
              exact HS.out
            · exact HALL.out j x y (by omega) hx hy
          case measure => simp [intOf]; omega
        | false =>
          have HS : Hid (sameL ps qs = false) := sameL_false (fun h => by
            have := h.2 k p q HPK.out HQK.out
            rw [hs] at this
            cases this)
          clear hs
          go_wp2
          go_ret
          exact ⟨ret_bool (by rw [HS.out]), HB1.out⟩
      · have HS : Hid (sameL ps qs = true) := sameL_true ⟨HN.out.symm.trans HM.out, fun i p q hp hq => HALL.out i p q (by have := (List.getElem?_eq_some_iff.1 hp).1; have := HN.out; omega) hp hq⟩
        go_wp2_with fail
        go_ret
        exact ⟨ret_bool (by rw [HS.out]), HB.out⟩
  · have hb : ((n : Int) != (m : Int)) = true := by simp; omega
    have HS : Hid (sameL ps qs = false) := sameL_false (fun h => hl (HN.out.trans (h.1.trans HM.out.symm)))
    clear hl
    go_enter Tryz.func57, Tryz.ntmps57
    go_wp2
    go_ret
    exact ⟨ret_bool (by rw [HS.out]), Below.refl _ _⟩

theorem slc_row {w : World} {t g c : Nat} {ps : List Pr} (h : Tab w t g c ps) : ∃ A cc, slc g c ps = .slice A ps.length cc ∧ PrRow w A ps := by
  by_cases hl : ps.length = 0
  · exact ⟨none, 0, by simp [slc, hl], fun hn => absurd hl hn⟩
  · obtain ⟨hr, hc⟩ := h.rows hl
    exact ⟨some ⟨g, 0, none⟩, c, by simp [slc, hl], fun _ => ⟨g, rfl, hr.lt, hc⟩⟩

theorem PrRow.bw {W : World} {A : Option Addr} {ps : List Pr} (h : PrRow W A ps) {w' : World} (hb : Below W.heap.size W w') : PrRow w' A ps := by
  intro hl
  obtain ⟨g, rfl, hg, hc⟩ := h hl
  exact ⟨g, rfl, Nat.lt_of_lt_of_le hg hb.size, fun i p hi => (hc i p hi).congr fun j _ _ => hb.cell (p := ⟨g, j, none⟩) hg⟩

set_option maxRecDepth 100000 in
set_option maxHeartbeats 1000000 in
theorem same_any (t g c t' g' c' : Nat) (ps qs : List Pr) (w : World) (hT : Tab w t g c ps) (hT' : Tab w t' g' c' qs) :
    Calls Tryz.prog 21 #[.pointer (some ⟨t, 0, none⟩), .pointer (some ⟨t', 0, none⟩)] w fun e w' => e = .returned (.bool (sameL ps qs)) ∧ Below w.heap.size w w' := by
  obtain ⟨A, cc, hA, hr⟩ := slc_row hT
  obtain ⟨A', cc', hA', hr'⟩ := slc_row hT'
  have hcell := hT.cell
  have hcell' := hT'.cell
  rw [hA] at hcell
  rw [hA'] at hcell'
  have hlen := hT.len
  have htl := hT.lt
  have htl' := hT'.lt
  have HR := Lib.hid hr
  have HR' := Lib.hid hr'
  clear hT hT' hr hr' hA hA'
  have hx1 := fun (x : BW w) => x.cell t 0 htl
  have hx2 := fun (x : BW w) => x.cell t' 0 htl'
  go_enter Tryz.func21, Tryz.ntmps21
  go_wp2_with fail
  refine wp_region_bw (by kernel_rfl) (by kernel_rfl) ?_
  repeat (go_big_quiet_step ((go_at_call 57; exact Calls.bw (equalFunc_any _ _ _ _ _ _ _ (HR.out.bw (Subtype.property _)) (HR'.out.bw (Subtype.property _)) (by omega)))))
  refine wpQuiet_nil ?_
  rintro w2 ⟨x2, hx⟩
  have hb2 : Below w.heap.size w w2 := by rw [hx]; exact x2.property
  clear hx x2 hx1 hx2
  have HB2 := Lib.hid hb2
  clear hb2
  go_wp2
  go_ret
  exact ⟨rfl, HB2.out⟩

end Go.Proofs.YtgnjenmicojgnaaGreat
