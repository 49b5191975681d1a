/-
  What Done and Charge do to a table, for every index and number.
-/
import Derived.Test.YtgnjenmicojgnaaA6
namespace Go.Proofs.Ytgnjenmicojgnaa
set_option linter.unusedVariables false
set_option linter.unusedSimpArgs false
open Go.RowKit

theorem Apart.setCell {B : Nat} {w w' : World} {g : Nat} (h : Apart B w w' g) {a : Addr} (ha : B ≤ a.block) (v : Value) : Apart B w (w'.setCell a v) g :=
  ⟨h.os, h.tape, h.output, by simpa [World.setCell] using h.size, fun i hi hne => (Below.heap_setCell w' a v i (by omega)).trans (h.block i hi hne)⟩

theorem Row.new (w : World) (C : Array Value) (T : TypeId) : Row (w.alloc (.cells C T)) w.heap.size T := ⟨C, heap_alloc_new w _⟩

/-- To store what is there already turns nothing. -/
theorem setCell_same {w : World} {a : Addr} {v : Value} (h : w.cell? a = some v) : w.setCell a v = w := by
  have e : (w.setCell a v).heap = w.heap := by
    apply Array.ext_getElem?
    intro i
    simp only [World.setCell, Array.getElem?_modify]
    by_cases hi : a.block = i
    · subst hi
      rw [if_pos rfl]
      cases hb : w.heap[a.block]? with
      | none => rfl
      | some o =>
        simp only [World.cell?, hb] at h
        cases o <;> try rfl
        rename_i c elem frozen
        by_cases hs : a.spot.isSome = true
        · simp [hs]
        · simp only [hs] at h
          obtain ⟨hlt, hv⟩ := Array.getElem?_eq_some_iff.1 h
          simp [hs, Array.setIfInBounds, hlt, ← hv]
    · rw [if_neg hi]
  show { w with heap := (w.setCell a v).heap } = w
  rw [e]

/-- The number of the next release that Done tells. -/
def doneR (ps : List Pr) (i now : Int) : Int := if (act (doneF now) (tickB now) ps i).2 = 0 then ((ps[i.toNat]?).map doneN).getD 0 else 0

set_option maxRecDepth 100000 in
set_option maxHeartbeats 400000 in
theorem done_any (t g c : Nat) (ps : List Pr) (i n : Int) (w : World) (hT : Tab w t g c ps) (hok : ∀ p, p ∈ ps → p.Ok) :
    Calls Try.prog 17 #[.pointer (some ⟨t, 0, none⟩), .int .i64 i, .int .i64 n] w fun e w' => e = .returned (.tuple #[.int .i64 (doneR ps i n), .int .i64 (act (doneF n) (tickB n) ps i).2]) ∧ Tab w' t g c (act (doneF n) (tickB n) ps i).1 ∧ Apart w.heap.size w w' g := by
  have htl := hT.lt
  have HT := Lib.hid ((hT.alloc (.cells #[.int .i64 n] 3)).alloc (.cells #[.int .i64 0] 3))
  have hg0 : ps.length ≠ 0 → w.heap.size ≠ g ∧ w.heap.size + 1 ≠ g := fun h => by have := hT.glt h; omega
  clear hT
  go_enter Try.func17, Try.ntmps17
  go_wp2_with (go_at_call 48; refine (tick_any _ _).mono ?_; rintro e w' ⟨rfl, rfl⟩)
  refine Calls.mono (change_any t g c 57 58 ps i (tickB n) (doneF n) (fun p w' => w'.cell? ⟨w.heap.size + 1, 0, none⟩ = some (.int .i64 (doneN p))) #[] #[.pointer (some ⟨w.heap.size + 1, 0, none⟩), .pointer (some ⟨w.heap.size, 0, none⟩)] _ w.heap.size enters57 enters58 (by simp; omega) htl HT.out ?_ ?_) ?_
  · intro hm p hp
    show Calls Try.prog 57 #[.agg p.cells] _ _
    unfold doneF
    rw [isSome_ite]
    exact free_any p _
  · intro hm j p p' hj hf w1 hb hP hr
    have hpo := hok p (List.mem_of_getElem? hj)
    have hjl : j < ps.length := (List.getElem?_eq_some_iff.1 hj).1
    obtain ⟨hbg, hxg⟩ := hg0 (by omega)
    have hb0 : w1.cell? ⟨w.heap.size, 0, none⟩ = some (.int .i64 n) := (hb.cell (p := ⟨w.heap.size, 0, none⟩) (by simp; omega)).trans (by simp)
    have hx0 : w1.cell? ⟨w.heap.size + 1, 0, none⟩ = some (.int .i64 0) := (hb.cell (p := ⟨w.heap.size + 1, 0, none⟩) (by simp)).trans (by go_simp)
    have hf0 : w1.frozen? ⟨w.heap.size + 1, 0, none⟩ = false := (hb.frozen (p := ⟨w.heap.size + 1, 0, none⟩) (by simp)).trans (by go_simp)
    have hB1 : w.heap.size ≤ w1.heap.size := by have := hb.size; simp at this; omega
    unfold doneF at hf
    obtain ⟨hst, rfl⟩ := some_ite hf
    have ht := tickB_true hm
    show Calls Try.prog 58 #[.pointer (some ⟨g, j * 13, none⟩), .pointer (some ⟨w.heap.size + 1, 0, none⟩), .pointer (some ⟨w.heap.size, 0, none⟩)] w1 _
    unfold doneP doneN
    by_cases h0 : p.per = 0
    · rw [if_pos h0, if_pos h0]
      exact done1_once w.heap.size g (j * 13) n 0 (w.heap.size + 1) w.heap.size p w1 hr hB1 hb0 hbg (Ne.symm hbg) hx0 hf0 (by omega) hxg (Ne.symm hxg) (by omega) (by omega) h0 hP
    · rw [if_neg h0, if_neg h0]
      by_cases h1 : p.beg + p.per ≤ n
      · rw [if_pos h1]
        exact done1_late w.heap.size g (j * 13) n 0 (w.heap.size + 1) w.heap.size p w1 hr hB1 hb0 hbg (Ne.symm hbg) hx0 hf0 (by omega) hxg (Ne.symm hxg) (by omega) (by omega) h0 h1 ⟨hpo.beg.1, by have := hpo.beg.2; omega⟩ hpo.per hP
      · rw [if_neg h1]
        exact done1_rest w.heap.size g (j * 13) n 0 (w.heap.size + 1) w.heap.size p w1 hr hB1 hb0 hbg (Ne.symm hbg) hx0 hf0 (by omega) hxg (Ne.symm hxg) (by omega) (by omega) h0 (by omega) ⟨hpo.beg.1, by have := hpo.beg.2; omega⟩ hpo.per hP
  · rintro e w' ⟨rfl, hT', hA, hX, hE, hRow⟩
    have hx' : w'.cell? ⟨w.heap.size + 1, 0, none⟩ = some (.int .i64 (doneR ps i n)) := by
      unfold doneR
      by_cases h : (act (doneF n) (tickB n) ps i).2 = 0
      · obtain ⟨p, hp, hx⟩ := hX h
        rw [if_pos h, hp]
        exact hx
      · rw [if_neg h]
        exact ((hE h).cell (p := ⟨w.heap.size + 1, 0, none⟩) (by simp)).trans (by go_simp)
    have hrow := hRow (w.heap.size + 1) 3 (by have := Row.new (w.alloc (.cells #[.int .i64 n] 3)) #[.int .i64 0] 3; simpa using this)
    have hf' := hrow.fz 0
    have hlt' := hrow.lt
    have HA := Lib.hid hA
    have hA2 : Apart w.heap.size w w' g := (Apart.of_below (((Below.refl _ _).alloc (Nat.le_refl _) _).alloc (by simp) _) (Nat.le_refl _)).trans hA
    have hA3 : Apart w.heap.size w (w'.setCell ⟨w.heap.size + 1, 0, none⟩ (.int .i64 (doneR ps i n))) g := hA2.setCell (by simp) _
    have hT3 : Tab (w'.setCell ⟨w.heap.size + 1, 0, none⟩ (.int .i64 (doneR ps i n))) t g c (act (doneF n) (tickB n) ps i).1 := by
      rw [setCell_same hx']
      exact hT'
    have HT3 := Lib.hid hT3
    have HA3 := Lib.hid hA3
    clear hT' hA hX hE HA hA2 hA3 hT3 hRow
    go_wp2
    refine bodyPost_ret (v := .tuple #[.int .i64 (doneR ps i n), .int .i64 (act (doneF n) (tickB n) ps i).2]) (by simp [results, Try.results17, go_sem, hx']) rfl ?_
    exact ⟨rfl, HT3.out, HA3.out⟩

theorem ret_int {a b : Int} (h : a = b) : Ending.returned (.int .i64 a) = .returned (.int .i64 b) := by rw [h]

/-- Whether a charge goes beyond the capacity. -/
def overR (ps : List Pr) (i n : Int) : Bool := if (act (chargeF n) (tickB n) ps i).2 = 0 then ((ps[i.toNat]?).map (overN n)).getD false else false
/-- What Charge answers. -/
def chargeR (ps : List Pr) (i n : Int) : Int := if overR ps i n = true then 16 else (act (chargeF n) (tickB n) ps i).2

set_option maxRecDepth 100000 in
set_option maxHeartbeats 400000 in
theorem charge_any (t g c : Nat) (ps : List Pr) (i n : Int) (w : World) (hT : Tab w t g c ps) (hok : ∀ p, p ∈ ps → p.Ok) :
    Calls Try.prog 18 #[.pointer (some ⟨t, 0, none⟩), .int .i64 i, .int .i64 n] w fun e w' => e = .returned (.int .i64 (chargeR ps i n)) ∧ Tab w' t g c (act (chargeF n) (tickB n) ps i).1 ∧ Apart w.heap.size w w' g := by
  have htl := hT.lt
  have HT := Lib.hid ((hT.alloc (.cells #[.int .i64 n] 3)).alloc (.cells #[.bool false] 4))
  have hg0 : ps.length ≠ 0 → w.heap.size ≠ g ∧ w.heap.size + 1 ≠ g := fun h => by have := hT.glt h; omega
  clear hT
  go_enter Try.func18, Try.ntmps18
  go_wp2_with (go_at_call 48; refine (tick_any _ _).mono ?_; rintro e w' ⟨rfl, rfl⟩)
  refine Calls.mono (change_any t g c 60 61 ps i (tickB n) (chargeF n) (fun p w' => w'.cell? ⟨w.heap.size + 1, 0, none⟩ = some (.bool (overN n p))) #[] #[.pointer (some ⟨w.heap.size, 0, none⟩), .pointer (some ⟨w.heap.size + 1, 0, none⟩)] _ w.heap.size enters60 enters61 (by simp; omega) htl HT.out ?_ ?_) ?_
  · intro hm p hp
    show Calls Try.prog 60 #[.agg p.cells] _ _
    unfold chargeF
    rw [isSome_ite]
    exact busy_any p _
  · intro hm j p p' hj hf w1 hb hP hr
    have hpo := hok p (List.mem_of_getElem? hj)
    have hjl : j < ps.length := (List.getElem?_eq_some_iff.1 hj).1
    obtain ⟨hbg, hxg⟩ := hg0 (by omega)
    have hb0 : w1.cell? ⟨w.heap.size, 0, none⟩ = some (.int .i64 n) := (hb.cell (p := ⟨w.heap.size, 0, none⟩) (by simp; omega)).trans (by simp)
    have hx0 : w1.cell? ⟨w.heap.size + 1, 0, none⟩ = some (.bool false) := (hb.cell (p := ⟨w.heap.size + 1, 0, none⟩) (by simp)).trans (by go_simp)
    have hf0 : w1.frozen? ⟨w.heap.size + 1, 0, none⟩ = false := (hb.frozen (p := ⟨w.heap.size + 1, 0, none⟩) (by simp)).trans (by go_simp)
    have hB1 : w.heap.size ≤ w1.heap.size := by have := hb.size; simp at this; omega
    unfold chargeF at hf
    obtain ⟨hst, rfl⟩ := some_ite hf
    have ht := tickB_true hm
    show Calls Try.prog 61 #[.pointer (some ⟨g, j * 13, none⟩), .pointer (some ⟨w.heap.size, 0, none⟩), .pointer (some ⟨w.heap.size + 1, 0, none⟩)] w1 _
    unfold overN usedN
    by_cases h0 : 0 < p.cap
    · have e0 : decide (0 < p.cap) = true := by simpa using h0
      rw [e0, Bool.true_and]
      by_cases h1 : 1099511627776 < p.used + n
      · rw [if_pos h1]
        exact charge1_cap_out w.heap.size g (j * 13) n false w.heap.size (w.heap.size + 1) p w1 hr hB1 hb0 hbg (Ne.symm hbg) hx0 hf0 (by omega) hxg (Ne.symm hxg) (by omega) (by omega) ht hpo.used h0 h1 hP
      · rw [if_neg h1]
        exact charge1_cap_in w.heap.size g (j * 13) n false w.heap.size (w.heap.size + 1) p w1 hr hB1 hb0 hbg (Ne.symm hbg) hx0 hf0 (by omega) hxg (Ne.symm hxg) (by omega) (by omega) ht hpo.used h0 (by omega) hP
    · have e0 : decide (0 < p.cap) = false := by simpa using h0
      rw [e0, Bool.false_and]
      by_cases h1 : 1099511627776 < p.used + n
      · rw [if_pos h1]
        exact charge1_free_out w.heap.size g (j * 13) n false w.heap.size (w.heap.size + 1) p w1 hr hB1 hb0 hbg (Ne.symm hbg) hx0 hf0 (by omega) hxg (Ne.symm hxg) (by omega) (by omega) ht hpo.used h0 h1 hP
      · rw [if_neg h1]
        exact charge1_free_in w.heap.size g (j * 13) n false w.heap.size (w.heap.size + 1) p w1 hr hB1 hb0 hbg (Ne.symm hbg) hx0 hf0 (by omega) hxg (Ne.symm hxg) (by omega) (by omega) ht hpo.used h0 (by omega) hP
  · rintro e w' ⟨rfl, hT', hA, hX, hE, hRow⟩
    have hx' : w'.cell? ⟨w.heap.size + 1, 0, none⟩ = some (.bool (overR ps i n)) := by
      unfold overR
      by_cases h : (act (chargeF n) (tickB n) ps i).2 = 0
      · obtain ⟨p, hp, hx⟩ := hX h
        rw [if_pos h, hp]
        exact hx
      · rw [if_neg h]
        exact ((hE h).cell (p := ⟨w.heap.size + 1, 0, none⟩) (by simp)).trans (by go_simp)
    have hA2 : Apart w.heap.size w w' g := (Apart.of_below (((Below.refl _ _).alloc (Nat.le_refl _) _).alloc (by simp) _) (Nat.le_refl _)).trans hA
    have HT' := Lib.hid hT'
    have HA2 := Lib.hid hA2
    have HR : Hid (chargeR ps i n = if overR ps i n = true then 16 else (act (chargeF n) (tickB n) ps i).2) := rfl
    clear hT' hA hX hE hA2 hRow
    cases hov : overR ps i n with
    | true =>
      rw [hov] at hx' HR
      have HR2 : Hid (16 = chargeR ps i n) := by have := HR.out; rw [if_pos rfl] at this; exact this.symm
      clear hov HR
      go_wp2
      go_ret
      exact ⟨ret_int HR2.out, HT'.out, HA2.out⟩
    | false =>
      rw [hov] at hx' HR
      have HR2 : Hid ((act (chargeF n) (tickB n) ps i).2 = chargeR ps i n) := by have := HR.out; rw [if_neg (by decide)] at this; exact this.symm
      clear hov HR
      go_wp2
      go_ret
      exact ⟨ret_int HR2.out, HT'.out, HA2.out⟩

end Go.Proofs.Ytgnjenmicojgnaa
