/-
  A Dispatch in memory; what follow does behind a process that has become ready.
-/
import Derived.Test.YtgnjenmicojgnaaGreatQj
import Derived.Test.YtgnjenmicojgnaaGreatG1w
import Derived.Deep.RegionHeld
namespace Go.Proofs.YtgnjenmicojgnaaGreat
set_option linter.unusedVariables false
set_option linter.unusedSimpArgs false
open Go.RowKit

set_option maxRecDepth 100000 in
set_option maxHeartbeats 1000000 in
theorem at_none (m : Nat) (v : Value) (Q : List (Int × Int)) (id : Int) (w : World) (h : Tms w m v Q) (hl : Q.length ≤ 1000) (hi : idxQ Q id = -1) :
    Calls Tryz.prog 110 #[.pointer (some ⟨m, 0, none⟩), .int .i64 id] w fun e w' => e = .returned (.tuple #[.int .i64 0, .bool false]) ∧ Below w.heap.size w w' := by
  have HC := Lib.hid (find_any m v Q id w h hl)
  have HI := Lib.hid hi
  clear h hi
  go_enter Tryz.func110, Tryz.ntmps110
  go_wp2_with fail
  refine HC.out.mono ?_
  rw [HI.out]
  rintro e w1 ⟨rfl, hb1⟩
  have HB1 := Lib.hid hb1
  clear hb1
  go_wp2
  go_ret2
  exact ⟨rfl, HB1.out⟩

set_option maxRecDepth 100000 in
set_option maxHeartbeats 1000000 in
theorem tdrop_none (m : Nat) (v : Value) (Q : List (Int × Int)) (id : Int) (w : World) (h : Tms w m v Q) (hl : Q.length ≤ 1000) (hi : idxQ Q id = -1) :
    Calls Tryz.prog 111 #[.pointer (some ⟨m, 0, none⟩), .int .i64 id] w fun e w' => e = .returned (.bool false) ∧ Below w.heap.size w w' := by
  have HC := Lib.hid (find_any m v Q id w h hl)
  have HI := Lib.hid hi
  clear h hi
  go_enter Tryz.func111, Tryz.ntmps111
  go_wp2_with fail
  refine HC.out.mono ?_
  rw [HI.out]
  rintro e w1 ⟨rfl, hb1⟩
  have HB1 := Lib.hid hb1
  clear hb1
  go_wp2
  go_ret
  exact ⟨rfl, HB1.out⟩

/-- A Dispatch: its table at t (the processes in block g), its list at l, its timers at m. -/
structure Dsp (w : World) (d t g c l m : Nat) (V : Nat → Value) (v : Value) (ps : List Pr) (R : Nat → List Int) (Q : List (Int × Int)) : Prop where
  c0 : w.cell? ⟨d, 0, none⟩ = some (.pointer (some ⟨t, 0, none⟩))
  c1 : w.cell? ⟨d, 1, none⟩ = some (.pointer (some ⟨l, 0, none⟩))
  c2 : w.cell? ⟨d, 2, none⟩ = some (.pointer (some ⟨m, 0, none⟩))
  dl : d < w.heap.size
  gl : g < w.heap.size
  T : Tab w t g c ps
  ok : ∀ p, p ∈ ps → p.Ok
  L : Rdy w l V R
  M : Tms w m v Q
  dg : d ≠ g
  dL : ¬ inL l V d
  dT : ¬ inT m v d
  tL : ¬ inL l V t
  tT : ¬ inT m v t
  gL : ¬ inL l V g
  gT : ¬ inT m v g
  LT : ∀ i, inL l V i → ¬ inT m v i

/-- The blocks that a Dispatch holds. -/
def inD (d t g l m : Nat) (V : Nat → Value) (v : Value) (i : Nat) : Prop := i = d ∨ i = t ∨ i = g ∨ inL l V i ∨ inT m v i

section
variable {w w' : World} {d t g c l m : Nat} {V : Nat → Value} {v : Value} {ps ps' : List Pr} {R R' : Nat → List Int} {Q : List (Int × Int)}

theorem Dsp.lt (h : Dsp w d t g c l m V v ps R Q) {i : Nat} (hi : inD d t g l m V v i) : i < w.heap.size := by
  rcases hi with rfl | rfl | rfl | hi | hi
  · exact h.dl
  · exact h.T.lt
  · exact h.gl
  · exact h.L.lt hi
  · exact h.M.lt hi

theorem Dsp.keep (h : Dsp w d t g c l m V v ps R Q) (hs : w.heap.size ≤ w'.heap.size) (hb : ∀ i, inD d t g l m V v i → w'.heap[i]? = w.heap[i]?) : Dsp w' d t g c l m V v ps R Q := by
  have hd := hb d (.inl rfl)
  have hc : ∀ j, w'.cell? ⟨d, j, none⟩ = w.cell? ⟨d, j, none⟩ := fun j => World.cell?_of_block (a := ⟨d, j, none⟩) hd
  exact ⟨(hc 0).trans h.c0, (hc 1).trans h.c1, (hc 2).trans h.c2, Nat.lt_of_lt_of_le h.dl hs, Nat.lt_of_lt_of_le h.gl hs, h.T.keep2 (hb t (.inr (.inl rfl))) (hb g (.inr (.inr (.inl rfl)))), h.ok,
    h.L.keep (fun i hi => hb i (.inr (.inr (.inr (.inl hi))))), h.M.keep (fun i hi => hb i (.inr (.inr (.inr (.inr hi))))), h.dg, h.dL, h.dT, h.tL, h.tT, h.gL, h.gT, h.LT⟩

theorem Dsp.below (h : Dsp w d t g c l m V v ps R Q) (hb : Below w.heap.size w w') : Dsp w' d t g c l m V v ps R Q :=
  h.keep hb.size (fun i hi => hb.block i (h.lt hi))

theorem Dsp.kept (h : Dsp w d t g c l m V v ps R Q) {S : Nat → Prop} (hk : Kept w w' S) (hs : ∀ i, inD d t g l m V v i → ¬ S i) : Dsp w' d t g c l m V v ps R Q :=
  h.keep hk.size (fun i hi => hk.block i (h.lt hi) (hs i hi))

theorem Apart.kept {w w' : World} {g : Nat} (h : Apart w.heap.size w w' g) : Kept w w' (fun i => i = g) := ⟨h.os, h.tape, h.output, h.size, h.block⟩

/-- A call of the table. -/
theorem Dsp.tab (h : Dsp w d t g c l m V v ps R Q) (hT : Tab w' t g c ps') (hok : ∀ p, p ∈ ps' → p.Ok) (ha : Apart w.heap.size w w' g) : Dsp w' d t g c l m V v ps' R Q := by
  have hk := ha.kept
  have hc : ∀ j, w'.cell? ⟨d, j, none⟩ = w.cell? ⟨d, j, none⟩ := fun j => hk.cell (a := ⟨d, j, none⟩) h.dl h.dg
  exact ⟨(hc 0).trans h.c0, (hc 1).trans h.c1, (hc 2).trans h.c2, Nat.lt_of_lt_of_le h.dl ha.size, Nat.lt_of_lt_of_le h.gl ha.size, hT, hok,
    h.L.kept hk (fun i hi e => h.gL (e ▸ hi)), h.M.kept hk (fun i hi e => h.gT (e ▸ hi)), h.dg, h.dL, h.dT, h.tL, h.tT, h.gL, h.gT, h.LT⟩

/-- A call of the list. -/
theorem Dsp.lst (h : Dsp w d t g c l m V v ps R Q) {V' : Nat → Value} (hL : Rdy w' l V' R') (hk : Kept w w' (inL l V)) (hn : ∀ i, inL l V' i → inL l V i ∨ w.heap.size ≤ i) : Dsp w' d t g c l m V' v ps R' Q := by
  have hc : ∀ j, w'.cell? ⟨d, j, none⟩ = w.cell? ⟨d, j, none⟩ := fun j => hk.cell (a := ⟨d, j, none⟩) h.dl h.dL
  have no : ∀ i, i < w.heap.size → ¬ inL l V i → ¬ inL l V' i := fun i hi hni hi' => by
    rcases hn i hi' with h1 | h1
    · exact hni h1
    · omega
  exact ⟨(hc 0).trans h.c0, (hc 1).trans h.c1, (hc 2).trans h.c2, Nat.lt_of_lt_of_le h.dl hk.size, Nat.lt_of_lt_of_le h.gl hk.size,
    h.T.keep2 (hk.block t h.T.lt h.tL) (hk.block g h.gl h.gL), h.ok, hL, h.M.kept hk (fun i hi hi' => h.LT i hi' hi), h.dg, no d h.dl h.dL, h.dT, no t h.T.lt h.tL, h.tT, no g h.gl h.gL, h.gT,
    fun i hi hi' => (no i (h.M.lt hi') (fun hh => h.LT i hh hi')) hi⟩
end

/-- What an operation on a Dispatch leaves: the table is ps, the row R, the timers Q; only its own blocks have turned. -/
def DPost (w : World) (d t g c l m : Nat) (V : Nat → Value) (v : Value) (ps : List Pr) (R : Nat → List Int) (Q : List (Int × Int)) (r : Value) (e : Ending) (w' : World) : Prop :=
  e = .returned r ∧ ∃ V' v', Dsp w' d t g c l m V' v' ps R Q ∧ Kept w w' (inD d t g l m V v) ∧ (∀ i, inD d t g l m V' v' i → inD d t g l m V v i ∨ w.heap.size ≤ i)

theorem until_bw {t g c : Nat} {ps : List Pr} (i : Int) {b : Bool} {w : World} (hb : untilB (lookP ps i) = b) (hT : Tab w t g c ps) :
    Calls Tryz.prog 92 #[.pointer (some ⟨t, 0, none⟩), .int .i64 i] w fun e w' => e = .returned (.tuple #[.int .i64 (untilR (lookP ps i)), .bool b]) ∧ Below w.heap.size w w' := until_is i rfl hb hT

set_option maxRecDepth 100000 in
set_option maxHeartbeats 2000000 in
theorem follow_put {w : World} {d t g c l m : Nat} {V : Nat → Value} {v : Value} {ps : List Pr} {R : Nat → List Int} {Q : List (Int × Int)} (h : Dsp w d t g c l m V v ps R Q) (i : Int) (p : Nat) (hi : 0 ≤ i) (hp : p < 64)
    (hst : stateR (lookP ps i) = 1) (hcur : curR (lookP ps i) = p) (hunt : untilB (lookP ps i) = false) (hno : prio R i = none) (hl : (R p).length ≤ 1000) (hQ : Q.length ≤ 1000) (hq : idxQ Q i = -1) :
    Calls Tryz.prog 67 #[.pointer (some ⟨d, 0, none⟩), .int .i64 i] w (DPost w d t g c l m V v ps (upd R p (R p ++ [i])) Q (.tuple #[])) := by
  have c0 := h.c0
  have c1 := h.c1
  have c2 := h.c2
  have hdl := h.dl
  have H := Lib.hid h
  have HST := Lib.hid hst
  have HCUR := Lib.hid hcur
  have HUNT := Lib.hid hunt
  have HNO := Lib.hid hno
  have HQ := Lib.hid hq
  clear h hst hcur hunt hno hq
  go_enter Tryz.func67, Tryz.ntmps67
  go_wp2_with fail
  refine (prio_is (k := 0) (b := false) H.out.L (by rw [HNO.out]; rfl) (by rw [HNO.out]; rfl)).mono ?_
  rintro e w1 ⟨rfl, rfl⟩
  go_wp2_with fail
  refine (state_is i HST.out H.out.T).mono ?_
  rintro e w2 ⟨rfl, hb2⟩
  have H2 := Lib.hid (H.out.below hb2)
  have HB2 := Lib.hid hb2
  have d0 := H2.out.c0
  have d1 := H2.out.c1
  have hdl2 := H2.out.dl
  clear hb2 c0 c1 c2
  go_wp2_with fail
  have HP := fun (W : World) (hb : Below w2.heap.size w2 W) => put_any l p V R i W (H2.out.below hb).L hi hp HNO.out hl
  have HCU := fun (W : World) (hb : Below w2.heap.size w2 W) => cur_is i HCUR.out (H2.out.below hb).T
  have HP' := Lib.hid HP
  have HCU' := Lib.hid HCU
  clear HP HCU
  go_region_held (fun w' => w'.cell? ⟨d, 0, none⟩ = some (.pointer (some ⟨t, 0, none⟩)) ∧ w'.cell? ⟨d, 1, none⟩ = some (.pointer (some ⟨l, 0, none⟩))) (first | go_keep | (exact ⟨by assumption, by assumption⟩))
    (first
      | (go_at_call 15; refine (HCU'.out _ (Below.refl _ _).drew).mono ?_; rintro e w3 ⟨rfl, hb3⟩; have e0 := (H2.out.below ((Below.refl _ _).drew.trans (hb3.mono (Nat.le_refl _)))).c0; have e1 := (H2.out.below ((Below.refl _ _).drew.trans (hb3.mono (Nat.le_refl _)))).c1)
      | (go_at_call 79; refine (HP'.out w3 ((Below.refl _ _).drew.trans (hb3.mono (Nat.le_refl _)))).mono ?_; rintro e w4 ⟨rfl, V', hL4, hk4, hn4⟩; have f0 := ((H2.out.below ((Below.refl _ _).drew.trans (hb3.mono (Nat.le_refl _)))).lst hL4 hk4 hn4).c0; have f1 := ((H2.out.below ((Below.refl _ _).drew.trans (hb3.mono (Nat.le_refl _)))).lst hL4 hk4 hn4).c1))
  have HB3 : Hid (Below w2.heap.size w2 w3) := (Below.refl _ _).drew.trans (hb3.mono (Nat.le_refl _))
  have H3 := Lib.hid (H2.out.below HB3.out)
  have H4 := Lib.hid (H3.out.lst hL4 hk4 hn4)
  have HK4 : Hid (Kept w1 w4 (inL l V)) := ((Kept.of_below HB2.out).trans (Kept.of_below HB3.out) (fun _ _ hi => hi)).trans hk4 (fun _ _ hi => hi)
  have HN4 : Hid (∀ i, inL l V' i → inL l V i ∨ w1.heap.size ≤ i) := fun i hi => (hn4 i hi).imp id (fun hle => by have := HB2.out.size; have := HB3.out.size; omega)
  have g0 := H4.out.c0
  have g1 := H4.out.c1
  have g2 := H4.out.c2
  have hdl4 := H4.out.dl
  clear hL4 hk4 hn4 hb3 HP' HCU'
  go_wp2_with fail
  refine (until_bw i HUNT.out H4.out.T).mono ?_
  rintro e w5 ⟨rfl, hb5⟩
  have H5 := Lib.hid (H4.out.below hb5)
  have HB5 := Lib.hid hb5
  have k2 := H5.out.c2
  have hdl5 := H5.out.dl
  clear hb5 g0 g1 g2
  obtain ⟨tu, htu⟩ : ∃ tu, untilR (lookP ps i) = tu := ⟨_, rfl⟩
  rw [htu]
  clear htu
  go_wp2_with fail
  refine (at_none m v Q i w5 H5.out.M hQ HQ.out).mono ?_
  rintro e w6 ⟨rfl, hb6⟩
  have H6 := Lib.hid (H5.out.below hb6)
  have HB6 := Lib.hid hb6
  have l2 := H6.out.c2
  have hdl6 := H6.out.dl
  clear hb6 k2
  go_wp2_with fail
  refine (tdrop_none m v Q i w6 H6.out.M hQ HQ.out).mono ?_
  rintro e w7 ⟨rfl, hb7⟩
  have H7 := Lib.hid (H6.out.below hb7)
  have HB7 := Lib.hid hb7
  clear hb7
  have HPP : Hid (DPost w1 d t g c l m V v ps (upd R p (R p ++ [i])) Q (.tuple #[]) (.returned (.tuple #[])) w7) := by
    refine ⟨rfl, V', v, H7.out, (((HK4.out.trans (Kept.of_below HB5.out) (fun _ _ hi => hi)).trans (Kept.of_below HB6.out) (fun _ _ hi => hi)).trans (Kept.of_below HB7.out) (fun _ _ hi => hi)).mono (fun i _ hi => .inr (.inr (.inr (.inl hi)))), ?_⟩
    rintro j (rfl | rfl | rfl | hj | hj)
    · exact .inl (.inl rfl)
    · exact .inl (.inr (.inl rfl))
    · exact .inl (.inr (.inr (.inl rfl)))
    · exact (HN4.out j hj).imp (fun h => .inr (.inr (.inr (.inl h)))) id
    · exact .inl (.inr (.inr (.inr (.inr hj))))
  go_wp2
  go_end0
  exact HPP.out

end Go.Proofs.YtgnjenmicojgnaaGreat
