/-
  What follow does behind a process that begins to wait; what Wait of a Dispatch does.
-/
import Derived.Test.YtgnjenmicojgnaaGreatM6w
import Derived.Test.YtgnjenmicojgnaaGreatK4w
namespace Go.Proofs.YtgnjenmicojgnaaGreat
set_option linter.unusedVariables false
set_option linter.unusedSimpArgs false
open Go.RowKit

section
variable {w w' : World} {d t g c l m : Nat} {V : Nat → Value} {v : Value} {ps ps' : List Pr} {R R' : Nat → List Int} {Q Q' : List (Int × Int)}

/-- A call of the timers. -/
theorem Dsp.tms (h : Dsp w d t g c l m V v ps R Q) {v' : Value} (hM : Tms w' m v' Q') (hk : Kept w w' (inT m v)) (hn : ∀ i, inT m v' i → inT m v i ∨ w.heap.size ≤ i) : Dsp w' d t g c l m V v' ps R Q' := by
  have hc : ∀ j, w'.cell? ⟨d, j, none⟩ = w.cell? ⟨d, j, none⟩ := fun j => hk.cell (a := ⟨d, j, none⟩) h.dl h.dT
  have no : ∀ i, i < w.heap.size → ¬ inT m v i → ¬ inT m v' i := fun i hi hni hi' => by
    rcases hn i hi' with h1 | h1
    · exact hni h1
    · omega
  exact ⟨(hc 0).trans h.c0, (hc 1).trans h.c1, (hc 2).trans h.c2, Nat.lt_of_lt_of_le h.dl hk.size, Nat.lt_of_lt_of_le h.gl hk.size,
    h.T.keep2 (hk.block t h.T.lt h.tT) (hk.block g h.gl h.gT), h.ok, h.L.kept hk (fun i hi hi' => h.LT i hi hi'), hM, h.dg, h.dL, no d h.dl h.dT, h.tL, no t h.T.lt h.tT, h.gL, no g h.gl h.gT,
    fun i hi hi' => no i (h.L.lt hi) (h.LT i hi) hi'⟩
end

set_option maxRecDepth 100000 in
set_option maxHeartbeats 2000000 in
theorem follow_wait {w : World} {d t g c l m : Nat} {V : Nat → Value} {v : Value} {ps : List Pr} {R R' : Nat → List Int} {Q : List (Int × Int)} (h : Dsp w d t g c l m V v ps R Q) (i a : Int) (p : Nat)
    (hst : stateR (lookP ps i) = 2) (hpr : prio R i = some p) (hR : upd R p ((R p).erase i) = R') (hun : untilR (lookP ps i) = a) (hub : untilB (lookP ps i) = true) (hQ : Q.length ≤ 900) (hq : idxQ Q i = -1) :
    Calls Tryz.prog 67 #[.pointer (some ⟨d, 0, none⟩), .int .i64 i] w (DPost w d t g c l m V v ps R' (insQ Q (i, a)) (.tuple #[])) := by
  have c0 := h.c0
  have c1 := h.c1
  have c2 := h.c2
  have hdl := h.dl
  have H := Lib.hid h
  have HST := Lib.hid hst
  have HPR := Lib.hid hpr
  have HR := Lib.hid hR
  have HUN := Lib.hid hun
  have HUB := Lib.hid hub
  have HQ := Lib.hid hq
  clear h hst hpr hR hun hub hq
  go_enter Tryz.func67, Tryz.ntmps67
  go_wp2_with fail
  refine (prio_is (k := p) (b := true) H.out.L (by rw [HPR.out]; rfl) (by rw [HPR.out]; rfl)).mono ?_
  rintro e w1 ⟨rfl, rfl⟩
  go_wp2_with fail
  refine (state_is i HST.out H.out.T).mono ?_
  rintro e w2 ⟨rfl, hb2⟩
  have H2 := Lib.hid (H.out.below hb2)
  have HB2 := Lib.hid hb2
  have d0 := H2.out.c0
  have d1 := H2.out.c1
  have hdl2 := H2.out.dl
  clear hb2 c0 c1 c2
  go_wp2_with fail
  refine (drop_some l p V R i w2 H2.out.L HPR.out).mono ?_
  rw [HR.out]
  rintro e w3 ⟨rfl, V3, hL3, hk3, hn3⟩
  have H3 := Lib.hid (H2.out.lst hL3 hk3 hn3)
  have HK3 : Hid (Kept w1 w3 (inL l V)) := (Kept.of_below HB2.out).trans hk3 (fun _ _ hi => hi)
  have HN3 : Hid (∀ i, inL l V3 i → inL l V i ∨ w1.heap.size ≤ i) := fun i hi => (hn3 i hi).imp (fun h => h) (fun hle => by have := HB2.out.size; omega)
  have e0 := H3.out.c0
  have hdl3 := H3.out.dl
  clear hL3 hk3 hn3 d0 d1
  go_wp2_with fail
  refine (until_is i HUN.out HUB.out H3.out.T).mono ?_
  rintro e w5 ⟨rfl, hb5⟩
  have H5 := Lib.hid (H3.out.below hb5)
  have HB5 := Lib.hid hb5
  have k2 := H5.out.c2
  have hdl5 := H5.out.dl
  clear hb5 e0
  go_wp2_with fail
  refine (at_none m v Q i w5 H5.out.M (by omega) HQ.out).mono ?_
  rintro e w6 ⟨rfl, hb6⟩
  have H6 := Lib.hid (H5.out.below hb6)
  have HB6 := Lib.hid hb6
  have l2 := H6.out.c2
  have hdl6 := H6.out.dl
  clear hb6 k2
  go_wp2_with fail
  refine (tset_none m v Q i a w6 H6.out.M hQ HQ.out).mono ?_
  rintro e w7 ⟨rfl, v7, hM7, hk7, hn7⟩
  have HPP : Hid (DPost w1 d t g c l m V v ps R' (insQ Q (i, a)) (.tuple #[]) (.returned (.tuple #[])) w7) := by
    have hs3 := HK3.out.size
    have hs5 := HB5.out.size
    have hs6 := HB6.out.size
    refine ⟨rfl, V3, v7, H6.out.tms hM7 hk7 hn7, (((HK3.out.mono (S' := inD d t g l m V v) (fun i _ hi => .inr (.inr (.inr (.inl hi))))).trans (Kept.of_below (S := fun _ => False) HB5.out) (fun _ _ hi => hi.elim)).trans (Kept.of_below (S := fun _ => False) HB6.out) (fun _ _ hi => hi.elim)).trans hk7 (fun i _ hi => .inr (.inr (.inr (.inr hi)))), ?_⟩
    rintro j (rfl | rfl | rfl | hj | hj)
    · exact .inl (.inl rfl)
    · exact .inl (.inr (.inl rfl))
    · exact .inl (.inr (.inr (.inl rfl)))
    · exact (HN3.out j hj).imp (fun h => .inr (.inr (.inr (.inl h)))) (fun h => h)
    · exact (hn7 j hj).imp (fun h => .inr (.inr (.inr (.inr h)))) (fun h => by omega)
  clear hM7 hk7 hn7
  go_wp2
  go_end0
  exact HPP.out

set_option maxRecDepth 100000 in
set_option maxHeartbeats 1000000 in
theorem dwait_ok {w : World} {d t g c l m : Nat} {V : Nat → Value} {v : Value} {ps ps' : List Pr} {R R' : Nat → List Int} {Q Q' : List (Int × Int)} (h : Dsp w d t g c l m V v ps R Q) (i n : Int) (hact : act (waitF n) (decide (n ≤ 1099511627776)) ps i = (ps', 0))
    (hf : ∀ W, Dsp W d t g c l m V v ps' R Q → Calls Tryz.prog 67 #[.pointer (some ⟨d, 0, none⟩), .int .i64 i] W (DPost W d t g c l m V v ps' R' Q' (.tuple #[]))) :
    Calls Tryz.prog 32 #[.pointer (some ⟨d, 0, none⟩), .int .i64 i, .int .i64 n] w (DPost w d t g c l m V v ps' R' Q' (.int .i64 0)) := by
  have c0 := h.c0
  have hdl := h.dl
  have H := Lib.hid h
  have HF := Lib.hid hf
  have HACT := Lib.hid hact
  clear h hf hact
  go_enter Tryz.func32, Tryz.ntmps32
  go_wp2_with fail
  refine (wait_is i n HACT.out H.out.T H.out.ok).mono ?_
  rintro e w1 ⟨rfl, hT1, hA1⟩
  have hok : ∀ p, p ∈ ps' → p.Ok := by
    have := act_ok (keeps_wait n) H.out.ok i (may := decide (n ≤ 1099511627776))
    rw [HACT.out] at this
    exact this
  have H1 := Lib.hid (H.out.tab hT1 hok hA1)
  have HK1 : Hid (Kept w w1 (inD d t g l m V v)) := hA1.kept.mono (fun i _ e => .inr (.inr (.inl e)))
  clear hT1 hA1 c0 hok
  go_wp2_with fail
  refine (done_ok i (HF.out w1 H1.out)).mono ?_
  intro e w2 hp
  have HP := Lib.hid (DPost.after HK1.out hp)
  obtain ⟨rfl, -⟩ := hp
  go_wp2
  go_ret
  exact HP.out

end Go.Proofs.YtgnjenmicojgnaaGreat
