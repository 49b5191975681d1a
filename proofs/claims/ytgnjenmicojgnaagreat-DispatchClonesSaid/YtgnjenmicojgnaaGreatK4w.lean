/-
  What the statements' own example of a Dispatch (told) answers: true.
-/
import Derived.Test.YtgnjenmicojgnaaGreatK3w
namespace Go.Proofs.YtgnjenmicojgnaaGreat
set_option linter.unusedVariables false
set_option linter.unusedSimpArgs false
open Go.RowKit

/-- A Dispatch that a call has made itself, in a world behind w0. -/
structure Lives (w0 w : World) (d t g c l m : Nat) (V : Nat → Value) (v : Value) (ps : List Pr) (R : Nat → List Int) (Q : List (Int × Int)) : Prop where
  D : Dsp w d t g c l m V v ps R Q
  low : ∀ i, inD d t g l m V v i → w0.heap.size ≤ i
  bel : Below w0.heap.size w0 w

section
variable {w0 w w' : World} {d t g c l m : Nat} {V : Nat → Value} {v : Value} {ps ps' : List Pr} {R R' : Nat → List Int} {Q Q' : List (Int × Int)}

theorem Lives.step {r : Value} {e : Ending} (h : Lives w0 w d t g c l m V v ps R Q) (hp : DPost w d t g c l m V v ps' R' Q' r e w') : e = .returned r ∧ ∃ V' v', Lives w0 w' d t g c l m V' v' ps' R' Q' ∧ Kept w w' (inD d t g l m V v) ∧ (∀ i, inD d t g l m V' v' i → inD d t g l m V v i ∨ w.heap.size ≤ i) := by
  obtain ⟨he, V', v', h1, h2, h3⟩ := hp
  refine ⟨he, V', v', ⟨h1, fun i hi => ?_, h.bel.trans (h2.below h.bel.size h.low)⟩, h2, h3⟩
  rcases h3 i hi with h4 | h4
  · exact h.low i h4
  · exact Nat.le_trans h.bel.size h4

theorem Lives.below (h : Lives w0 w d t g c l m V v ps R Q) (hb : Below w.heap.size w w') : Lives w0 w' d t g c l m V v ps R Q :=
  ⟨h.D.below hb, h.low, h.bel.trans (hb.mono h.bel.size)⟩
end

def tAt : At := ⟨3, 0, 0, 0, 0⟩
def tP (raised : Int) : Pr := ⟨3, 0, 0, 0, 0, 1, false, 3, raised, 0, 0, 0, false⟩
def tR1 : Nat → List Int := upd r0 3 (r0 3 ++ [0])
def tR2 : Nat → List Int := upd tR1 3 (tR1 3 ++ [1])
def tR3 : Nat → List Int := upd tR2 3 ((tR2 3).erase 0)
def tR4 : Nat → List Int := upd tR3 3 (tR3 3 ++ [0])
def tR5 : Nat → List Int := upd tR4 3 ((tR4 3).erase 0)
def tR6 : Nat → List Int := upd tR5 5 (0 :: tR5 5)
def tR7 : Nat → List Int := upd tR6 5 ((tR6 5).erase 0)
def tR8 : Nat → List Int := upd tR7 3 (0 :: tR7 3)

theorem upd_le {R : Nat → List Int} {q : Nat} {xs : List Int} (h : ∀ p, (R p).length ≤ 1000) (hx : xs.length ≤ 1000) (p : Nat) : (upd R q xs p).length ≤ 1000 := by
  unfold upd
  split
  · exact hx
  · exact h p
theorem tR8_len : ∀ p, (tR8 p).length ≤ 1000 :=
  upd_le (upd_le (upd_le (upd_le (upd_le (upd_le (upd_le (upd_le (fun _ => by simp [r0]) (by decide)) (by decide)) (by decide)) (by decide)) (by decide)) (by decide)) (by decide)) (by decide)

set_option maxRecDepth 100000 in
set_option maxHeartbeats 4000000 in
theorem told_any20 (w : World) : Calls Tryz.prog 9 #[] w fun e w' => e = .returned (.bool true) ∧ Below w.heap.size w w' := by
  go_enter Tryz.func9, Tryz.ntmps9
  go_wp2_with fail
  refine (dnew_any (some ⟨w.heap.size, 0, none⟩) 2 2 [tAt, tAt] _ rfl ?_ (by omega) (by decide)).mono ?_
  · intro _
    refine ⟨w.heap.size, 0, rfl, by simp, fun k a hk => ?_⟩
    match k, hk with
    | 0, hk =>
      simp at hk
      subst hk
      constructor <;> simp [tAt]
    | 1, hk =>
      simp at hk
      subst hk
      constructor <;> simp [tAt]
  rintro e w1 ⟨d, t, g, c, l, m, rfl, hD, hlow, hb1⟩
  have L1 : Hid (Lives w w1 d t g c l m v0 (.slice none 0 0) ([tAt, tAt].map prOf) r0 []) := ⟨hD, fun i hi => Nat.le_trans (by simp) (hlow i hi), ((Below.refl _ _).alloc (Nat.le_refl _) _).trans (hb1.mono (by simp))⟩
  clear hD hlow hb1
  go_wp2_with fail
  refine (dstart_ok (ps' := [tP 0, prOf tAt]) (R' := tR1) L1.out.D 0 0 rfl (fun W hW => follow_put hW 0 3 (by omega) (by omega) rfl rfl rfl (by kernel_rfl) (by decide) (by decide) rfl)).mono ?_
  intro e w2 hp
  obtain ⟨rfl, V2, v2, hl2, -, -⟩ := L1.out.step hp
  have L2 := Lib.hid hl2
  clear hp hl2
  go_wp2_with fail
  refine (dstart_ok (ps' := [tP 0, tP 0]) (R' := tR2) L2.out.D 1 0 rfl (fun W hW => follow_put hW 1 3 (by omega) (by omega) rfl rfl rfl (by kernel_rfl) (by decide) (by decide) rfl)).mono ?_
  intro e w3 hp
  obtain ⟨rfl, V3, v3, hl3, -, -⟩ := L2.out.step hp
  have L3 := Lib.hid hl3
  clear hp hl3
  go_wp2_with fail
  refine (pick_any L3.out.D (x := 0) (b := true) (by kernel_rfl) (by kernel_rfl)).mono ?_
  rintro e w4 ⟨rfl, hb4⟩
  have L4 := Lib.hid (L3.out.below hb4)
  clear hb4
  go_wp2_with fail
  refine (yield_any L4.out.D 0 3 3 (by omega) (by simp) (by omega) (by kernel_rfl) rfl (by kernel_rfl) (by decide)).mono ?_
  intro e w5 hp
  obtain ⟨rfl, V5, v5, hl5, -, -⟩ := L4.out.step (show DPost w4 d t g c l m V3 v3 [tP 0, tP 0] tR4 [] _ _ _ from hp)
  have L5 := Lib.hid hl5
  clear hp hl5
  go_wp2_with fail
  refine (pick_any L5.out.D (x := 1) (b := true) (by kernel_rfl) (by kernel_rfl)).mono ?_
  rintro e w6 ⟨rfl, hb6⟩
  have L6 := Lib.hid (L5.out.below hb6)
  clear hb6
  go_wp2_with fail
  refine (draise_ok (ps' := [tP 5, tP 0]) (R' := tR6) L6.out.D 0 5 rfl (fun W hW => move_up (R1 := tR5) hW 0 3 5 (by omega) (by omega) (by omega) (by kernel_rfl) rfl rfl (by kernel_rfl) (by decide))).mono ?_
  intro e w7 hp
  obtain ⟨rfl, V7, v7, hl7, -, -⟩ := L6.out.step hp
  have L7 := Lib.hid hl7
  clear hp hl7
  go_wp2_with fail
  refine (pick_any L7.out.D (x := 0) (b := true) (by kernel_rfl) (by kernel_rfl)).mono ?_
  rintro e w8 ⟨rfl, hb8⟩
  have L8 := Lib.hid (L7.out.below hb8)
  clear hb8
  go_wp2_with fail
  refine (draise_ok (ps' := [tP 0, tP 0]) (R' := tR8) L8.out.D 0 0 rfl (fun W hW => move_up (R1 := tR7) hW 0 5 3 (by omega) (by omega) (by omega) (by kernel_rfl) rfl rfl (by kernel_rfl) (by decide))).mono ?_
  intro e w9 hp
  obtain ⟨rfl, V9, v9, hl9, -, -⟩ := L8.out.step hp
  have L9 := Lib.hid hl9
  clear hp hl9
  go_wp2_with fail
  refine (ready_any L9.out.D tR8_len).mono ?_
  rintro e w10 ⟨u, rfl, ho, hf, hb10⟩
  have HO : Hid (Own w10 u [0, 1]) := by
    rw [show allR tR8 = [0, 1] by kernel_rfl] at ho
    exact ho
  have HB10 : Hid (Below w.heap.size w w10) := L9.out.bel.trans (hb10.mono L9.out.bel.size)
  clear ho hf hb10
  go_wp2_with fail
  have hri : RI (w10.alloc (.cells #[.int .i64 0, .int .i64 1] 3)) (.slice (some ⟨w10.heap.size, 0, none⟩) 2 2) [0, 1] := ⟨_, _, rfl, fun j z hz => ⟨w10.heap.size, 0, rfl, by simp, by
    match j, hz with
    | 0, hz => simp at hz; subst hz; simp
    | 1, hz => simp at hz; subst hz; simp⟩⟩
  refine (same20_any u (.slice (some ⟨w10.heap.size, 0, none⟩) 2 2) [0, 1] [0, 1] _ (HO.out.alloc _).ri hri (by simp)).mono ?_
  rintro e w11 ⟨rfl, hb11⟩
  have HB11 : Hid (Below w.heap.size w w11) := (HB10.out.alloc HB10.out.size _).trans (hb11.mono (by have := HB10.out.size; simp; omega))
  clear hb11 hri
  go_wp2
  go_ret
  exact ⟨rfl, HB11.out⟩

end Go.Proofs.YtgnjenmicojgnaaGreat
