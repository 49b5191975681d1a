/-
  What follow of a Dispatch does, whatever has become of a process.
-/
import Derived.Test.YtgnjenmicojgnaaGreatP0w
import Derived.Test.YtgnjenmicojgnaaGreatN0w
import Derived.Deep.RegionHeld
namespace Go.Proofs.YtgnjenmicojgnaaGreat
set_option linter.unusedVariables false
set_option linter.unusedSimpArgs false
open Go.RowKit

def rmR (R : Nat → List Int) (i : Int) : Nat → List Int := match prio R i with | none => R | some p => upd R p ((R p).erase i)
def newR (p : Pr) (i : Int) (R : Nat → List Int) : Nat → List Int :=
  if stateR p = 1 then (match prio R i with | none => upd R (curR p).toNat (R (curR p).toNat ++ [i]) | some _ => R) else rmR R i
def newQ (p : Pr) (i : Int) (Q : List (Int × Int)) : List (Int × Int) :=
  if untilB p = true then (if tickOf Q i = some (untilR p) then Q else insQ (rmQ Q i) (i, untilR p)) else rmQ Q i

theorem rdrop_any (l : Nat) (V : Nat → Value) (R : Nat → List Int) (id : Int) (w : World) (h : Rdy w l V R) {b : Bool} (hb : (prio R id).isSome = b) :
    Calls Tryz.prog 77 #[.pointer (some ⟨l, 0, none⟩), .int .i64 id] w (LPost w l V (rmR R id) (.bool b)) := by
  unfold rmR
  cases hp : prio R id with
  | none =>
    rw [hp] at hb
    subst hb
    refine (drop_none l V R id w h hp).mono ?_
    rintro e w1 ⟨rfl, rfl⟩
    exact ⟨rfl, V, h, Kept.refl _ _, fun i hi => .inl hi⟩
  | some p =>
    rw [hp] at hb
    subst hb
    exact drop_some l p V R id w h hp

theorem follow_end {w w6 w7 : World} {d t g c l m : Nat} {V V' : Nat → Value} {v v' : Value} {ps : List Pr} {R' : Nat → List Int} {Q Q' : List (Int × Int)} (hk : Kept w w6 (inL l V)) (hn : ∀ i, inL l V' i → inL l V i ∨ w.heap.size ≤ i) (h : Dsp w6 d t g c l m V' v ps R' Q)
    (hM : Tms w7 m v' Q') (hk7 : Kept w6 w7 (inT m v)) (hn7 : ∀ i, inT m v' i → inT m v i ∨ w6.heap.size ≤ i) : DPost w d t g c l m V v ps R' Q' (.tuple #[]) (.returned (.tuple #[])) w7 := by
  refine ⟨rfl, V', v', h.tms hM hk7 hn7, (hk.mono (S' := inD d t g l m V v) (fun i _ hi => .inr (.inr (.inr (.inl hi))))).trans hk7 (fun i _ hi => .inr (.inr (.inr (.inr hi)))), ?_⟩
  rintro j (rfl | rfl | rfl | hj | hj)
  · exact .inl (.inl rfl)
  · exact .inl (.inr (.inl rfl))
  · exact .inl (.inr (.inr (.inl rfl)))
  · exact (hn j hj).imp (fun h => .inr (.inr (.inr (.inl h)))) (fun h => h)
  · exact (hn7 j hj).imp (fun h => .inr (.inr (.inr (.inr h)))) (fun h => Nat.le_trans hk.size h)

set_option maxRecDepth 100000 in
set_option maxHeartbeats 8000000 in
theorem follow_any {w : World} {d t g c l m : Nat} {V : Nat → Value} {v : Value} {ps : List Pr} {R : Nat → List Int} {Q : List (Int × Int)} (h : Dsp w d t g c l m V v ps R Q) (i : Int) (hi : 0 ≤ i) (hc : 0 ≤ curR (lookP ps i) ∧ curR (lookP ps i) ≤ 63)
    (hl : ∀ p, (R p).length ≤ 1000) (hQ : Q.length ≤ 900) (hnd : (Q.map Prod.fst).Nodup) :
    Calls Tryz.prog 67 #[.pointer (some ⟨d, 0, none⟩), .int .i64 i] w (DPost w d t g c l m V v ps (newR (lookP ps i) i R) (newQ (lookP ps i) i Q) (.tuple #[])) := by
  have c0 := h.c0
  have c1 := h.c1
  have c2 := h.c2
  have hdl := h.dl
  obtain ⟨st, hst⟩ : ∃ st, stateR (lookP ps i) = st := ⟨_, rfl⟩
  obtain ⟨tu, hun⟩ : ∃ tu, untilR (lookP ps i) = tu := ⟨_, rfl⟩
  obtain ⟨ub, hub⟩ : ∃ ub, untilB (lookP ps i) = ub := ⟨_, rfl⟩
  obtain ⟨cu, hcu⟩ : ∃ cu : Nat, curR (lookP ps i) = cu := ⟨(curR (lookP ps i)).toNat, by omega⟩
  obtain ⟨o, ho⟩ : ∃ o, tickOf Q i = o := ⟨_, rfl⟩
  obtain ⟨pr, hpr⟩ : ∃ pr, prio R i = pr := ⟨_, rfl⟩
  obtain ⟨k, hk⟩ : ∃ k, pr.getD 0 = k := ⟨_, rfl⟩
  obtain ⟨b, hb⟩ : ∃ b, pr.isSome = b := ⟨_, rfl⟩
  have hcu64 : cu < 64 := by omega
  obtain ⟨R', hR'⟩ : ∃ R', newR (lookP ps i) i R = R' := ⟨_, rfl⟩
  obtain ⟨Q', hQ'⟩ : ∃ Q', newQ (lookP ps i) i Q = Q' := ⟨_, rfl⟩
  rw [hR', hQ']
  unfold newR at hR'
  unfold newQ at hQ'
  rw [hst, hpr, hcu] at hR'
  rw [hub, hun, ho] at hQ'
  have H := Lib.hid h
  have HST := Lib.hid hst
  have HUN := Lib.hid hun
  have HUB := Lib.hid hub
  have HCUR := Lib.hid hcu
  have HTO := Lib.hid ho
  have HPR := Lib.hid hpr
  have HPK : Hid ((prio R i).getD 0 = k) := by unfold Hid; rw [hpr]; exact hk
  have HPB : Hid ((prio R i).isSome = b) := by unfold Hid; rw [hpr]; exact hb
  have HB := Lib.hid hb
  have HL := Lib.hid hl
  have HND := Lib.hid hnd
  have HR := Lib.hid hR'
  have HQ := Lib.hid hQ'
  clear h hst hun hub hcu ho hpr hb hl hnd hR' hQ' hk hc
  go_enter Tryz.func67, Tryz.ntmps67
  go_wp2_with fail
  refine (prio_is (k := k) (b := b) H.out.L HPK.out HPB.out).mono ?_
  rintro e w1 ⟨rfl, rfl⟩
  go_wp2_with fail
  refine (state_is i HST.out H.out.T).mono ?_
  rintro e w2 ⟨rfl, hb2⟩
  have H2 := Lib.hid (H.out.below hb2)
  have HB2 := Lib.hid hb2
  have d0 := H2.out.c0
  have d1 := H2.out.c1
  have hdl2 := H2.out.dl
  clear hb2 c0 c1 c2
  by_cases hst1 : st = 1
  · have hst2 : (st != 1) = false := by simp [hst1]
    subst hst1
    cases b with
    | true =>
      have hr' : R = R' := by
        have h1 := HR.out
        have h2 := HB.out
        cases pr with
        | none => cases h2
        | some q => simpa using h1
      have H3 : Hid (Dsp w2 d t g c l m V v ps R' Q) := by rw [← hr']; exact H2.out
      have HK4 : Hid (Kept w1 w2 (inL l V)) := Kept.of_below HB2.out
      have HN4 : Hid (∀ i, inL l V i → inL l V i ∨ w1.heap.size ≤ i) := fun i hi => .inl hi
      have g0 := H3.out.c0
      have g2 := H3.out.c2
      have hdl4 := H3.out.dl
      clear d0 d1
      go_wp2_with fail
      refine (until_is i HUN.out HUB.out H3.out.T).mono ?_
      rintro e w5 ⟨rfl, hb5⟩
      have H5 := Lib.hid (H3.out.below hb5)
      have HB5 := Lib.hid hb5
      have k2 := H5.out.c2
      have hdl5 := H5.out.dl
      clear hb5 g0 g2
      go_wp2_with fail
      refine (atick_any m v Q i w5 H5.out.M hQ HND.out HTO.out).mono ?_
      unfold atR
      rintro e w6 ⟨rfl, hb6⟩
      have H6 := Lib.hid (H5.out.below hb6)
      have HB6 := Lib.hid hb6
      have HK6 : Hid (Kept w1 w6 (inL l V)) := (HK4.out.trans (Kept.of_below HB5.out) (fun _ _ hi => hi)).trans (Kept.of_below HB6.out) (fun _ _ hi => hi)
      have l2 := H6.out.c2
      have hdl6 := H6.out.dl
      clear hb6 k2
      cases ub with
      | false =>
        have hq' : rmQ Q i = Q' := by have := HQ.out; simpa using this
        go_wp2_with fail
        refine (tdrop_any m v Q i w6 H6.out.M hQ HND.out).mono ?_
        rintro e w7 ⟨rfl, v7, hM7, hk7, hn7⟩
        rw [hq'] at hM7
        have HPP := Lib.hid (follow_end HK6.out HN4.out H6.out hM7 hk7 hn7)
        clear hM7 hk7 hn7
        go_wp2
        go_end0
        exact HPP.out
      | true =>
        have hset : Calls Tryz.prog 112 #[.pointer (some ⟨m, 0, none⟩), .int .i64 i, .int .i64 tu] w6 (TPost w6 m v (insQ (rmQ Q i) (i, tu)) (.tuple #[])) := tset_any m v Q i tu w6 H6.out.M hQ HND.out
        have HSET := Lib.hid hset
        clear hset
        cases o with
        | none =>
          have hq' : insQ (rmQ Q i) (i, tu) = Q' := by have := HQ.out; simpa using this
          go_wp2_with fail
          refine HSET.out.mono ?_
          rintro e w7 ⟨rfl, v7, hM7, hk7, hn7⟩
          rw [hq'] at hM7
          have HPP := Lib.hid (follow_end HK6.out HN4.out H6.out hM7 hk7 hn7)
          clear hM7 hk7 hn7
          go_wp2
          go_end0
          exact HPP.out
        | some a =>
          by_cases hat : a = tu
          · have hab : (a != tu) = false := by simp [hat]
            have hq' : Q = Q' := by have := HQ.out; rw [hat] at this; simpa using this
            have HPP := Lib.hid (follow_end HK6.out HN4.out H6.out (v' := v) (Q' := Q') (by rw [← hq']; exact H6.out.M) (Kept.refl _ _) (fun i hi => .inl hi))
            subst hat
            go_wp2_with fail
            go_end0
            exact HPP.out
          · have hab : (a != tu) = true := by simpa using hat
            have hq' : insQ (rmQ Q i) (i, tu) = Q' := by have := HQ.out; rw [if_pos rfl, if_neg (by simpa using hat)] at this; exact this
            go_wp2_with fail
            refine HSET.out.mono ?_
            rintro e w7 ⟨rfl, v7, hM7, hk7, hn7⟩
            rw [hq'] at hM7
            have HPP := Lib.hid (follow_end HK6.out HN4.out H6.out hM7 hk7 hn7)
            clear hM7 hk7 hn7
            go_wp2
            go_end0
            exact HPP.out
    | false =>
      have hno : prio R i = none := by
        have h1 := HPR.out
        have h2 := HB.out
        cases pr with
        | none => exact h1
        | some q => cases h2
      have hr' : upd R cu (R cu ++ [i]) = R' := by
        have h1 := HR.out
        have h2 := HPR.out
        rw [hno] at h2
        rw [← h2] at h1
        simpa using h1
      have HNO := Lib.hid hno
      have HR1 := Lib.hid hr'
      have HP' : Hid (∀ (W : World), Below w2.heap.size w2 W → Calls Tryz.prog 79 #[.pointer (some ⟨l, 0, none⟩), .int .i64 i, .int .i64 cu] W (LPost W l V R' (.int .i64 0))) := fun W hb => by
        have := put_any l cu V R i W (H2.out.below hb).L hi hcu64 HNO.out (HL.out cu)
        rw [HR1.out] at this
        exact this
      have HCU' : Hid (∀ (W : World), Below w2.heap.size w2 W → Calls Tryz.prog 15 #[.pointer (some ⟨t, 0, none⟩), .int .i64 i] W fun e w' => e = .returned (.int .i64 cu) ∧ Below W.heap.size W w') := fun W hb => cur_is i HCUR.out (H2.out.below hb).T
      clear hno hr'
      go_wp2_with fail
      go_region_held (fun w' => w'.cell? ⟨d, 0, none⟩ = some (.pointer (some ⟨t, 0, none⟩)) ∧ w'.cell? ⟨d, 1, none⟩ = some (.pointer (some ⟨l, 0, none⟩))) (first | go_keep | (exact ⟨by assumption, by assumption⟩))
        (first
          | (go_at_call 15; refine (HCU'.out _ (Below.refl _ _).drew).mono ?_; rintro e w3 ⟨rfl, hb3⟩; have e0 := (H2.out.below ((Below.refl _ _).drew.trans (hb3.mono (Nat.le_refl _)))).c0; have e1 := (H2.out.below ((Below.refl _ _).drew.trans (hb3.mono (Nat.le_refl _)))).c1)
          | (go_at_call 79; refine (HP'.out w3 ((Below.refl _ _).drew.trans (hb3.mono (Nat.le_refl _)))).mono ?_; rintro e w4 ⟨rfl, V', hL4, hk4, hn4⟩; have f0 := ((H2.out.below ((Below.refl _ _).drew.trans (hb3.mono (Nat.le_refl _)))).lst hL4 hk4 hn4).c0; have f1 := ((H2.out.below ((Below.refl _ _).drew.trans (hb3.mono (Nat.le_refl _)))).lst hL4 hk4 hn4).c1))
      have HB3 : Hid (Below w2.heap.size w2 w3) := (Below.refl _ _).drew.trans (hb3.mono (Nat.le_refl _))
      have H3 := Lib.hid (H2.out.below HB3.out)
      have H4 := Lib.hid (H3.out.lst hL4 hk4 hn4)
      have HS4 : Hid (w1.heap.size ≤ w3.heap.size) := by unfold Hid; have := HB2.out.size; have := HB3.out.size; omega
      have HKK4 := Lib.hid hk4
      have HNN4 := Lib.hid hn4
      have HK4 : Hid (Kept w1 w4 (inL l V)) := ((Kept.of_below HB2.out).trans (Kept.of_below HB3.out) (fun _ _ hi => hi)).trans HKK4.out (fun _ _ hi => hi)
      have HN4 : Hid (∀ i, inL l V' i → inL l V i ∨ w1.heap.size ≤ i) := fun i hi => (HNN4.out i hi).imp (fun h => h) (fun h => Nat.le_trans HS4.out h)
      have g0 := H4.out.c0
      have g2 := H4.out.c2
      have hdl4 := H4.out.dl
      clear hL4 hk4 hn4 hb3 HP' HCU'
      go_wp2_with fail
      refine (until_is i HUN.out HUB.out H4.out.T).mono ?_
      rintro e w5 ⟨rfl, hb5⟩
      have H5 := Lib.hid (H4.out.below hb5)
      have HB5 := Lib.hid hb5
      have k2 := H5.out.c2
      have hdl5 := H5.out.dl
      clear hb5 g0 g2
      go_wp2_with fail
      refine (atick_any m v Q i w5 H5.out.M hQ HND.out HTO.out).mono ?_
      unfold atR
      rintro e w6 ⟨rfl, hb6⟩
      have H6 := Lib.hid (H5.out.below hb6)
      have HB6 := Lib.hid hb6
      have HK6 : Hid (Kept w1 w6 (inL l V)) := (HK4.out.trans (Kept.of_below HB5.out) (fun _ _ hi => hi)).trans (Kept.of_below HB6.out) (fun _ _ hi => hi)
      have l2 := H6.out.c2
      have hdl6 := H6.out.dl
      clear hb6 k2
      cases ub with
      | false =>
        have hq' : rmQ Q i = Q' := by have := HQ.out; simpa using this
        go_wp2_with fail
        refine (tdrop_any m v Q i w6 H6.out.M hQ HND.out).mono ?_
        rintro e w7 ⟨rfl, v7, hM7, hk7, hn7⟩
        rw [hq'] at hM7
        have HPP := Lib.hid (follow_end HK6.out HN4.out H6.out hM7 hk7 hn7)
        clear hM7 hk7 hn7
        go_wp2
        go_end0
        exact HPP.out
      | true =>
        have hset : Calls Tryz.prog 112 #[.pointer (some ⟨m, 0, none⟩), .int .i64 i, .int .i64 tu] w6 (TPost w6 m v (insQ (rmQ Q i) (i, tu)) (.tuple #[])) := tset_any m v Q i tu w6 H6.out.M hQ HND.out
        have HSET := Lib.hid hset
        clear hset
        cases o with
        | none =>
          have hq' : insQ (rmQ Q i) (i, tu) = Q' := by have := HQ.out; simpa using this
          go_wp2_with fail
          refine HSET.out.mono ?_
          rintro e w7 ⟨rfl, v7, hM7, hk7, hn7⟩
          rw [hq'] at hM7
          have HPP := Lib.hid (follow_end HK6.out HN4.out H6.out hM7 hk7 hn7)
          clear hM7 hk7 hn7
          go_wp2
          go_end0
          exact HPP.out
        | some a =>
          by_cases hat : a = tu
          · have hab : (a != tu) = false := by simp [hat]
            have hq' : Q = Q' := by have := HQ.out; rw [hat] at this; simpa using this
            have HPP := Lib.hid (follow_end HK6.out HN4.out H6.out (v' := v) (Q' := Q') (by rw [← hq']; exact H6.out.M) (Kept.refl _ _) (fun i hi => .inl hi))
            subst hat
            go_wp2_with fail
            go_end0
            exact HPP.out
          · have hab : (a != tu) = true := by simpa using hat
            have hq' : insQ (rmQ Q i) (i, tu) = Q' := by have := HQ.out; rw [if_pos rfl, if_neg (by simpa using hat)] at this; exact this
            go_wp2_with fail
            refine HSET.out.mono ?_
            rintro e w7 ⟨rfl, v7, hM7, hk7, hn7⟩
            rw [hq'] at hM7
            have HPP := Lib.hid (follow_end HK6.out HN4.out H6.out hM7 hk7 hn7)
            clear hM7 hk7 hn7
            go_wp2
            go_end0
            exact HPP.out
  · have hst2 : (st != 1) = true := by simpa using hst1
    have hr' : rmR R i = R' := by
      have h1 := HR.out
      rw [if_neg hst1] at h1
      exact h1
    have HR1 := Lib.hid hr'
    clear hr'
    go_wp2_with fail
    refine (rdrop_any l V R i w2 H2.out.L HPB.out).mono ?_
    rw [HR1.out]
    rintro e w4 ⟨rfl, V', hL4, hk4, hn4⟩
    have H4 := Lib.hid (H2.out.lst hL4 hk4 hn4)
    have HKK4 := Lib.hid hk4
    have HNN4 := Lib.hid hn4
    have HK4 : Hid (Kept w1 w4 (inL l V)) := (Kept.of_below HB2.out).trans HKK4.out (fun _ _ hi => hi)
    have HN4 : Hid (∀ i, inL l V' i → inL l V i ∨ w1.heap.size ≤ i) := fun i hi => (HNN4.out i hi).imp (fun h => h) (fun h => Nat.le_trans HB2.out.size h)
    have g0 := H4.out.c0
    have g2 := H4.out.c2
    have hdl4 := H4.out.dl
    clear hL4 hk4 hn4 d0 d1
    go_wp2_with fail
    refine (until_is i HUN.out HUB.out H4.out.T).mono ?_
    rintro e w5 ⟨rfl, hb5⟩
    have H5 := Lib.hid (H4.out.below hb5)
    have HB5 := Lib.hid hb5
    have k2 := H5.out.c2
    have hdl5 := H5.out.dl
    clear hb5 g0 g2
    go_wp2_with fail
    refine (atick_any m v Q i w5 H5.out.M hQ HND.out HTO.out).mono ?_
    unfold atR
    rintro e w6 ⟨rfl, hb6⟩
    have H6 := Lib.hid (H5.out.below hb6)
    have HB6 := Lib.hid hb6
    have HK6 : Hid (Kept w1 w6 (inL l V)) := (HK4.out.trans (Kept.of_below HB5.out) (fun _ _ hi => hi)).trans (Kept.of_below HB6.out) (fun _ _ hi => hi)
    have l2 := H6.out.c2
    have hdl6 := H6.out.dl
    clear hb6 k2
    cases ub with
    | false =>
      have hq' : rmQ Q i = Q' := by have := HQ.out; simpa using this
      go_wp2_with fail
      refine (tdrop_any m v Q i w6 H6.out.M hQ HND.out).mono ?_
      rintro e w7 ⟨rfl, v7, hM7, hk7, hn7⟩
      rw [hq'] at hM7
      have HPP := Lib.hid (follow_end HK6.out HN4.out H6.out hM7 hk7 hn7)
      clear hM7 hk7 hn7
      go_wp2
      go_end0
      exact HPP.out
    | true =>
      have hset : Calls Tryz.prog 112 #[.pointer (some ⟨m, 0, none⟩), .int .i64 i, .int .i64 tu] w6 (TPost w6 m v (insQ (rmQ Q i) (i, tu)) (.tuple #[])) := tset_any m v Q i tu w6 H6.out.M hQ HND.out
      have HSET := Lib.hid hset
      clear hset
      cases o with
      | none =>
        have hq' : insQ (rmQ Q i) (i, tu) = Q' := by have := HQ.out; simpa using this
        go_wp2_with fail
        refine HSET.out.mono ?_
        rintro e w7 ⟨rfl, v7, hM7, hk7, hn7⟩
        rw [hq'] at hM7
        have HPP := Lib.hid (follow_end HK6.out HN4.out H6.out hM7 hk7 hn7)
        clear hM7 hk7 hn7
        go_wp2
        go_end0
        exact HPP.out
      | some a =>
        by_cases hat : a = tu
        · have hab : (a != tu) = false := by simp [hat]
          have hq' : Q = Q' := by have := HQ.out; rw [hat] at this; simpa using this
          have HPP := Lib.hid (follow_end HK6.out HN4.out H6.out (v' := v) (Q' := Q') (by rw [← hq']; exact H6.out.M) (Kept.refl _ _) (fun i hi => .inl hi))
          subst hat
          go_wp2_with fail
          go_end0
          exact HPP.out
        · have hab : (a != tu) = true := by simpa using hat
          have hq' : insQ (rmQ Q i) (i, tu) = Q' := by have := HQ.out; rw [if_pos rfl, if_neg (by simpa using hat)] at this; exact this
          go_wp2_with fail
          refine HSET.out.mono ?_
          rintro e w7 ⟨rfl, v7, hM7, hk7, hn7⟩
          rw [hq'] at hM7
          have HPP := Lib.hid (follow_end HK6.out HN4.out H6.out hM7 hk7 hn7)
          clear hM7 hk7 hn7
          go_wp2
          go_end0
          exact HPP.out

end Go.Proofs.YtgnjenmicojgnaaGreat
