/-
  What move, SetPriority, Raise, Yield, Charge and Table of a Dispatch do.
-/
import Derived.Test.YtgnjenmicojgnaaGreatP2w
namespace Go.Proofs.YtgnjenmicojgnaaGreat
set_option linter.unusedVariables false
set_option linter.unusedSimpArgs false
open Go.RowKit

def mvR (b : Bool) (i : Int) (q : Nat) (R : Nat → List Int) : Nat → List Int :=
  match prio R i with
  | none => R
  | some p => if p = q then R else upd (rmR R i) q (if b = true then i :: rmR R i q else rmR R i q ++ [i])
theorem mvR_none {b : Bool} {i : Int} {q : Nat} {R : Nat → List Int} (h : prio R i = none) : mvR b i q R = R := by unfold mvR; rw [h]
theorem mvR_same {b : Bool} {i : Int} {q : Nat} {R : Nat → List Int} (h : prio R i = some q) : mvR b i q R = R := by unfold mvR; rw [h]; exact if_pos rfl
theorem mvR_to {b : Bool} {i : Int} {p q : Nat} {R : Nat → List Int} (h : prio R i = some p) (hn : p ≠ q) : mvR b i q R = upd (rmR R i) q (if b = true then i :: rmR R i q else rmR R i q ++ [i]) := by unfold mvR; rw [h]; exact if_neg hn
theorem rmR_some {i : Int} {p : Nat} {R : Nat → List Int} (h : prio R i = some p) : rmR R i = upd R p ((R p).erase i) := by unfold rmR; rw [h]
theorem rmR_none {i : Int} {R : Nat → List Int} (h : prio R i = none) : rmR R i = R := by unfold rmR; rw [h]

set_option maxRecDepth 100000 in
set_option maxHeartbeats 2000000 in
theorem dmove_any (b : Bool) {w : World} {d t g c l m : Nat} {V : Nat → Value} {v : Value} {ps : List Pr} {R : Nat → List Int} {Q : List (Int × Int)} (h : Dsp w d t g c l m V v ps R Q) (i : Int) (q : Nat) (hi : 0 ≤ i) (hcu : curR (lookP ps i) = q)
    (hl : ∀ p, (R p).length ≤ 1000) (hone : prio (rmR R i) i = none) :
    Calls Tryz.prog 78 #[.pointer (some ⟨d, 0, none⟩), .int .i64 i, .bool b] w (DPost w d t g c l m V v ps (mvR b i q R) Q (.tuple #[])) := by
  have hq : q < 64 := by have := (cur_ok h.ok i).2; omega
  cases hp : prio R i with
  | none =>
    rw [mvR_none hp]
    have c0 := h.c0
    have c1 := h.c1
    have hdl := h.dl
    have H := Lib.hid h
    have HP0 := Lib.hid hp
    have HCU := Lib.hid hcu
    clear h hp hcu hl hone
    go_enter Tryz.func78, Tryz.ntmps78
    go_wp2_with fail
    refine (prio_is (k := 0) (b := false) H.out.L (by rw [HP0.out]; rfl) (by rw [HP0.out]; rfl)).mono ?_
    rintro e w1 ⟨rfl, rfl⟩
    go_wp2_with fail
    refine (cur_is i HCU.out H.out.T).mono ?_
    rintro e w2 ⟨rfl, hb2⟩
    have HP := Lib.hid (show DPost w1 d t g c l m V v ps R Q (.tuple #[]) (.returned (.tuple #[])) w2 from ⟨rfl, V, v, H.out.below hb2, Kept.of_below hb2, fun i hi => .inl hi⟩)
    clear hb2
    go_wp2
    go_end0
    exact HP.out
  | some p =>
    by_cases hpq : p = q
    · subst hpq
      rw [mvR_same hp]
      have c0 := h.c0
      have c1 := h.c1
      have hdl := h.dl
      have H := Lib.hid h
      have HP0 := Lib.hid hp
      have HCU := Lib.hid hcu
      clear h hp hcu hl hone
      go_enter Tryz.func78, Tryz.ntmps78
      go_wp2_with fail
      refine (prio_is (k := p) (b := true) H.out.L (by rw [HP0.out]; rfl) (by rw [HP0.out]; rfl)).mono ?_
      rintro e w1 ⟨rfl, rfl⟩
      go_wp2_with fail
      refine (cur_is i HCU.out H.out.T).mono ?_
      rintro e w2 ⟨rfl, hb2⟩
      have HP := Lib.hid (show DPost w1 d t g c l m V v ps R Q (.tuple #[]) (.returned (.tuple #[])) w2 from ⟨rfl, V, v, H.out.below hb2, Kept.of_below hb2, fun i hi => .inl hi⟩)
      clear hb2
      go_wp2
      go_end0
      exact HP.out
    · rw [mvR_to hp hpq]
      have hR1 := rmR_some hp
      cases b with
      | true => exact move_up h i p q hi hq hpq hp hcu hR1.symm hone (rmR_len hl q)
      | false => exact move_back h i p q hi hq hpq hp hcu hR1.symm hone (rmR_len hl q)

def DMove (w : World) (d t g c l m : Nat) (V : Nat → Value) (v : Value) (R : Nat → List Int) (Q : List (Int × Int)) (i : Int) (b : Bool) (o : List Pr × Int) : Ending → World → Prop :=
  DPost w d t g c l m V v o.1 (if o.2 = 0 then mvR b i (curR (lookP o.1 i)).toNat R else R) Q (.int .i64 o.2)

set_option maxRecDepth 100000 in
set_option maxHeartbeats 1000000 in
theorem dsetp_any {w : World} {d t g c l m : Nat} {V : Nat → Value} {v : Value} {ps : List Pr} {R : Nat → List Int} {Q : List (Int × Int)} (h : Dsp w d t g c l m V v ps R Q) (i n : Int)
    (hl : ∀ p, (R p).length ≤ 1000) (hone : prio (rmR R i) i = none) :
    Calls Tryz.prog 35 #[.pointer (some ⟨d, 0, none⟩), .int .i64 i, .int .i64 n] w (DMove w d t g c l m V v R Q i false (act (setpF n) (inB n 1 63) ps i)) := by
  obtain ⟨⟨ps', x⟩, hact⟩ : ∃ o, act (setpF n) (inB n 1 63) ps i = o := ⟨_, rfl⟩
  rw [hact]
  have hok : ∀ p, p ∈ ps' → p.Ok := by
    have := act_ok (keeps_setp n) h.ok i (may := inB n 1 63)
    rw [hact] at this
    exact this
  have c0 := h.c0
  have hdl := h.dl
  have H := Lib.hid h
  have HC := Lib.hid (setp_is i n hact h.T h.ok)
  have HOK := Lib.hid hok
  have HL := Lib.hid hl
  have HONE := Lib.hid hone
  by_cases hx : x = 0
  · subst hx
    have hi := (act_pos hact).1
    have HE : Hid (∀ e w', DPost w d t g c l m V v ps' (mvR false i (curR (lookP ps' i)).toNat R) Q (.int .i64 0) e w' → DMove w d t g c l m V v R Q i false (ps', 0) e w') := fun e w' h => by
      unfold DMove
      rw [if_pos rfl]
      exact h
    clear h hok hl hact hone
    go_enter Tryz.func35, Tryz.ntmps35
    go_wp2_with fail
    refine Calls.mono HC.out ?_
    rintro e w1 ⟨rfl, hT1, hA1⟩
    have H1 := Lib.hid (H.out.tab hT1 HOK.out hA1)
    have HK1 : Hid (Kept w w1 (inD d t g l m V v)) := hA1.kept.mono (fun i _ e => .inr (.inr (.inl e)))
    clear hT1 hA1 c0
    go_wp2_with fail
    refine (dmove_any false H1.out i (curR (lookP ps' i)).toNat hi (by have := (cur_ok HOK.out i).1; omega) HL.out HONE.out).mono ?_
    intro e w2 hp
    have HP := Lib.hid (HE.out _ _ ((DPost.after HK1.out hp).to (r' := .int .i64 0)))
    obtain ⟨rfl, -⟩ := hp
    go_wp2
    go_ret
    exact HP.out
  · have hxb : (x == 0) = false := by simpa using hx
    have HE : Hid (∀ e w', DPost w d t g c l m V v ps' R Q (.int .i64 x) e w' → DMove w d t g c l m V v R Q i false (ps', x) e w') := fun e w' h => by
      unfold DMove
      rw [if_neg hx]
      exact h
    clear h hok hl hact hone
    go_enter Tryz.func35, Tryz.ntmps35
    go_wp2_with fail
    refine Calls.mono HC.out ?_
    rintro e w1 ⟨rfl, hT1, hA1⟩
    have HP := Lib.hid (HE.out _ _ ⟨rfl, V, v, H.out.tab hT1 HOK.out hA1, hA1.kept.mono (fun i _ e => .inr (.inr (.inl e))), fun i hi => .inl hi⟩)
    clear hT1 hA1 c0
    go_wp2
    go_ret
    exact HP.out

set_option maxRecDepth 100000 in
set_option maxHeartbeats 1000000 in
theorem drais_any {w : World} {d t g c l m : Nat} {V : Nat → Value} {v : Value} {ps : List Pr} {R : Nat → List Int} {Q : List (Int × Int)} (h : Dsp w d t g c l m V v ps R Q) (i n : Int)
    (hl : ∀ p, (R p).length ≤ 1000) (hone : prio (rmR R i) i = none) :
    Calls Tryz.prog 36 #[.pointer (some ⟨d, 0, none⟩), .int .i64 i, .int .i64 n] w (DMove w d t g c l m V v R Q i true (act (raisF n) (inB n 0 63) ps i)) := by
  obtain ⟨⟨ps', x⟩, hact⟩ : ∃ o, act (raisF n) (inB n 0 63) ps i = o := ⟨_, rfl⟩
  rw [hact]
  have hok : ∀ p, p ∈ ps' → p.Ok := by
    have := act_ok (keeps_rais n) h.ok i (may := inB n 0 63)
    rw [hact] at this
    exact this
  have c0 := h.c0
  have hdl := h.dl
  have H := Lib.hid h
  have HC := Lib.hid (rais_is i n hact h.T h.ok)
  have HOK := Lib.hid hok
  have HL := Lib.hid hl
  have HONE := Lib.hid hone
  by_cases hx : x = 0
  · subst hx
    have hi := (act_pos hact).1
    have HE : Hid (∀ e w', DPost w d t g c l m V v ps' (mvR true i (curR (lookP ps' i)).toNat R) Q (.int .i64 0) e w' → DMove w d t g c l m V v R Q i true (ps', 0) e w') := fun e w' h => by
      unfold DMove
      rw [if_pos rfl]
      exact h
    clear h hok hl hact hone
    go_enter Tryz.func36, Tryz.ntmps36
    go_wp2_with fail
    refine Calls.mono HC.out ?_
    rintro e w1 ⟨rfl, hT1, hA1⟩
    have H1 := Lib.hid (H.out.tab hT1 HOK.out hA1)
    have HK1 : Hid (Kept w w1 (inD d t g l m V v)) := hA1.kept.mono (fun i _ e => .inr (.inr (.inl e)))
    clear hT1 hA1 c0
    go_wp2_with fail
    refine (dmove_any true H1.out i (curR (lookP ps' i)).toNat hi (by have := (cur_ok HOK.out i).1; omega) HL.out HONE.out).mono ?_
    intro e w2 hp
    have HP := Lib.hid (HE.out _ _ ((DPost.after HK1.out hp).to (r' := .int .i64 0)))
    obtain ⟨rfl, -⟩ := hp
    go_wp2
    go_ret
    exact HP.out
  · have hxb : (x == 0) = false := by simpa using hx
    have HE : Hid (∀ e w', DPost w d t g c l m V v ps' R Q (.int .i64 x) e w' → DMove w d t g c l m V v R Q i true (ps', x) e w') := fun e w' h => by
      unfold DMove
      rw [if_neg hx]
      exact h
    clear h hok hl hact hone
    go_enter Tryz.func36, Tryz.ntmps36
    go_wp2_with fail
    refine Calls.mono HC.out ?_
    rintro e w1 ⟨rfl, hT1, hA1⟩
    have HP := Lib.hid (HE.out _ _ ⟨rfl, V, v, H.out.tab hT1 HOK.out hA1, hA1.kept.mono (fun i _ e => .inr (.inr (.inl e))), fun i hi => .inl hi⟩)
    clear hT1 hA1 c0
    go_wp2
    go_ret
    exact HP.out

def yCode (n : Nat) (R : Nat → List Int) (i : Int) : Int := if i < 0 ∨ (n : Int) ≤ i then 9 else if (prio R i).isSome = true then 0 else 10
def yR (n : Nat) (q : Nat) (i : Int) (R : Nat → List Int) : Nat → List Int := if yCode n R i = 0 then upd (rmR R i) q (rmR R i q ++ [i]) else R

set_option maxRecDepth 100000 in
set_option maxHeartbeats 1000000 in
theorem dyield_any {w : World} {d t g c l m : Nat} {V : Nat → Value} {v : Value} {ps : List Pr} {R : Nat → List Int} {Q : List (Int × Int)} (h : Dsp w d t g c l m V v ps R Q) (i : Int) (q : Nat) (hcu : curR (lookP ps i) = q)
    (hl : ∀ p, (R p).length ≤ 1000) (hone : prio (rmR R i) i = none) :
    Calls Tryz.prog 37 #[.pointer (some ⟨d, 0, none⟩), .int .i64 i] w (DPost w d t g c l m V v ps (yR ps.length q i R) Q (.int .i64 (yCode ps.length R i))) := by
  have hq : q < 64 := by have := (cur_ok h.ok i).2; omega
  obtain ⟨n, hn⟩ : ∃ n, ps.length = n := ⟨_, rfl⟩
  rw [hn]
  by_cases h9 : i < 0 ∨ (n : Int) ≤ i
  · have hy : yCode n R i = 9 := if_pos h9
    have HYR : Hid (yR n q i R = R) := by unfold Hid yR; rw [hy]; exact if_neg (by decide)
    rw [hy, HYR.out]
    have HP := Lib.hid (DPost.id (r := .int .i64 9) h)
    have c0 := h.c0
    have HT := Lib.hid h.T
    have HN := Lib.hid hn
    have hn16 : n ≤ 16 := by have := h.T.len; omega
    by_cases h0 : i < 0
    · clear h hn hcu hl hone hy HYR h9
      go_enter Tryz.func37, Tryz.ntmps37
      go_wp2_with fail
      go_ret
      exact HP.out
    · have hge : (n : Int) ≤ i := by omega
      clear h hn hcu hl hone hy HYR h9
      go_enter Tryz.func37, Tryz.ntmps37
      go_wp2_with fail
      refine (tlen_is HT.out HN.out).mono ?_
      rintro e w1 ⟨rfl, rfl⟩
      go_wp2_with fail
      go_ret
      exact HP.out
  · cases hp : prio R i with
    | some p =>
      have hy : yCode n R i = 0 := by unfold yCode; rw [if_neg h9, hp]; rfl
      have hyr : yR n q i R = upd (rmR R i) q (rmR R i q ++ [i]) := by unfold yR; rw [hy]; exact if_pos rfl
      rw [hy, hyr]
      rw [rmR_some hp] at hone ⊢
      exact yield_any h i p q (by omega) (by omega) hq hp hcu hone (by have := rmR_len hl q (i := i); rwa [rmR_some hp] at this)
    | none =>
      have hy : yCode n R i = 10 := by unfold yCode; rw [if_neg h9, hp]; rfl
      have HYR : Hid (yR n q i R = R) := by unfold Hid yR; rw [hy]; exact if_neg (by decide)
      rw [hy, HYR.out]
      have HP := Lib.hid (DPost.id (r := .int .i64 10) h)
      have c0 := h.c0
      have c1 := h.c1
      have H := Lib.hid h
      have HN := Lib.hid hn
      have hn16 : n ≤ 16 := by have := h.T.len; omega
      have hi0 : 0 ≤ i := by omega
      have hi1 : i < n := by omega
      have HPR := Lib.hid hp
      clear h hn hcu hl hone hy HYR h9 hp
      go_enter Tryz.func37, Tryz.ntmps37
      go_wp2_with fail
      refine (tlen_is H.out.T HN.out).mono ?_
      rintro e w1 ⟨rfl, rfl⟩
      go_wp2_with fail
      refine (drop_none l V R i w H.out.L HPR.out).mono ?_
      rintro e w1 ⟨rfl, rfl⟩
      go_wp2_with fail
      go_ret
      exact HP.out

set_option maxRecDepth 100000 in
set_option maxHeartbeats 1000000 in
theorem dcharge_any {w : World} {d t g c l m : Nat} {V : Nat → Value} {v : Value} {ps : List Pr} {R : Nat → List Int} {Q : List (Int × Int)} (h : Dsp w d t g c l m V v ps R Q) (i n : Int) :
    Calls Tryz.prog 38 #[.pointer (some ⟨d, 0, none⟩), .int .i64 i, .int .i64 n] w (DPost w d t g c l m V v (act (chargeF n) (tickB n) ps i).1 R Q (.int .i64 (chargeR ps i n))) := by
  obtain ⟨⟨ps', x⟩, hact⟩ : ∃ o, act (chargeF n) (tickB n) ps i = o := ⟨_, rfl⟩
  obtain ⟨y, hy⟩ : ∃ y, chargeR ps i n = y := ⟨_, rfl⟩
  have hok : ∀ p, p ∈ ps' → p.Ok := by
    have := act_ok (keeps_charge n) h.ok i (may := tickB n)
    rw [hact] at this
    exact this
  rw [hact, hy]
  have c0 := h.c0
  have hdl := h.dl
  have H := Lib.hid h
  have HC := Lib.hid (charge_is i n hact hy h.T h.ok)
  have HOK := Lib.hid hok
  clear h hok hact hy
  go_enter Tryz.func38, Tryz.ntmps38
  go_wp2_with fail
  refine Calls.mono HC.out ?_
  rintro e w1 ⟨rfl, hT1, hA1⟩
  have HP : Hid (DPost w d t g c l m V v ps' R Q (.int .i64 y) (.returned (.int .i64 y)) w1) := ⟨rfl, V, v, H.out.tab hT1 HOK.out hA1, hA1.kept.mono (fun i _ e => .inr (.inr (.inl e))), fun i hi => .inl hi⟩
  clear hT1 hA1 c0
  go_wp2
  go_ret
  exact HP.out

set_option maxRecDepth 100000 in
set_option maxHeartbeats 1000000 in
theorem dtable_any {w : World} {d t g c l m : Nat} {V : Nat → Value} {v : Value} {ps : List Pr} {R : Nat → List Int} {Q : List (Int × Int)} (h : Dsp w d t g c l m V v ps R Q) :
    Calls Tryz.prog 11 #[.pointer (some ⟨d, 0, none⟩)] w (ClonePost w ps) := by
  have c0 := h.c0
  have hdl := h.dl
  have HC := Lib.hid (clone_any t g c ps w h.T)
  clear h
  go_enter Tryz.func11, Tryz.ntmps11
  go_wp2_with fail
  refine Calls.mono HC.out ?_
  intro e w1 hp
  have HP := Lib.hid hp
  obtain ⟨t', g', c', rfl, -⟩ := hp
  go_wp2
  go_ret
  exact HP.out

end Go.Proofs.YtgnjenmicojgnaaGreat
