/-
  The document's Same of two slices of ints; what move and Raise of a Dispatch do.
-/
import Derived.Test.YtgnjenmicojgnaaGreatK2w
import Derived.BigQuiet
namespace Go.Proofs.YtgnjenmicojgnaaGreat
set_option linter.unusedVariables false
set_option linter.unusedSimpArgs false
open Go.RowKit

theorem below_drewN {B : Nat} {w w' : World} (h : Below B w w') (n : Nat) : Below B w (w'.drewN n) := ⟨h.os, h.tape, h.output, h.size, h.block⟩

/-- The slice x reads as xs. -/
def RI (w : World) (x : Value) (xs : List Int) : Prop :=
  ∃ ax c, x = .slice ax xs.length c ∧ ∀ (j : Nat) (z : Int), xs[j]? = some z → ∃ b o, ax = some ⟨b, o, none⟩ ∧ b < w.heap.size ∧ w.cell? ⟨b, o + j, none⟩ = some (.int .i64 z)

theorem Own.ri {w : World} {v : Value} {xs : List Int} (h : Own w v xs) : RI w v xs := by
  rcases h.shape with ⟨h1, h2⟩ | ⟨g, c, cur, h1, h2, h3, h4, h5, h6⟩
  · subst h2
    exact ⟨none, 0, h1, fun j z hz => by simp at hz⟩
  · refine ⟨_, _, h1, fun j z hz => ⟨g, 0, rfl, (Array.getElem?_eq_some_iff.1 h2).1, ?_⟩⟩
    rw [Nat.zero_add, cell_of_row w g j cur 3 (0, 0) h2]
    exact h6 j z hz

set_option maxRecDepth 100000 in
set_option maxHeartbeats 1000000 in
theorem same20_any (x y : Value) (xs ys : List Int) (w : World) (hx : RI w x xs) (hy : RI w y ys) (hl : xs.length ≤ 1000000) :
    Calls Tryz.prog 22 #[x, y] w fun e w' => e = .returned (.bool (decide (xs = ys))) ∧ Below w.heap.size w w' := by
  obtain ⟨ax, cx, rfl, hcx⟩ := hx
  obtain ⟨ay, cy, rfl, hcy⟩ := hy
  have HX := Lib.hid hcx
  have HY := Lib.hid hcy
  obtain ⟨n, hn⟩ : ∃ n, xs.length = n := ⟨_, rfl⟩
  obtain ⟨m, hm⟩ : ∃ m, ys.length = m := ⟨_, rfl⟩
  rw [hn] at hl ⊢
  rw [hm]
  have HN := Lib.hid hn
  have HM := Lib.hid hm
  clear hcx hcy hn hm
  by_cases hne : n = m
  · subst hne
    go_enter Tryz.func22, Tryz.ntmps22
    go_wp2_with fail
    go_loopw [5] (fun s5 wr => ∃ j : Nat, j ≤ n ∧ s5 = .int .i64 j ∧ (∀ (i : Nat), i < j → xs[i]? = ys[i]?) ∧ Below w.heap.size w wr) (fun i _ => n - (intOf i).toNat)
    case atStart => exact ⟨0, by omega, rfl, fun _ hi => absurd hi (Nat.not_lt_zero _), Below.refl _ _⟩
    case round =>
      obtain ⟨j, hj, rfl, hal, hbr⟩ := hrel
      have HAL := Lib.hid hal
      have HB := Lib.hid hbr
      have hbs := hbr.size
      clear hal hbr
      by_cases hjn : j < n
      · obtain ⟨z, hz⟩ : ∃ z, xs[j]? = some z := ⟨_, List.getElem?_eq_getElem (by have := HN.out; omega)⟩
        obtain ⟨z', hz'⟩ : ∃ z, ys[j]? = some z := ⟨_, List.getElem?_eq_getElem (by have := HM.out; omega)⟩
        obtain ⟨b, o, rfl, hbl, hc⟩ := HX.out j z hz
        obtain ⟨b', o', rfl, hbl', hc'⟩ := HY.out j z' hz'
        have e0 := (HB.out.cell (p := ⟨b, o + j, none⟩) hbl).trans hc
        have e1 := (HB.out.cell (p := ⟨b', o' + j, none⟩) hbl').trans hc'
        have hblr : b < wr.heap.size := by omega
        have hblr' : b' < wr.heap.size := by omega
        have HZ := Lib.hid hz
        have HZ' := Lib.hid hz'
        clear hz hz' hc hc'
        by_cases hzz : z = z'
        · have hzb : (z != z') = false := by simp [hzz]
          go_wp2_with fail
          go_quiet (fail)
          go_wp2_with fail
          go_roundw
          case rel =>
            refine ⟨j + 1, by omega, by go_num, fun i hi => ?_, below_drewN HB.out _⟩
            by_cases e : i = j
            · subst e
              rw [HZ.out, HZ'.out, hzz]
            · exact HAL.out i (by omega)
          case measure => simp [intOf]; omega
        · have hzb : (z != z') = true := by simpa using hzz
          have hd : Hid (decide (xs = ys) = false) := by
            unfold Hid
            simp only [decide_eq_false_iff_not]
            rintro rfl
            have := HZ.out.symm.trans HZ'.out
            injection this with this
            exact hzz this
          go_wp2_with fail
          go_quiet (fail)
          go_wp2
          go_ret
          exact ⟨by rw [hd.out]; rfl, below_drewN HB.out _⟩
      · have hd : Hid (decide (xs = ys) = true) := by
          unfold Hid
          simp only [decide_eq_true_eq]
          apply List.ext_getElem?
          intro i
          by_cases hi : i < n
          · exact HAL.out i (by omega)
          · rw [List.getElem?_eq_none_iff.2 (by have := HN.out; omega), List.getElem?_eq_none_iff.2 (by have := HM.out; omega)]
        go_wp2_with fail
        go_ret
        exact ⟨by rw [hd.out]; rfl, HB.out⟩
  · have hnb : ((n : Int) != (m : Int)) = true := by simp; omega
    have hd : Hid (decide (xs = ys) = false) := by
      unfold Hid
      simp only [decide_eq_false_iff_not]
      rintro rfl
      exact hne (HN.out.symm.trans HM.out)
    go_enter Tryz.func22, Tryz.ntmps22
    go_wp2
    go_ret
    exact ⟨by rw [hd.out]; rfl, Below.refl _ _⟩

set_option maxRecDepth 100000 in
set_option maxHeartbeats 2000000 in
theorem move_up {w : World} {d t g c l m : Nat} {V : Nat → Value} {v : Value} {ps : List Pr} {R R1 : Nat → List Int} {Q : List (Int × Int)} (h : Dsp w d t g c l m V v ps R Q) (i : Int) (p q : Nat) (hi : 0 ≤ i) (hq : q < 64) (hpq : p ≠ q)
    (hpr : prio R i = some p) (hcur : curR (lookP ps i) = q) (hR1 : upd R p ((R p).erase i) = R1) (hno : prio R1 i = none) (hl : (R1 q).length ≤ 1000) :
    Calls Tryz.prog 78 #[.pointer (some ⟨d, 0, none⟩), .int .i64 i, .bool true] w (DPost w d t g c l m V v ps (upd R1 q (i :: R1 q)) Q (.tuple #[])) := by
  have c0 := h.c0
  have c1 := h.c1
  have hdl := h.dl
  have H := Lib.hid h
  have HPR := Lib.hid hpr
  have HCUR := Lib.hid hcur
  have HNO := Lib.hid hno
  have HL := Lib.hid hl
  have HR1 := Lib.hid hR1
  have hpqi : ¬ (p : Int) = (q : Int) := by omega
  have hpqb : ((p : Int) == (q : Int)) = false := by simp; omega
  clear h hpr hcur hno hl hR1
  go_enter Tryz.func78, Tryz.ntmps78
  go_wp2_with fail
  refine (prio_is (k := p) (b := true) H.out.L (by rw [HPR.out]; rfl) (by rw [HPR.out]; rfl)).mono ?_
  rintro e w1 ⟨rfl, rfl⟩
  go_wp2_with fail
  refine (cur_is i HCUR.out H.out.T).mono ?_
  rintro e w2 ⟨rfl, hb2⟩
  have H2 := Lib.hid (H.out.below hb2)
  have HB2 := Lib.hid hb2
  have d0 := H2.out.c0
  have d1 := H2.out.c1
  have hdl2 := H2.out.dl
  clear hb2 c0 c1
  go_wp2_with fail
  refine (drop_some l p V R i w2 H2.out.L HPR.out).mono ?_
  rw [HR1.out]
  rintro e w3 ⟨rfl, V3, hL3, hk3, hn3⟩
  have H3 := Lib.hid (H2.out.lst hL3 hk3 hn3)
  have HK3 : Hid (Kept w1 w3 (inL l V)) := (Kept.of_below HB2.out).trans hk3 (fun _ _ hi => hi)
  have HN3 := Lib.hid hn3
  have HS2 := Lib.hid HB2.out.size
  have e0 := H3.out.c0
  have e1 := H3.out.c1
  have hdl3 := H3.out.dl
  clear hL3 hk3 hn3 d0 d1
  have fin : Hid (∀ (R' : Nat → List Int) (e : Ending) (w4 : World), LPost w3 l V3 R' (.int .i64 0) e w4 → e = .returned (.int .i64 0) ∧ DPost w1 d t g c l m V v ps R' Q (.tuple #[]) (.returned (.tuple #[])) w4) := by
    rintro R' e w4 ⟨rfl, V4, hL4, hk4, hn4⟩
    have H4 := H3.out.lst hL4 hk4 hn4
    have hs3 := HK3.out.size
    have hs2 := HS2.out
    refine ⟨rfl, rfl, V4, v, H4, (HK3.out.trans hk4 (fun i hi h4 => ?_)).mono (fun i _ hi => .inr (.inr (.inr (.inl hi)))), ?_⟩
    · rcases HN3.out i h4 with h1 | h1
      · exact h1
      · omega
    · rintro j (rfl | rfl | rfl | hj | hj)
      · exact .inl (.inl rfl)
      · exact .inl (.inr (.inl rfl))
      · exact .inl (.inr (.inr (.inl rfl)))
      · rcases hn4 j hj with h1 | h1
        · exact (HN3.out j h1).imp (fun h => .inr (.inr (.inr (.inl h)))) (fun hle => by omega)
        · exact .inr (by omega)
      · exact .inl (.inr (.inr (.inr (.inr hj))))
  go_wp2_with fail
  refine (front_any l q V3 R1 i w3 H3.out.L hi hq HNO.out HL.out).mono ?_
  intro e w4 hp
  obtain ⟨rfl, hp2⟩ := fin.out _ e w4 hp
  have HP := Lib.hid hp2
  clear hp hp2
  go_wp2
  go_end0
  exact HP.out

set_option maxRecDepth 100000 in
set_option maxHeartbeats 2000000 in
theorem move_back {w : World} {d t g c l m : Nat} {V : Nat → Value} {v : Value} {ps : List Pr} {R R1 : Nat → List Int} {Q : List (Int × Int)} (h : Dsp w d t g c l m V v ps R Q) (i : Int) (p q : Nat) (hi : 0 ≤ i) (hq : q < 64) (hpq : p ≠ q)
    (hpr : prio R i = some p) (hcur : curR (lookP ps i) = q) (hR1 : upd R p ((R p).erase i) = R1) (hno : prio R1 i = none) (hl : (R1 q).length ≤ 1000) :
    Calls Tryz.prog 78 #[.pointer (some ⟨d, 0, none⟩), .int .i64 i, .bool false] w (DPost w d t g c l m V v ps (upd R1 q (R1 q ++ [i])) Q (.tuple #[])) := by
  have c0 := h.c0
  have c1 := h.c1
  have hdl := h.dl
  have H := Lib.hid h
  have HPR := Lib.hid hpr
  have HCUR := Lib.hid hcur
  have HNO := Lib.hid hno
  have HL := Lib.hid hl
  have HR1 := Lib.hid hR1
  have hpqi : ¬ (p : Int) = (q : Int) := by omega
  have hpqb : ((p : Int) == (q : Int)) = false := by simp; omega
  clear h hpr hcur hno hl hR1
  go_enter Tryz.func78, Tryz.ntmps78
  go_wp2_with fail
  refine (prio_is (k := p) (b := true) H.out.L (by rw [HPR.out]; rfl) (by rw [HPR.out]; rfl)).mono ?_
  rintro e w1 ⟨rfl, rfl⟩
  go_wp2_with fail
  refine (cur_is i HCUR.out H.out.T).mono ?_
  rintro e w2 ⟨rfl, hb2⟩
  have H2 := Lib.hid (H.out.below hb2)
  have HB2 := Lib.hid hb2
  have d0 := H2.out.c0
  have d1 := H2.out.c1
  have hdl2 := H2.out.dl
  clear hb2 c0 c1
  go_wp2_with fail
  refine (drop_some l p V R i w2 H2.out.L HPR.out).mono ?_
  rw [HR1.out]
  rintro e w3 ⟨rfl, V3, hL3, hk3, hn3⟩
  have H3 := Lib.hid (H2.out.lst hL3 hk3 hn3)
  have HK3 : Hid (Kept w1 w3 (inL l V)) := (Kept.of_below HB2.out).trans hk3 (fun _ _ hi => hi)
  have HN3 := Lib.hid hn3
  have HS2 := Lib.hid HB2.out.size
  have e0 := H3.out.c0
  have e1 := H3.out.c1
  have hdl3 := H3.out.dl
  clear hL3 hk3 hn3 d0 d1
  have fin : Hid (∀ (R' : Nat → List Int) (e : Ending) (w4 : World), LPost w3 l V3 R' (.int .i64 0) e w4 → e = .returned (.int .i64 0) ∧ DPost w1 d t g c l m V v ps R' Q (.tuple #[]) (.returned (.tuple #[])) w4) := by
    rintro R' e w4 ⟨rfl, V4, hL4, hk4, hn4⟩
    have H4 := H3.out.lst hL4 hk4 hn4
    have hs3 := HK3.out.size
    have hs2 := HS2.out
    refine ⟨rfl, rfl, V4, v, H4, (HK3.out.trans hk4 (fun i hi h4 => ?_)).mono (fun i _ hi => .inr (.inr (.inr (.inl hi)))), ?_⟩
    · rcases HN3.out i h4 with h1 | h1
      · exact h1
      · omega
    · rintro j (rfl | rfl | rfl | hj | hj)
      · exact .inl (.inl rfl)
      · exact .inl (.inr (.inl rfl))
      · exact .inl (.inr (.inr (.inl rfl)))
      · rcases hn4 j hj with h1 | h1
        · exact (HN3.out j h1).imp (fun h => .inr (.inr (.inr (.inl h)))) (fun hle => by omega)
        · exact .inr (by omega)
      · exact .inl (.inr (.inr (.inr (.inr hj))))
  go_wp2_with fail
  refine (put_any l q V3 R1 i w3 H3.out.L hi hq HNO.out HL.out).mono ?_
  intro e w4 hp
  obtain ⟨rfl, hp2⟩ := fin.out _ e w4 hp
  have HP := Lib.hid hp2
  clear hp hp2
  go_wp2
  go_end0
  exact HP.out

set_option maxRecDepth 100000 in
set_option maxHeartbeats 1000000 in
theorem draise_ok {w : World} {d t g c l m : Nat} {V : Nat → Value} {v : Value} {ps ps' : List Pr} {R R' : Nat → List Int} {Q : List (Int × Int)} (h : Dsp w d t g c l m V v ps R Q) (i n : Int) (hact : act (raisF n) (inB n 0 63) ps i = (ps', 0))
    (hf : ∀ W, Dsp W d t g c l m V v ps' R Q → Calls Tryz.prog 78 #[.pointer (some ⟨d, 0, none⟩), .int .i64 i, .bool true] W (DPost W d t g c l m V v ps' R' Q (.tuple #[]))) :
    Calls Tryz.prog 36 #[.pointer (some ⟨d, 0, none⟩), .int .i64 i, .int .i64 n] w (DPost w d t g c l m V v ps' R' Q (.int .i64 0)) := by
  have c0 := h.c0
  have hdl := h.dl
  have H := Lib.hid h
  have HF := Lib.hid hf
  have HACT := Lib.hid hact
  clear h hf hact
  go_enter Tryz.func36, Tryz.ntmps36
  go_wp2_with fail
  refine (rais_is i n HACT.out H.out.T H.out.ok).mono ?_
  rintro e w1 ⟨rfl, hT1, hA1⟩
  have hok : ∀ p, p ∈ ps' → p.Ok := by
    have := act_ok (keeps_rais n) H.out.ok i (may := inB n 0 63)
    rw [HACT.out] at this
    exact this
  have H1 := Lib.hid (H.out.tab hT1 hok hA1)
  have HK1 : Hid (Kept w w1 (inD d t g l m V v)) := hA1.kept.mono (fun i _ e => .inr (.inr (.inl e)))
  clear hT1 hA1 c0 hok
  go_wp2_with fail
  refine (HF.out w1 H1.out).mono ?_
  intro e w2 hp
  have HP := Lib.hid ((DPost.after HK1.out hp).to (r' := .int .i64 0))
  obtain ⟨rfl, -⟩ := hp
  go_wp2
  go_ret
  exact HP.out

end Go.Proofs.YtgnjenmicojgnaaGreat
