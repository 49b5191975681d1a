/-
  What Start, Pick, Ready, Yield of a Dispatch do.
-/
import Derived.Test.YtgnjenmicojgnaaGreatK0w
import Derived.Test.YtgnjenmicojgnaaGreatQb
namespace Go.Proofs.YtgnjenmicojgnaaGreat
set_option linter.unusedVariables false
set_option linter.unusedSimpArgs false
open Go.RowKit

section
variable {w w1 w' : World} {d t g c l m : Nat} {V : Nat → Value} {v : Value} {ps : List Pr} {R : Nat → List Int} {Q : List (Int × Int)}

theorem DPost.after {r : Value} {e : Ending} (hk : Kept w w1 (inD d t g l m V v)) (h : DPost w1 d t g c l m V v ps R Q r e w') : DPost w d t g c l m V v ps R Q r e w' := by
  obtain ⟨he, V', v', h1, h2, h3⟩ := h
  exact ⟨he, V', v', h1, hk.trans h2 (fun _ _ hi => hi), fun i hi => (h3 i hi).imp id (fun hle => Nat.le_trans hk.size hle)⟩

theorem DPost.to {r r' : Value} {e : Ending} (h : DPost w d t g c l m V v ps R Q r e w') : DPost w d t g c l m V v ps R Q r' (.returned r') w' := by
  obtain ⟨_, V', v', h1, h2, h3⟩ := h
  exact ⟨rfl, V', v', h1, h2, h3⟩
end

set_option maxRecDepth 100000 in
set_option maxHeartbeats 1000000 in
theorem done_ok {w : World} {d t g c l m : Nat} {V : Nat → Value} {v : Value} {ps : List Pr} {R : Nat → List Int} {Q : List (Int × Int)} (i : Int) (h : Calls Tryz.prog 67 #[.pointer (some ⟨d, 0, none⟩), .int .i64 i] w (DPost w d t g c l m V v ps R Q (.tuple #[]))) :
    Calls Tryz.prog 69 #[.pointer (some ⟨d, 0, none⟩), .int .i64 i, .int .i64 0] w (DPost w d t g c l m V v ps R Q (.int .i64 0)) := by
  have H := Lib.hid h
  clear h
  go_enter Tryz.func69, Tryz.ntmps69
  go_wp2_with fail
  refine H.out.mono ?_
  intro e w1 hp
  have HP := Lib.hid (hp.to (r' := .int .i64 0))
  obtain ⟨rfl, -⟩ := hp
  go_wp2
  go_ret
  exact HP.out

set_option maxRecDepth 100000 in
set_option maxHeartbeats 1000000 in
theorem dstart_ok {w : World} {d t g c l m : Nat} {V : Nat → Value} {v : Value} {ps ps' : List Pr} {R R' : Nat → List Int} {Q : List (Int × Int)} (h : Dsp w d t g c l m V v ps R Q) (i n : Int) (hact : act (startF n) (tickB n) ps i = (ps', 0))
    (hf : ∀ W, Dsp W d t g c l m V v ps' R Q → Calls Tryz.prog 67 #[.pointer (some ⟨d, 0, none⟩), .int .i64 i] W (DPost W d t g c l m V v ps' R' Q (.tuple #[]))) :
    Calls Tryz.prog 28 #[.pointer (some ⟨d, 0, none⟩), .int .i64 i, .int .i64 n] w (DPost w d t g c l m V v ps' R' Q (.int .i64 0)) := by
  have c0 := h.c0
  have hdl := h.dl
  have H := Lib.hid h
  have HF := Lib.hid hf
  have HACT := Lib.hid hact
  clear h hf hact
  go_enter Tryz.func28, Tryz.ntmps28
  go_wp2_with fail
  refine (start_is i n HACT.out H.out.T H.out.ok).mono ?_
  rintro e w1 ⟨rfl, hT1, hA1⟩
  have hok : ∀ p, p ∈ ps' → p.Ok := by
    have := act_ok (keeps_start n) H.out.ok i (may := tickB n)
    rw [HACT.out] at this
    exact this
  have H1 := Lib.hid (H.out.tab hT1 hok hA1)
  have HK1 : Hid (Kept w w1 (inD d t g l m V v)) := hA1.kept.mono (fun i _ e => .inr (.inr (.inl e)))
  clear hT1 hA1 c0 hok
  go_wp2_with fail
  refine (done_ok i (HF.out w1 H1.out)).mono ?_
  intro e w2 hp
  have HP := Lib.hid (DPost.after HK1.out hp)
  obtain ⟨rfl, -⟩ := hp
  go_wp2
  go_ret
  exact HP.out

set_option maxRecDepth 100000 in
set_option maxHeartbeats 1000000 in
theorem pick_any {w : World} {d t g c l m : Nat} {V : Nat → Value} {v : Value} {ps : List Pr} {R : Nat → List Int} {Q : List (Int × Int)} (h : Dsp w d t g c l m V v ps R Q) {x : Int} {b : Bool} (hx : first R = x) (hb : some1 R = b) :
    Calls Tryz.prog 12 #[.pointer (some ⟨d, 0, none⟩)] w fun e w' => e = .returned (.tuple #[.int .i64 x, .bool b]) ∧ Below w.heap.size w w' := by
  subst hx hb
  have c1 := h.c1
  have hdl := h.dl
  have H := Lib.hid h
  clear h
  go_enter Tryz.func12, Tryz.ntmps12
  go_wp2_with fail
  refine (peek_any l V R w H.out.L).mono ?_
  rintro e w1 ⟨rfl, hb1⟩
  have HB1 := Lib.hid hb1
  clear hb1
  go_wp2
  go_ret2
  exact ⟨rfl, HB1.out⟩

set_option maxRecDepth 100000 in
set_option maxHeartbeats 1000000 in
theorem ready_any {w : World} {d t g c l m : Nat} {V : Nat → Value} {v : Value} {ps : List Pr} {R : Nat → List Int} {Q : List (Int × Int)} (h : Dsp w d t g c l m V v ps R Q) (hl : ∀ p, (R p).length ≤ 1000) :
    Calls Tryz.prog 16 #[.pointer (some ⟨d, 0, none⟩)] w (AllPost w (allR R)) := by
  have c1 := h.c1
  have hdl := h.dl
  have H := Lib.hid h
  have HL := Lib.hid hl
  clear h hl
  go_enter Tryz.func16, Tryz.ntmps16
  go_wp2_with fail
  refine (all_any l V R w H.out.L HL.out).mono ?_
  intro e w1 hp
  have HP := Lib.hid hp
  obtain ⟨u, rfl, -⟩ := hp
  go_wp2
  go_ret
  exact HP.out

theorem tlen_is {t g c n : Nat} {ps : List Pr} {w : World} (hT : Tab w t g c ps) (hn : ps.length = n) :
    Calls Tryz.prog 14 #[.pointer (some ⟨t, 0, none⟩)] w fun e w' => e = .returned (.int .i64 n) ∧ w = w' := by
  obtain ⟨A, cc, hs, _⟩ := slc_row hT
  have := hT.cell
  rw [hs, hn] at this
  exact len_any t A n cc w this

set_option maxRecDepth 100000 in
set_option maxHeartbeats 4000000 in
theorem yield_any {w : World} {d t g c l m : Nat} {V : Nat → Value} {v : Value} {ps : List Pr} {R : Nat → List Int} {Q : List (Int × Int)} (h : Dsp w d t g c l m V v ps R Q) (i : Int) (p q : Nat) (hi0 : 0 ≤ i) (hi1 : i < ps.length) (hq : q < 64)
    (hpr : prio R i = some p) (hcur : curR (lookP ps i) = q) (hno : prio (upd R p ((R p).erase i)) i = none) (hl : (upd R p ((R p).erase i) q).length ≤ 1000) :
    Calls Tryz.prog 37 #[.pointer (some ⟨d, 0, none⟩), .int .i64 i] w (DPost w d t g c l m V v ps (upd (upd R p ((R p).erase i)) q (upd R p ((R p).erase i) q ++ [i])) Q (.int .i64 0)) := by
  have c0 := h.c0
  have c1 := h.c1
  have hdl := h.dl
  have H := Lib.hid h
  have HPR := Lib.hid hpr
  have HCUR := Lib.hid hcur
  have HNO := Lib.hid hno
  have HL := Lib.hid hl
  obtain ⟨R1, hR1⟩ : ∃ R1, upd R p ((R p).erase i) = R1 := ⟨_, rfl⟩
  rw [hR1] at HNO HL ⊢
  have HR1 := Lib.hid hR1
  obtain ⟨n, hn⟩ : ∃ n, ps.length = n := ⟨_, rfl⟩
  rw [hn] at hi1
  have HN := Lib.hid hn
  clear h hpr hcur hno hl hR1 hn
  go_enter Tryz.func37, Tryz.ntmps37
  go_wp2_with fail
  refine (tlen_is H.out.T HN.out).mono ?_
  rintro e w1 ⟨rfl, rfl⟩
  go_wp2_with fail
  refine (drop_some l p V R i w H.out.L HPR.out).mono ?_
  rw [HR1.out]
  rintro e w2 ⟨rfl, V2, hL2, hk2, hn2⟩
  have H2 := Lib.hid (H.out.lst hL2 hk2 hn2)
  have HK2 := Lib.hid hk2
  have HN2 := Lib.hid hn2
  have d0 := H2.out.c0
  have d1 := H2.out.c1
  have hdl2 := H2.out.dl
  clear hL2 hk2 hn2 c0 c1
  go_wp2_with fail
  have HP := fun (W : World) (hb : Below w2.heap.size w2 W) => put_any l q V2 R1 i W (H2.out.below hb).L hi0 hq HNO.out HL.out
  have HCU := fun (W : World) (hb : Below w2.heap.size w2 W) => cur_is i HCUR.out (H2.out.below hb).T
  have HP' := Lib.hid HP
  have HCU' := Lib.hid HCU
  clear HP HCU
  go_region_held (fun w' => w'.cell? ⟨d, 0, none⟩ = some (.pointer (some ⟨t, 0, none⟩)) ∧ w'.cell? ⟨d, 1, none⟩ = some (.pointer (some ⟨l, 0, none⟩))) (first | go_keep | (exact ⟨by assumption, by assumption⟩))
    (first
      | (go_at_call 15; refine (HCU'.out _ (Below.refl _ _).drew).mono ?_; rintro e w3 ⟨rfl, hb3⟩; have e0 := (H2.out.below ((Below.refl _ _).drew.trans (hb3.mono (Nat.le_refl _)))).c0; have e1 := (H2.out.below ((Below.refl _ _).drew.trans (hb3.mono (Nat.le_refl _)))).c1)
      | (go_at_call 79; refine (HP'.out w3 ((Below.refl _ _).drew.trans (hb3.mono (Nat.le_refl _)))).mono ?_; rintro e w4 ⟨rfl, V', hL4, hk4, hn4⟩; have f0 := ((H2.out.below ((Below.refl _ _).drew.trans (hb3.mono (Nat.le_refl _)))).lst hL4 hk4 hn4).c0; have f1 := ((H2.out.below ((Below.refl _ _).drew.trans (hb3.mono (Nat.le_refl _)))).lst hL4 hk4 hn4).c1))
  have HB3 : Hid (Below w2.heap.size w2 w3) := (Below.refl _ _).drew.trans (hb3.mono (Nat.le_refl _))
  have H3 := Lib.hid (H2.out.below HB3.out)
  have H4 := Lib.hid (H3.out.lst hL4 hk4 hn4)
  have HPP : Hid (DPost w d t g c l m V v ps (upd R1 q (R1 q ++ [i])) Q (.int .i64 0) (.returned (.int .i64 0)) w4) := by
    have hs2 := HK2.out.size
    have hs3 := HB3.out.size
    refine ⟨rfl, V', v, H4.out, ((HK2.out.trans (Kept.of_below HB3.out) (fun _ _ hi => hi)).trans hk4 (fun i hi h4 => ?_)).mono (fun i _ hi => .inr (.inr (.inr (.inl hi)))), ?_⟩
    · rcases HN2.out i h4 with h1 | h1
      · exact h1
      · omega
    · rintro j (rfl | rfl | rfl | hj | hj)
      · exact .inl (.inl rfl)
      · exact .inl (.inr (.inl rfl))
      · exact .inl (.inr (.inr (.inl rfl)))
      · rcases hn4 j hj with h1 | h1
        · exact (HN2.out j h1).imp (fun h => .inr (.inr (.inr (.inl h)))) id
        · exact .inr (by omega)
      · exact .inl (.inr (.inr (.inr (.inr hj))))
  clear hL4 hk4 hn4 hb3 HP' HCU'
  go_wp2
  go_ret
  exact HPP.out

end Go.Proofs.YtgnjenmicojgnaaGreat
