/-
  What Do answers, whatever the kind; what seen answers.
-/
import Derived.Test.YtgnjenmicojgnaaGreatT6w
import Derived.Test.YtgnjenmicojgnaaGreatT7w
import Derived.Test.YtgnjenmicojgnaaGreatT8w
import Derived.Test.YtgnjenmicojgnaaGreatT9w
import Derived.Test.YtgnjenmicojgnaaGreatTaw
import Derived.Test.YtgnjenmicojgnaaGreatQb
namespace Go.Proofs.YtgnjenmicojgnaaGreat
set_option linter.unusedVariables false
set_option linter.unusedSimpArgs false
open Go.RowKit

theorem do_any {w : World} {A : Ad} {U : Vs} {ps : List Pr} {R : Nat → List Int} {D : List (Int × Int)} {now : Int} (h : Duo w A U ps R (srt D) ps (rowE R) D now) (hri : RInv ps R D) (kd i n by' : Int) (h0 : 0 ≤ now) (h1 : now ≤ 900) :
    Calls Tryz.prog 10 #[.pointer (some ⟨A.x, 0, none⟩), .pointer (some ⟨A.d, 0, none⟩), .agg #[.int .i64 kd, .int .i64 i, .int .i64 n, .int .i64 by']] w (DoPost w A U ps.length now) := by
  obtain ⟨k, hk, hk0, hk1⟩ := mod_u kd 12 (by omega) (by omega)
  obtain ⟨m, rfl⟩ := Int.eq_ofNat_of_zero_le hk0
  have hm : m < 12 := by omega
  match m, hm with
  | 0, _ => exact do0_any h hri kd i n by' h0 h1 hk
  | 1, _ => exact do1_any h hri kd i n by' h0 h1 hk
  | 2, _ => exact do2_any h hri kd i n by' h0 h1 hk
  | 3, _ => exact do3_any h hri kd i n by' h0 h1 hk
  | 4, _ => exact do4_any h hri kd i n by' h0 h1 hk
  | 5, _ => exact do5_any h hri kd i n by' h0 h1 hk
  | 6, _ => exact do6_any h hri kd i n by' h0 h1 hk
  | 7, _ => exact do7_any h hri kd i n by' h0 h1 hk
  | 8, _ => exact do8_any h hri kd i n by' h0 h1 hk
  | 9, _ => exact do9_any h hri kd i n by' h0 h1 hk
  | 10, _ => exact do10_any h hri kd i n by' h0 h1 hk
  | 11, _ => exact do11_any h hri kd i n by' h0 h1 hk
  | m + 12, hm => exact absurd hm (by omega)

theorem same_self' (ps : List Pr) : sameL ps ps = true := sameL_true ⟨rfl, fun i p q hp hq => by
  rw [hp] at hq
  injection hq with hq
  subst hq
  simp [sameB]⟩

set_option maxRecDepth 100000 in
set_option maxHeartbeats 8000000 in
theorem seen_duo {w : World} {A : Ad} {U : Vs} {ps : List Pr} {R : Nat → List Int} {D : List (Int × Int)} {now : Int} (h : Duo w A U ps R (srt D) ps (rowE R) D now) (hri : RInv ps R D) :
    Calls Tryz.prog 17 #[.pointer (some ⟨A.d, 0, none⟩), .pointer (some ⟨A.x, 0, none⟩)] w fun e w' => e = .returned (.bool true) ∧ Below w.heap.size w w' := by
  obtain ⟨ea, ec, hE⟩ := h.wld.E.sl
  obtain ⟨en, hen⟩ : ∃ en, (rowE R).length = en := ⟨_, rfl⟩
  rw [hen] at hE
  have hen16 : en ≤ 16 := by rw [← hen]; exact hri.elen
  have hall : (rowE R).map Prod.fst = allR R := rowE_ids R
  have hRL := hri.rlen2
  have hidl : (allR R).length ≤ 1000000 := by rw [← hall, List.length_map]; omega
  have HC : Hid (∀ W, Below w.heap.size w W → W.cell? ⟨A.x, 0, none⟩ = some (.pointer (some ⟨A.t2, 0, none⟩)) ∧ W.cell? ⟨A.x, 1, none⟩ = some (.slice ea en ec) ∧ A.x < W.heap.size) := fun W hb => ⟨(h.below hb).wld.c0, by rw [← hE]; exact (h.below hb).wld.c1, (h.below hb).wld.xl⟩
  have HRD : Hid (∀ W, Below w.heap.size w W → Calls Tryz.prog 16 #[.pointer (some ⟨A.d, 0, none⟩)] W (AllPost W (allR R))) := fun W hb => ready_any (h.below hb).dsp hRL
  have HID : Hid (∀ W, Below w.heap.size w W → Calls Tryz.prog 23 #[.slice ea en ec] W (AllPost W (allR R))) := fun W hb => by
    have := ids_any (.slice ea en ec) (rowE R) W (by rw [← hE]; exact (h.below hb).wld.E) (by omega)
    rw [hall] at this
    exact this
  have HSM : Hid (∀ (W : World) (a b : Value), Own W a (allR R) → Own W b (allR R) → Calls Tryz.prog 22 #[a, b] W fun e w' => e = .returned (.bool true) ∧ Below W.heap.size W w') := fun W a b ha hb => by
    have := same20_any a b (allR R) (allR R) W ha.ri hb.ri hidl
    simpa using this
  have HTS : Hid (∀ (W : World) (t' g' c' : Nat), Below w.heap.size w W → Tab W t' g' c' ps → Calls Tryz.prog 21 #[.pointer (some ⟨t', 0, none⟩), .pointer (some ⟨A.t2, 0, none⟩)] W fun e w' => e = .returned (.bool true) ∧ Below W.heap.size W w') := fun W t' g' c' hb hT => by
    have := same_any t' g' c' A.t2 A.g2 A.c2 ps ps W hT (h.below hb).wld.T
    rw [same_self'] at this
    exact this
  have HE0 : Hid (∀ W, Below w.heap.size w W → OwnP 88 W (.slice ea en ec) (rowE R)) := fun W hb => by rw [← hE]; exact (h.below hb).wld.E
  have HD := Lib.hid h
  obtain ⟨x, hx⟩ : ∃ x, first R = x := ⟨_, rfl⟩
  obtain ⟨b, hb⟩ : ∃ b, some1 R = b := ⟨_, rfl⟩
  have HPK := Lib.hid (pick_any h.dsp hx hb)
  unfold first at hx
  unfold some1 at hb
  rw [← hall] at hx hb
  have hcase : (rowE R = [] ∧ en = 0 ∧ b = false ∧ x = 0) ∨ ∃ p0 r, rowE R = (x, p0) :: r ∧ 0 < en ∧ b = true := by
    cases hr : rowE R with
    | nil =>
      rw [hr] at hx hb hen
      exact .inl ⟨rfl, by simpa using hen.symm, by simpa using hb.symm, by simpa using hx.symm⟩
    | cons p r =>
      rw [hr] at hx hb hen
      obtain ⟨pi, pp⟩ := p
      have hx : pi = x := by simpa using hx
      subst hx
      exact .inr ⟨pp, r, rfl, by simp at hen; omega, by simpa using hb.symm⟩
  clear h hri hE hen hall hRL hidl hx hb
  rcases hcase with ⟨hr, h1, h2, h3⟩ | ⟨p0, r, hr, hpos, h2⟩
  · subst h1 h2 h3
    clear hr
    go_enter Tryz.func17, Tryz.ntmps17
    go_wp2_with fail
    refine HPK.out.mono ?_
    rintro e w1 ⟨rfl, hb1⟩
    have HB1 := Lib.hid hb1
    clear hb1
    go_wp2_with fail
    refine (dtable_any (HD.out.below HB1.out).dsp).mono ?_
    rintro e w2 ⟨t', g', c', rfl, hT2, -, -, hb2⟩
    have HB2 : Hid (Below w.heap.size w w2) := HB1.out.trans (hb2.mono HB1.out.size)
    have HT2 := Lib.hid hT2
    obtain ⟨c0, c1, hxl⟩ := HC.out w2 HB2.out
    clear hT2 hb2
    go_wp2_with fail
    go_region_with (first
      | (go_at_call 21; refine (HTS.out _ t' g' c' (HB2.out.trans ((Below.refl w2.heap.size w2).drew.mono HB2.out.size)) (HT2.out.below (Below.refl _ _).drew)).mono ?_; rintro e w3 ⟨rfl, hb3⟩; have HB3 : Hid (Below w.heap.size w w3) := HB2.out.trans (((Below.refl w2.heap.size w2).drew.trans (hb3.mono (Nat.le_refl _))).mono HB2.out.size); obtain ⟨d0, d1, hxl3⟩ := HC.out w3 HB3.out; clear hb3)
      | (go_at_call 16; refine (HRD.out _ (by first | exact HB3.out | exact HBi.out)).mono ?_; rintro e wr ⟨ur, rfl, hor, -, hbr⟩; have HBR := Lib.hid hbr; have HBr : Hid (Below w.heap.size w wr) := (by first | exact HB3.out.trans (hbr.mono HB3.out.size) | exact HBi.out.trans (hbr.mono HBi.out.size)); have HOR := Lib.hid hor; obtain ⟨r0, r1, hxlr⟩ := HC.out wr HBr.out; clear hor hbr)
      | (go_at_call 23; refine (HID.out _ (by first | exact HB3.out | exact HBr.out)).mono ?_; rintro e wi ⟨ui, rfl, hoi, -, hbi⟩; have HBI := Lib.hid hbi; have HBi : Hid (Below w.heap.size w wi) := (by first | exact HB3.out.trans (hbi.mono HB3.out.size) | exact HBr.out.trans (hbi.mono HBr.out.size)); have HOI := Lib.hid hoi; obtain ⟨i0, i1, hxli⟩ := HC.out wi HBi.out; clear hoi hbi)
      | (go_at_call 22; refine (HSM.out _ ur ui (by first | exact HOR.out | exact HOR.out.keep (fun b hb => HBI.out.block b (HOR.out.lt b hb))) (by first | exact HOI.out | exact HOI.out.keep (fun b hb => HBR.out.block b (HOI.out.lt b hb)))).mono ?_; rintro e w6 ⟨rfl, hb6⟩; have HB6 : Hid (Below w.heap.size w w6) := (by first | exact HBi.out.trans (hb6.mono HBi.out.size) | exact HBr.out.trans (hb6.mono HBr.out.size)); obtain ⟨k0, k1, hxl6⟩ := HC.out w6 HB6.out; clear hb6))
    all_goals
      go_wp2
      go_ret
      exact ⟨rfl, HB6.out⟩
  · subst h2
    have hposb : decide (0 < en) = true := by simpa using hpos
    obtain ⟨eb, hea, hget⟩ : ∃ eb, ea = some ⟨eb, 0, none⟩ ∧ ∀ W, Below w.heap.size w W → W.cell? ⟨eb, 0, none⟩ = some (.int .i64 x) ∧ eb < W.heap.size := by
      have hq : (rowE R)[0]? = some (x, p0) := by rw [hr]; rfl
      obtain ⟨g0, c0, hv, hgl, k0, -⟩ := (HE0.out w (Below.refl _ _)).at hq
      injection hv with e1 e2 e3
      refine ⟨g0, e1, fun W hb => ?_⟩
      obtain ⟨g1, c1, hv1, hgl1, k1, -⟩ := (HE0.out W hb).at hq
      injection hv1 with f1 f2 f3
      rw [e1] at f1
      injection f1 with f1
      injection f1 with f1
      subst f1
      exact ⟨by simpa using k1, hgl1⟩
    subst hea
    have HGET := Lib.hid hget
    clear hr hget
    go_enter Tryz.func17, Tryz.ntmps17
    go_wp2_with fail
    refine HPK.out.mono ?_
    rintro e w1 ⟨rfl, hb1⟩
    have HB1 := Lib.hid hb1
    clear hb1
    go_wp2_with fail
    refine (dtable_any (HD.out.below HB1.out).dsp).mono ?_
    rintro e w2 ⟨t', g', c', rfl, hT2, -, -, hb2⟩
    have HB2 : Hid (Below w.heap.size w w2) := HB1.out.trans (hb2.mono HB1.out.size)
    have HT2 := Lib.hid hT2
    obtain ⟨c0, c1, hxl⟩ := HC.out w2 HB2.out
    clear hT2 hb2
    go_wp2_with fail
    go_region_with (first
      | (go_at_call 21; refine (HTS.out _ t' g' c' (HB2.out.trans ((Below.refl w2.heap.size w2).drew.mono HB2.out.size)) (HT2.out.below (Below.refl _ _).drew)).mono ?_; rintro e w3 ⟨rfl, hb3⟩; have HB3 : Hid (Below w.heap.size w w3) := HB2.out.trans (((Below.refl w2.heap.size w2).drew.trans (hb3.mono (Nat.le_refl _))).mono HB2.out.size); obtain ⟨d0, d1, hxl3⟩ := HC.out w3 HB3.out; clear hb3)
      | (go_at_call 16; refine (HRD.out _ (by first | exact HB3.out | exact HBi.out)).mono ?_; rintro e wr ⟨ur, rfl, hor, -, hbr⟩; have HBR := Lib.hid hbr; have HBr : Hid (Below w.heap.size w wr) := (by first | exact HB3.out.trans (hbr.mono HB3.out.size) | exact HBi.out.trans (hbr.mono HBi.out.size)); have HOR := Lib.hid hor; obtain ⟨r0, r1, hxlr⟩ := HC.out wr HBr.out; clear hor hbr)
      | (go_at_call 23; refine (HID.out _ (by first | exact HB3.out | exact HBr.out)).mono ?_; rintro e wi ⟨ui, rfl, hoi, -, hbi⟩; have HBI := Lib.hid hbi; have HBi : Hid (Below w.heap.size w wi) := (by first | exact HB3.out.trans (hbi.mono HB3.out.size) | exact HBr.out.trans (hbi.mono HBr.out.size)); have HOI := Lib.hid hoi; obtain ⟨i0, i1, hxli⟩ := HC.out wi HBi.out; clear hoi hbi)
      | (go_at_call 22; refine (HSM.out _ ur ui (by first | exact HOR.out | exact HOR.out.keep (fun b hb => HBI.out.block b (HOR.out.lt b hb))) (by first | exact HOI.out | exact HOI.out.keep (fun b hb => HBR.out.block b (HOI.out.lt b hb)))).mono ?_; rintro e w6 ⟨rfl, hb6⟩; have HB6 : Hid (Below w.heap.size w w6) := (by first | exact HBi.out.trans (hb6.mono HBi.out.size) | exact HBr.out.trans (hb6.mono HBr.out.size)); obtain ⟨k0, k1, hxl6⟩ := HC.out w6 HB6.out; clear hb6))
    all_goals
      obtain ⟨z0, hz0⟩ := HGET.out w6 HB6.out
      go_wp2
      go_ret
      exact ⟨rfl, HB6.out⟩

end Go.Proofs.YtgnjenmicojgnaaGreat
