/-
  DispatchClones' walk.
-/
import Derived.Test.YtgnjenmicojgnaaGreatTfw
import Derived.Test.YtgnjenmicojgnaaGreatQu
import Derived.Deep.RegionWith
namespace Go.Proofs.YtgnjenmicojgnaaGreat
set_option linter.unusedVariables false
set_option linter.unusedSimpArgs false
open Go.RowKit

/-- Two Dispatches, each with its World: the second goes its own way. -/
def Pair2 (w : World) (A1 A2 : Ad) (U1 : Vs) (ps1 : List Pr) (R1 : Nat → List Int) (D1 : List (Int × Int)) (now1 : Int) (k : Nat) (wr : World) : Prop :=
  ∃ U2 ps2 R2 D2 now2, Duo wr A1 U1 ps1 R1 (srt D1) ps1 (rowE R1) D1 now1 ∧ Duo wr A2 U2 ps2 R2 (srt D2) ps2 (rowE R2) D2 now2 ∧ RInv ps2 R2 D2 ∧ 0 ≤ now2 ∧ now2 ≤ 80 + 2 * k ∧
    (∀ i, iM A2 U2 i → ¬ iP A1 U1 i) ∧ (∀ i, iM A2 U2 i → w.heap.size ≤ i) ∧ Below w.heap.size w wr

theorem Pair2.step {w wr w1 : World} {A1 A2 : Ad} {U1 U2 : Vs} {ps1 ps2 : List Pr} {R1 : Nat → List Int} {D1 : List (Int × Int)} {now1 now2 : Int} {k : Nat} {e : Ending}
    (h1 : Duo wr A1 U1 ps1 R1 (srt D1) ps1 (rowE R1) D1 now1) (h0 : 0 ≤ now2) (hk : now2 ≤ 80 + 2 * k) (hsep : ∀ i, iM A2 U2 i → ¬ iP A1 U1 i) (hlow : ∀ i, iM A2 U2 i → w.heap.size ≤ i) (hb : Below w.heap.size w wr) (hp : DoPost wr A2 U2 ps2.length now2 e w1) :
    e = .returned (.bool true) ∧ Pair2 w A1 A2 U1 ps1 R1 D1 now1 (k + 1) w1 := by
  obtain ⟨U', ps', R', D', nw, he, hd, hri, hl, h2, h3, hf⟩ := hp
  refine ⟨he, U', ps', R', D', nw, h1.kept hf.k (fun i hi hs => hsep i hs hi), hd, hri, by omega, by omega, fun i hi => ?_, fun i hi => ?_, hb.trans (hf.k.below hb.size hlow)⟩
  · rcases hf.m i hi with h5 | h5
    · exact hsep i h5
    · intro hi1
      have := h1.lt hi1
      omega
  · rcases hf.m i hi with h5 | h5
    · exact hlow i h5
    · exact Nat.le_trans hb.size h5

theorem Pair2.below {w wr w1 : World} {A1 A2 : Ad} {U1 : Vs} {ps1 : List Pr} {R1 : Nat → List Int} {D1 : List (Int × Int)} {now1 : Int} {k : Nat} (h : Pair2 w A1 A2 U1 ps1 R1 D1 now1 k wr) (hb : Below wr.heap.size wr w1) : Pair2 w A1 A2 U1 ps1 R1 D1 now1 k w1 := by
  obtain ⟨U2, ps2, R2, D2, now2, h1, h2, h3, h4, h5, h6, h7, h8⟩ := h
  exact ⟨U2, ps2, R2, D2, now2, h1.below hb, h2.below hb, h3, h4, h5, h6, h7, h8.trans (hb.mono h8.size)⟩

/-- The second pair, right behind its making. -/
theorem Pair2.make {w w3 w4 w5 w6 : World} {A1 : Ad} {U1 : Vs} {ps : List Pr} {R : Nat → List Int} {D : List (Int × Int)} {now : Int} (h : Duo w3 A1 U1 ps R (srt D) ps (rowE R) D now) (hri : RInv ps R D) (h0 : 0 ≤ now) (h80 : now ≤ 80) (hb : Below w.heap.size w w3)
    {d t g c l m t2 g2 c2 : Nat} {V : Nat → Value} {v : Value} (hb4 : Below w3.heap.size w3 w4) (hd : Dsp w4 d t g c l m V v ps R (srt D)) (hlow : ∀ i, inD d t g l m V v i → w3.heap.size ≤ i) (hb5 : Below w4.heap.size w4 w5) (hb6 : Below w5.heap.size w5 w6)
    (hT : Tab w6 t2 g2 c2 ps) (ht : w5.heap.size ≤ t2) (hg : ps.length ≠ 0 → w5.heap.size ≤ g2) :
    ∃ A2 : Ad, A2.d = d ∧ A2.x = w6.heap.size ∧ Pair2 w A1 A2 U1 ps R D now 0 (w6.alloc (.cells #[.pointer (some ⟨t2, 0, none⟩), U1.vE, U1.vD, .int .i64 now] 48)) := by
  obtain ⟨g', hT', hg1, hg2⟩ : ∃ g', Tab w6 t2 g' c2 ps ∧ w5.heap.size ≤ g' ∧ g' < w6.heap.size := by
    by_cases hz : ps.length = 0
    · exact ⟨t2, tab_nil2 hT hz t2, ht, hT.lt⟩
    · exact ⟨g2, hT, hg hz, hT.glt hz⟩
  have hs3 := hb.size
  have hs4 := hb4.size
  have hs5 := hb5.size
  have hs6 := hb6.size
  have htl := hT.lt
  have hba : Below w6.heap.size w6 (w6.alloc (.cells #[.pointer (some ⟨t2, 0, none⟩), U1.vE, U1.vD, .int .i64 now] 48)) := (Below.refl _ _).alloc (Nat.le_refl _) _
  have h34 := h.below hb4
  have h6 := (h34.below hb5).below hb6
  have h7 := h6.below hba
  have hd7 := ((hd.below hb5).below hb6).below hba
  have hEl : ∀ b, U1.vE.ownBlock = some b → b < w3.heap.size := fun b hb => h.wld.E.lt b hb
  have hDl : ∀ b, U1.vD.ownBlock = some b → b < w3.heap.size := fun b hb => h.wld.D.lt b hb
  have hsz : (w6.alloc (.cells #[.pointer (some ⟨t2, 0, none⟩), U1.vE, U1.vD, .int .i64 now] 48)).heap.size = w6.heap.size + 1 := by simp
  have hm : ∀ i, iM ⟨d, t, g, c, l, m, w6.heap.size, t2, g', c2⟩ ⟨V, v, U1.vE, U1.vD⟩ i → w3.heap.size ≤ i := by
    rintro i (hi | hi | hi)
    · exact hlow i hi
    · have hi : i = w6.heap.size := hi
      omega
    · have hi : i = g' := hi
      omega
  refine ⟨⟨d, t, g, c, l, m, w6.heap.size, t2, g', c2⟩, rfl, rfl, ⟨V, v, U1.vE, U1.vD⟩, ps, R, D, now, h7, ⟨hd7, ⟨heap_alloc_new w6 _, by show g' < _; rw [hsz]; omega, hT'.below hba, h.wld.ok, by show w6.heap.size ≠ g'; omega, h7.wld.E, h7.wld.D, fun b hb => ?_, fun b hb => ?_⟩, fun i hi hw => ?_⟩, hri, h0, by omega, fun i hi hp => ?_, fun i hi => Nat.le_trans hs3 (hm i hi), ?_⟩
  · have := hEl b hb
    show b ≠ w6.heap.size ∧ b ≠ g'
    omega
  · have := hDl b hb
    show b ≠ w6.heap.size ∧ b ≠ g'
    omega
  · have h1 : i < w4.heap.size := hd.lt hi
    have h2 := hlow i hi
    rcases hw with hw | hw | hw | hw | hw
    · have hw : i = w6.heap.size := hw
      omega
    · have hw : i = t2 := hw
      omega
    · have hw : i = g' := hw
      omega
    · have := hEl i hw
      omega
    · have := hDl i hw
      omega
  · have h1 := h.lt hp
    have h2 := hm i hi
    omega
  · exact hb.trans ((hb4.trans ((hb5.trans ((hb6.trans (hba.mono hs6)).mono hs5)).mono hs4)).mono hs3)

set_option maxRecDepth 100000 in
set_option maxHeartbeats 16000000 in
theorem clones_any (B : Option Addr) (n cc : Nat) (l : List At) (B2 : Option Addr) (n2 cc2 : Nat) (ops : List OpV) (B3 : Option Addr) (n3 cc3 : Nat) (ops3 : List OpV) (w : World) (hn : l.length = n) (hB : AtRow w B l) (hn2 : ops.length = n2) (hB2 : Ops w B2 ops) (hn3 : ops3.length = n3) (hB3 : Ops w B3 ops3) :
    Calls Tryz.prog 5 #[.slice B n cc, .slice B2 n2 cc2, .slice B3 n3 cc3] w fun e w' => e = .returned (.bool true) ∧ Below w.heap.size w w' := by
  have HF := Lib.hid (fix_any B n cc l w hn hB)
  have HN2 := Lib.hid hn2
  have HB2 := Lib.hid hB2
  have HN3 := Lib.hid hn3
  have HB3 := Lib.hid hB3
  clear hn hB hn2 hB2 hn3 hB3
  go_enter Tryz.func5, Tryz.ntmps5
  go_wp2_with fail
  refine HF.out.mono ?_
  rintro e w1 ⟨A1, c1, rfl, hA1, hb1⟩
  have HBG := Lib.hid (begin_any A1 (fixL l).length c1 (fixL l) w1 rfl hA1 (by have := fixL_len l; omega) (fixL_ok l))
  have HB1 := Lib.hid hb1
  obtain ⟨fl, hfl⟩ : ∃ fl, fixL l = fl := ⟨_, rfl⟩
  obtain ⟨fn, hfn⟩ : ∃ fn, fl.length = fn := ⟨_, rfl⟩
  have HOK : Hid (newOk fl = true) := by rw [← hfl]; exact fixL_ok l
  rw [hfl, hfn] at HBG ⊢
  have HFN := Lib.hid hfn
  clear hA1 hb1 HF hfl hfn
  go_wp2_with fail
  refine HBG.out.mono ?_
  rintro e w2 ⟨A, U, rfl, hd, hlow, hb2⟩
  have HD := Lib.hid hd
  have HLOW := Lib.hid hlow
  have HB2' : Hid (Below w.heap.size w w2) := HB1.out.trans (hb2.mono HB1.out.size)
  clear hd hlow hb2 HBG
  go_wp2_with fail
  refine (told_any20 w2).mono ?_
  rintro e w3 ⟨rfl, hb3⟩
  have HG : Hid (Going w A fn 0 w3) := ⟨U, fl.map prOf, r0, [], 0, HD.out.below hb3, rinv_new HOK.out, by rw [List.length_map]; exact HFN.out, by omega, by omega, fun i hi => Nat.le_trans HB1.out.size (HLOW.out i hi), HB2'.out.trans (hb3.mono HB2'.out.size)⟩
  clear hb3 HD HLOW HB2'
  go_wp2_with fail
  go_loopw [9] (fun s7 wr => ∃ k : Nat, k ≤ n2 ∧ k ≤ 40 ∧ s7 = .int .i64 k ∧ Going w A fn k wr) (fun i _ => n2 - (intOf i).toNat)
  case atStart => exact ⟨0, by omega, by omega, rfl, HG.out⟩
  case round =>
    clear HG
    obtain ⟨k, hk, hk80, rfl, hg⟩ := hrel
    obtain ⟨U, ps, R, D, now, hd, hri, hpl, hnow0, hnow1, hlow, hbel⟩ := hg
    have HD := Lib.hid hd
    have HRI := Lib.hid hri
    have HLOW := Lib.hid hlow
    have HBEL := Lib.hid hbel
    have HPL := Lib.hid hpl
    clear hd hri hpl hlow hbel
    by_cases hlt : k < n2 ∧ k < 40
    · obtain ⟨hlt2, hlt8⟩ := hlt
      have hl8 : (k : Int) < 40 := by omega
      have hl2 : (k : Int) < (n2 : Int) := by omega
      have hk0 : (0 : Int) ≤ (k : Int) := by omega
      obtain ⟨ob, oo, rfl, hobl, hoc⟩ := HB2.out (by have := HN2.out; omega)
      obtain ⟨o, ho⟩ : ∃ o, ops[k]? = some o := ⟨_, List.getElem?_eq_getElem (by have := HN2.out; omega)⟩
      obtain ⟨kd, oi, on, oby⟩ := o
      obtain ⟨c0, c1, c2, c3⟩ := hoc k _ ho
      have e0 := (HBEL.out.cell (p := ⟨ob, oo + k * 4, none⟩) hobl).trans c0
      have e1 := (HBEL.out.cell (p := ⟨ob, oo + k * 4 + 1, none⟩) hobl).trans c1
      have e2 := (HBEL.out.cell (p := ⟨ob, oo + k * 4 + 2, none⟩) hobl).trans c2
      have e3 := (HBEL.out.cell (p := ⟨ob, oo + k * 4 + 3, none⟩) hobl).trans c3
      have hobr : ob < wr.heap.size := by have := HBEL.out.size; omega
      have HDO := Lib.hid (do_any HD.out HRI.out kd oi on oby hnow0 (by omega))
      clear hoc ho c0 c1 c2 c3
      go_wp2_with fail
      refine HDO.out.mono ?_
      intro e w4 hp
      rw [HPL.out] at hp
      obtain ⟨rfl, hg⟩ := Going.step hnow0 hnow1 HLOW.out HBEL.out hp
      have HG := Lib.hid hg
      clear hp hg HDO e0 e1 e2 e3 HD HRI HLOW HBEL HPL
      go_wp2_with fail
      go_roundw
      case rel => exact ⟨k + 1, by omega, by omega, by go_num, HG.out⟩
      case measure => simp [intOf]; omega
    · have hnow80 : now ≤ 80 := by omega
      by_cases hl2 : k < n2
      · have hl2' : (k : Int) < (n2 : Int) := by omega
        have hl8 : ¬ (k : Int) < 40 := by omega
        have hl8b : decide ((k : Int) < 40) = false := by simpa using hl8
        clear hlt hnow1
        have HCL := Lib.hid (dclone_any HD.out.dsp HRI.out.rlen2 HRI.out.qlen)
        go_wp2_with fail
        refine HCL.out.mono ?_
        rintro e w4 ⟨d2, t2, g2, c2, l2, m2, V2, v2, rfl, hd2, hlow2, hb4, cs4, hcs4⟩
        have H2 := Lib.hid hd2
        have HLOW2 := Lib.hid hlow2
        have HB4 := Lib.hid hb4
        have H1 := Lib.hid (HD.out.below hb4)
        have hne : d2 ≠ A.d := by have h1 := hlow2 _ (.inl rfl); have h2 := HD.out.dsp.dl; omega
        have heql := other_eql hcs4 hd2.c0 (HD.out.below hb4).dsp.c0 hne
        have hss := same_self' ps
        have HS1 : Hid (∀ W, Below w4.heap.size w4 W → Calls Tryz.prog 19 #[.pointer (some ⟨d2, 0, none⟩), .pointer (some ⟨A.d, 0, none⟩)] W fun e w' => e = .returned (.bool true) ∧ Below W.heap.size W w') := fun W hb => by
          have := dsame_any (b2 := true) (b3 := true) (H2.out.below hb) (H1.out.below hb).dsp HRI.out.rlen2 HRI.out.qlen hss (by simp) (by simp)
          simpa using this
        have HS2 : Hid (∀ W, Below w4.heap.size w4 W → Calls Tryz.prog 19 #[.pointer (some ⟨A.d, 0, none⟩), .pointer (some ⟨d2, 0, none⟩)] W fun e w' => e = .returned (.bool true) ∧ Below W.heap.size W w') := fun W hb => by
          have := dsame_any (b2 := true) (b3 := true) (H1.out.below hb).dsp (H2.out.below hb) HRI.out.rlen2 HRI.out.qlen hss (by simp) (by simp)
          simpa using this
        clear hd2 hlow2 hb4 HCL hss hcs4
        go_wp2_with fail
        clear heql
        refine (HS1.out w4 (Below.refl _ _)).mono ?_
        rintro e w5 ⟨rfl, hb5⟩
        have HB5 := Lib.hid hb5
        clear hb5
        go_wp2_with fail
        refine (HS2.out w5 HB5.out).mono ?_
        rintro e w6 ⟨rfl, hb6⟩
        have HB6 : Hid (Below w4.heap.size w4 w6) := HB5.out.trans (hb6.mono HB5.out.size)
        clear hb6 HB5 HS1 HS2
        go_wp2_with fail
        refine (nil19c _ w6).mono ?_
        rintro e w6' ⟨rfl, rfl⟩
        obtain ⟨ea, ec, hE⟩ := HD.out.wld.E.sl
        obtain ⟨da, dc, hDs⟩ := HD.out.wld.D.sl
        obtain ⟨en, hen⟩ : ∃ en, (rowE R).length = en := ⟨_, rfl⟩
        obtain ⟨dn, hdn⟩ : ∃ dn, D.length = dn := ⟨_, rfl⟩
        rw [hen] at hE
        rw [hdn] at hDs
        have H16 := Lib.hid (H1.out.below HB6.out)
        have hcs : ∀ W, Below w6.heap.size w6 W → W.cell? ⟨A.x, 0, none⟩ = some (.pointer (some ⟨A.t2, 0, none⟩)) ∧ W.cell? ⟨A.x, 1, none⟩ = some (.slice ea en ec) ∧ W.cell? ⟨A.x, 2, none⟩ = some (.slice da dn dc) ∧ W.cell? ⟨A.x, 3, none⟩ = some (.int .i64 now) := fun W hb => ⟨(H16.out.below hb).wld.c0, by rw [← hE]; exact (H16.out.below hb).wld.c1, by rw [← hDs]; exact (H16.out.below hb).wld.c2, (H16.out.below hb).wld.c3⟩
        have HCS := Lib.hid hcs
        obtain ⟨x0, x1, x2, x3⟩ := hcs w6 (Below.refl _ _)
        have hxl6 := H16.out.wld.xl
        have HTC := Lib.hid (fun (W : World) (hb : Below w6.heap.size w6 W) => clone_any A.t2 A.g2 A.c2 ps W (H16.out.below hb).wld.T)
        have HE := Lib.hid hE
        have HDs := Lib.hid hDs
        clear hE hDs hen hdn hcs
        go_wp2_with fail
        go_region_held (fun w' => w'.cell? ⟨A.x, 0, none⟩ = some (.pointer (some ⟨A.t2, 0, none⟩)) ∧ w'.cell? ⟨A.x, 1, none⟩ = some (.slice ea en ec) ∧ w'.cell? ⟨A.x, 2, none⟩ = some (.slice da dn dc) ∧ w'.cell? ⟨A.x, 3, none⟩ = some (.int .i64 now)) (first | (exact ⟨x0, x1, x2, x3⟩) | (exact HCS.out _ HB7.out) | (exact HCS.out _ (HB7.out.alloc HB7.out.size _)))
          (first | (go_at_call 20; refine (HTC.out _ (Below.refl _ _).drew).mono ?_; rintro e w7 ⟨t7, g7, c7, rfl, hT7, ht7, hg7, hb7⟩; have HB7 : Hid (Below w6.heap.size w6 w7) := (Below.refl _ _).drew.trans (hb7.mono (Nat.le_refl _)); have HT7 := Lib.hid hT7; have Ht7 := Lib.hid ht7; have Hg7 := Lib.hid hg7; clear hT7 ht7 hg7 hb7))
        obtain ⟨A2, hA2d, hA2x, hpair⟩ := Pair2.make HD.out HRI.out hnow0 hnow80 HBEL.out HB4.out H2.out HLOW2.out HB6.out HB7.out HT7.out Ht7.out Hg7.out
        rw [HE.out, HDs.out] at hpair
        obtain ⟨w8, hw8⟩ : ∃ w8, w8 = w7.alloc (.cells #[.pointer (some ⟨t7, 0, none⟩), .slice ea en ec, .slice da dn dc, .int .i64 now] 48) := ⟨_, rfl⟩
        rw [← hw8] at hpair ⊢
        rw [← hA2x, ← hA2d]
        have HPR := Lib.hid hpair
        have HRI1 := Lib.hid HRI.out
        clear hpair hw8 hA2x hA2d x0 x1 x2 x3 HCS HTC H1 H2 HLOW2 HB4 HB6 HB7 HT7 Ht7 Hg7 H16 HD HLOW HBEL HPL hne HE HDs hxl6
        go_wp2_with fail
        go_loopw [12] (fun s12 wr => ∃ q : Nat, q ≤ n3 ∧ q ≤ 40 ∧ s12 = .int .i64 q ∧ Pair2 w A A2 U ps R D now q wr) (fun i _ => n3 - (intOf i).toNat)
        case atStart => exact ⟨0, by omega, by omega, rfl, HPR.out⟩
        case round =>
          clear HPR
          obtain ⟨q, hq, hq40, rfl, hpr⟩ := hrel
          have HPR := Lib.hid hpr
          obtain ⟨U2, ps2, R2, D2, now2, hd1, hd2, hri2, hn20, hn21, hsep, hlow, hbel⟩ := hpr
          have HD1 := Lib.hid hd1
          have HD2 := Lib.hid hd2
          have HRI2 := Lib.hid hri2
          have HSEP := Lib.hid hsep
          have HLOWq := Lib.hid hlow
          have HBEL := Lib.hid hbel
          clear hd1 hd2 hri2 hsep hlow hbel
          by_cases hqt : q < n3 ∧ q < 40
          · obtain ⟨hqt3, hqt4⟩ := hqt
            have hq4 : (q : Int) < 40 := by omega
            have hq3 : (q : Int) < (n3 : Int) := by omega
            have hq0 : (0 : Int) ≤ (q : Int) := by omega
            obtain ⟨ob, oo, rfl, hobl, hoc⟩ := HB3.out (by have := HN3.out; omega)
            obtain ⟨o, ho⟩ : ∃ o, ops3[q]? = some o := ⟨_, List.getElem?_eq_getElem (by have := HN3.out; omega)⟩
            obtain ⟨kd, oi, on, oby⟩ := o
            obtain ⟨c0, c1, c2, c3⟩ := hoc q _ ho
            have e0 := (HBEL.out.cell (p := ⟨ob, oo + q * 4, none⟩) hobl).trans c0
            have e1 := (HBEL.out.cell (p := ⟨ob, oo + q * 4 + 1, none⟩) hobl).trans c1
            have e2 := (HBEL.out.cell (p := ⟨ob, oo + q * 4 + 2, none⟩) hobl).trans c2
            have e3 := (HBEL.out.cell (p := ⟨ob, oo + q * 4 + 3, none⟩) hobl).trans c3
            have hobr : ob < wr.heap.size := by have := HBEL.out.size; omega
            have HDO := Lib.hid (do_any HD2.out HRI2.out kd oi on oby hn20 (by omega))
            clear hoc ho c0 c1 c2 c3
            go_wp2_with fail
            refine HDO.out.mono ?_
            intro e w9 hp
            obtain ⟨rfl, hpr9⟩ := Pair2.step HD1.out hn20 hn21 HSEP.out HLOWq.out HBEL.out hp
            clear hp HDO e0 e1 e2 e3 HD1 HD2 HRI2 HSEP HLOWq HBEL HPR hn20 hn21
            have HPR9 := Lib.hid hpr9
            obtain ⟨U9, ps9, R9, D9, now9, hd1, hd2, hri9, -⟩ := hpr9
            have HD1 := Lib.hid hd1
            have HD2 := Lib.hid hd2
            have HRI9 := Lib.hid hri9
            have HSA := Lib.hid (seen_duo hd2 hri9)
            have HSB := Lib.hid (fun (W : World) (hb : Below w9.heap.size w9 W) => seen_duo (hd1.below hb) HRI1.out)
            clear hd1 hd2 hri9
            go_wp2_with fail
            refine HSA.out.mono ?_
            rintro e w10 ⟨rfl, hb10⟩
            have HB10 := Lib.hid hb10
            clear hb10
            go_wp2_with fail
            refine (HSB.out w10 HB10.out).mono ?_
            rintro e w11 ⟨rfl, hb11⟩
            have HB11 : Hid (Below w9.heap.size w9 w11) := HB10.out.trans (hb11.mono HB10.out.size)
            have HP11 := Lib.hid (HPR9.out.below HB11.out)
            have HE1 := Lib.hid (HD1.out.below HB11.out)
            have HE2 := Lib.hid (HD2.out.below HB11.out)
            clear hb11 HB10 HSA HSB HPR9 HD1 HD2 HB11
            obtain ⟨b1, hb1⟩ : ∃ b1, sameL ps ps9 = b1 := ⟨_, rfl⟩
            obtain ⟨b2, hb2⟩ : ∃ b2 : Bool, b2 = true ↔ ∀ p, p < 64 → R p = R9 p := by
              by_cases h : ∀ p, p < 64 → R p = R9 p
              · exact ⟨true, by simpa using h⟩
              · exact ⟨false, by simpa using h⟩
            obtain ⟨b3, hb3⟩ : ∃ b3, decide (srt D = srt D9) = b3 := ⟨_, rfl⟩
            have hids1 := rowE_ids R
            have hids2 := rowE_ids R9
            have HRW : Hid (b1 = true → b2 = decide (allR R = allR R9)) := fun h => by
              rw [h] at hb1
              have := (rows_iff HRI1.out HRI9.out hb1)
              rw [hids1, hids2] at this
              by_cases hb : allR R = allR R9
              · rw [hb2.2 (this.2 hb)]; simp [hb]
              · have : b2 = false := by
                  cases hbb : b2 with
                  | false => rfl
                  | true => exact absurd (this.1 (hb2.1 hbb)) hb
                rw [this]; simp [hb]
            have HCA : Hid (∀ W, Below w11.heap.size w11 W → (W.cell? ⟨A.x, 0, none⟩ = some (.pointer (some ⟨A.t2, 0, none⟩)) ∧ W.cell? ⟨A.x, 1, none⟩ = some U.vE ∧ W.cell? ⟨A.x, 2, none⟩ = some U.vD) ∧ (W.cell? ⟨A2.x, 0, none⟩ = some (.pointer (some ⟨A2.t2, 0, none⟩)) ∧ W.cell? ⟨A2.x, 1, none⟩ = some U9.vE ∧ W.cell? ⟨A2.x, 2, none⟩ = some U9.vD)) := fun W hb =>
              ⟨⟨(HE1.out.below hb).wld.c0, (HE1.out.below hb).wld.c1, (HE1.out.below hb).wld.c2⟩, ⟨(HE2.out.below hb).wld.c0, (HE2.out.below hb).wld.c1, (HE2.out.below hb).wld.c2⟩⟩
            have h19 : ∀ W, Below w11.heap.size w11 W → Calls Tryz.prog 19 #[.pointer (some ⟨A.d, 0, none⟩), .pointer (some ⟨A2.d, 0, none⟩)] W fun e w' => e = .returned (.bool (b1 && (b2 && b3))) ∧ Below W.heap.size W w' := fun W hb => dsame_any (HE1.out.below hb).dsp (HE2.out.below hb).dsp HRI1.out.rlen2 HRI1.out.qlen hb1 hb2 hb3
            have h21 : ∀ W, Below w11.heap.size w11 W → Calls Tryz.prog 21 #[.pointer (some ⟨A.t2, 0, none⟩), .pointer (some ⟨A2.t2, 0, none⟩)] W fun e w' => e = .returned (.bool b1) ∧ Below W.heap.size W w' := fun W hb => by
              have := same_any A.t2 A.g2 A.c2 A2.t2 A2.g2 A2.c2 ps ps9 W (HE1.out.below hb).wld.T (HE2.out.below hb).wld.T
              rw [hb1] at this
              exact this
            have HI1 : Hid (∀ W, Below w11.heap.size w11 W → Calls Tryz.prog 23 #[U.vE] W (AllPost W (allR R))) := fun W hb => by
              have := ids_any U.vE (rowE R) W (HE1.out.below hb).wld.E (by have := HRI1.out.elen; omega)
              rw [hids1] at this
              exact this
            have HI2 : Hid (∀ W, Below w11.heap.size w11 W → Calls Tryz.prog 23 #[U9.vE] W (AllPost W (allR R9))) := fun W hb => by
              have := ids_any U9.vE (rowE R9) W (HE2.out.below hb).wld.E (by have := HRI9.out.elen; omega)
              rw [hids2] at this
              exact this
            have h22 : ∀ (W : World) (a b : Value), Own W a (allR R) → Own W b (allR R9) → Calls Tryz.prog 22 #[a, b] W fun e w' => e = .returned (.bool (decide (allR R = allR R9))) ∧ Below W.heap.size W w' := fun W a b ha hb => same20_any a b (allR R) (allR R9) W ha.ri hb.ri (by rw [← hids1, List.length_map]; have := HRI1.out.elen; omega)
            have h24 : ∀ W, Below w11.heap.size w11 W → Calls Tryz.prog 24 #[U.vD, U9.vD] W fun e w' => e = .returned (.bool b3) ∧ Below W.heap.size W w' := fun W hb => by
              have := samet_any U.vD U9.vD D D9 W (HE1.out.below hb).wld.D (HE2.out.below hb).wld.D (by have := HRI1.out.dlen; omega) (by have := HRI9.out.dlen; omega)
              rw [hb3] at this
              exact this
            clear hb1 hb2 hb3 hids1 hids2
            obtain ⟨⟨x0, x1, x2⟩, ⟨y0, y1, y2⟩⟩ := HCA.out w11 (Below.refl _ _)
            have hxl := HE1.out.wld.xl
            have hyl := HE2.out.wld.xl
            cases b1 with
            | false =>
              have H19 := Lib.hid h19
              have H21 := Lib.hid h21
              have hx0 := fun (x : BW w11) => (HCA.out x.val x.property).1.1
              have hx1 := fun (x : BW w11) => (HCA.out x.val x.property).2.1
              clear h19 h21 h22 h24 x0 x1 x2 y0 y1 y2
              go_wp2_with fail
              refine wp_region_bw (by kernel_rfl) (by kernel_rfl) ?_
              repeat (go_big_quiet_step (first | (go_at_call 19; exact Calls.bw (H19.out _ (BW.prop _))) | (go_at_call 21; exact Calls.bw (H21.out _ (BW.prop _)))))
              refine wpQuiet_nil ?_
              rintro w12 ⟨x12, hx12⟩
              have HB12 : Hid (Below w11.heap.size w11 w12) := by rw [hx12]; exact x12.property
              clear hx12 x12 hx0 hx1
              have HP12 := Lib.hid (HP11.out.below HB12.out)
              go_wp2_with fail
              go_roundw
              case rel => exact ⟨q + 1, by omega, by omega, by go_num, HP12.out⟩
              case measure => simp [intOf]; omega
            | true =>
              have hrw := HRW.out rfl
              clear HRW
              rw [← hrw] at h22
              cases b2 with
              | true =>
                have H19 := Lib.hid h19
                have H21 := Lib.hid h21
                have H22 := Lib.hid h22
                have H24 := Lib.hid h24
                clear h19 h21 h22 h24 hrw
                have HBT : Hid (∀ x : Bool, (true && (true && x)) = x) := fun x => rfl
                cases b3 with
                | false =>
                  go_wp2_with fail
                  first
                    | (go_region_held (fun w' => w'.cell? ⟨A.x, 0, none⟩ = some (.pointer (some ⟨A.t2, 0, none⟩)) ∧ w'.cell? ⟨A.x, 1, none⟩ = some U.vE ∧ w'.cell? ⟨A.x, 2, none⟩ = some U.vD ∧ w'.cell? ⟨A2.x, 0, none⟩ = some (.pointer (some ⟨A2.t2, 0, none⟩)) ∧ w'.cell? ⟨A2.x, 1, none⟩ = some U9.vE ∧ w'.cell? ⟨A2.x, 2, none⟩ = some U9.vD) (first | (exact ⟨x0, x1, x2, y0, y1, y2⟩) | (exact ⟨xf0, xf1, xf2, yf0, yf1, yf2⟩) | (exact ⟨xe0, xe1, xe2, ye0, ye1, ye2⟩) | (exact ⟨xd0, xd1, xd2, yd0, yd1, yd2⟩) | (exact ⟨xc0, xc1, xc2, yc0, yc1, yc2⟩) | (exact ⟨xb0, xb1, xb2, yb0, yb1, yb2⟩) | (exact ⟨xa0, xa1, xa2, ya0, ya1, ya2⟩))
                        (first
                          | (go_at_call 19; refine (H19.out _ (Below.refl _ _).drew).mono ?_; rintro e wa ⟨rfl, hba⟩; have HBa : Hid (Below w11.heap.size w11 wa) := (Below.refl _ _).drew.trans (hba.mono (Nat.le_refl _)); obtain ⟨⟨xa0, xa1, xa2⟩, ⟨ya0, ya1, ya2⟩⟩ := HCA.out wa HBa.out; clear hba)
                          | (go_at_call 21; refine (H21.out _ HBa.out).mono ?_; rintro e wb ⟨rfl, hbb⟩; have HBb : Hid (Below w11.heap.size w11 wb) := HBa.out.trans (hbb.mono HBa.out.size); obtain ⟨⟨xb0, xb1, xb2⟩, ⟨yb0, yb1, yb2⟩⟩ := HCA.out wb HBb.out; clear hbb)
                          | (go_at_call 23; (with_reducible refine (HI1.out _ HBb.out).mono ?_); rintro e wc ⟨uc, rfl, hoc, -, hbc⟩; have HBc : Hid (Below w11.heap.size w11 wc) := HBb.out.trans (hbc.mono HBb.out.size); have HOC := Lib.hid hoc; obtain ⟨⟨xc0, xc1, xc2⟩, ⟨yc0, yc1, yc2⟩⟩ := HCA.out wc HBc.out; clear hbc hoc)
                          | (go_at_call 23; (with_reducible refine (HI2.out _ HBc.out).mono ?_); rintro e wd ⟨ud, rfl, hod, -, hbd⟩; have HBd : Hid (Below w11.heap.size w11 wd) := HBc.out.trans (hbd.mono HBc.out.size); have HOD := Lib.hid hod; have HOC2 := Lib.hid (HOC.out.keep (fun b hb => hbd.block b (HOC.out.lt b hb))); obtain ⟨⟨xd0, xd1, xd2⟩, ⟨yd0, yd1, yd2⟩⟩ := HCA.out wd HBd.out; clear hbd hod)
                          | (go_at_call 22; refine (H22.out wd uc ud HOC2.out HOD.out).mono ?_; rintro e we ⟨rfl, hbe⟩; have HBe : Hid (Below w11.heap.size w11 we) := HBd.out.trans (hbe.mono HBd.out.size); obtain ⟨⟨xe0, xe1, xe2⟩, ⟨ye0, ye1, ye2⟩⟩ := HCA.out we HBe.out; clear hbe)
                          | (go_at_call 24; refine (H24.out _ HBe.out).mono ?_; rintro e wf ⟨rfl, hbf⟩; have HBf : Hid (Below w11.heap.size w11 wf) := HBe.out.trans (hbf.mono HBe.out.size); obtain ⟨⟨xf0, xf1, xf2⟩, ⟨yf0, yf1, yf2⟩⟩ := HCA.out wf HBf.out; clear hbf)))
                    | fail
                  all_goals
                    have HB12 := HBf
                    have HP12 := Lib.hid (HP11.out.below HB12.out)
                    go_wp2_with fail
                    go_roundw
                    case rel => exact ⟨q + 1, by omega, by omega, by go_num, HP12.out⟩
                    case measure => simp [intOf]; omega
                | true =>
                  go_wp2_with fail
                  first
                    | (go_region_held (fun w' => w'.cell? ⟨A.x, 0, none⟩ = some (.pointer (some ⟨A.t2, 0, none⟩)) ∧ w'.cell? ⟨A.x, 1, none⟩ = some U.vE ∧ w'.cell? ⟨A.x, 2, none⟩ = some U.vD ∧ w'.cell? ⟨A2.x, 0, none⟩ = some (.pointer (some ⟨A2.t2, 0, none⟩)) ∧ w'.cell? ⟨A2.x, 1, none⟩ = some U9.vE ∧ w'.cell? ⟨A2.x, 2, none⟩ = some U9.vD) (first | (exact ⟨x0, x1, x2, y0, y1, y2⟩) | (exact ⟨xf0, xf1, xf2, yf0, yf1, yf2⟩) | (exact ⟨xe0, xe1, xe2, ye0, ye1, ye2⟩) | (exact ⟨xd0, xd1, xd2, yd0, yd1, yd2⟩) | (exact ⟨xc0, xc1, xc2, yc0, yc1, yc2⟩) | (exact ⟨xb0, xb1, xb2, yb0, yb1, yb2⟩) | (exact ⟨xa0, xa1, xa2, ya0, ya1, ya2⟩))
                        (first
                          | (go_at_call 19; refine (H19.out _ (Below.refl _ _).drew).mono ?_; rintro e wa ⟨rfl, hba⟩; have HBa : Hid (Below w11.heap.size w11 wa) := (Below.refl _ _).drew.trans (hba.mono (Nat.le_refl _)); obtain ⟨⟨xa0, xa1, xa2⟩, ⟨ya0, ya1, ya2⟩⟩ := HCA.out wa HBa.out; clear hba)
                          | (go_at_call 21; refine (H21.out _ HBa.out).mono ?_; rintro e wb ⟨rfl, hbb⟩; have HBb : Hid (Below w11.heap.size w11 wb) := HBa.out.trans (hbb.mono HBa.out.size); obtain ⟨⟨xb0, xb1, xb2⟩, ⟨yb0, yb1, yb2⟩⟩ := HCA.out wb HBb.out; clear hbb)
                          | (go_at_call 23; (with_reducible refine (HI1.out _ HBb.out).mono ?_); rintro e wc ⟨uc, rfl, hoc, -, hbc⟩; have HBc : Hid (Below w11.heap.size w11 wc) := HBb.out.trans (hbc.mono HBb.out.size); have HOC := Lib.hid hoc; obtain ⟨⟨xc0, xc1, xc2⟩, ⟨yc0, yc1, yc2⟩⟩ := HCA.out wc HBc.out; clear hbc hoc)
                          | (go_at_call 23; (with_reducible refine (HI2.out _ HBc.out).mono ?_); rintro e wd ⟨ud, rfl, hod, -, hbd⟩; have HBd : Hid (Below w11.heap.size w11 wd) := HBc.out.trans (hbd.mono HBc.out.size); have HOD := Lib.hid hod; have HOC2 := Lib.hid (HOC.out.keep (fun b hb => hbd.block b (HOC.out.lt b hb))); obtain ⟨⟨xd0, xd1, xd2⟩, ⟨yd0, yd1, yd2⟩⟩ := HCA.out wd HBd.out; clear hbd hod)
                          | (go_at_call 22; refine (H22.out wd uc ud HOC2.out HOD.out).mono ?_; rintro e we ⟨rfl, hbe⟩; have HBe : Hid (Below w11.heap.size w11 we) := HBd.out.trans (hbe.mono HBd.out.size); obtain ⟨⟨xe0, xe1, xe2⟩, ⟨ye0, ye1, ye2⟩⟩ := HCA.out we HBe.out; clear hbe)
                          | (go_at_call 24; refine (H24.out _ HBe.out).mono ?_; rintro e wf ⟨rfl, hbf⟩; have HBf : Hid (Below w11.heap.size w11 wf) := HBe.out.trans (hbf.mono HBe.out.size); obtain ⟨⟨xf0, xf1, xf2⟩, ⟨yf0, yf1, yf2⟩⟩ := HCA.out wf HBf.out; clear hbf)))
                    | fail
                  all_goals
                    have HB12 := HBf
                    have HP12 := Lib.hid (HP11.out.below HB12.out)
                    go_wp2_with fail
                    go_roundw
                    case rel => exact ⟨q + 1, by omega, by omega, by go_num, HP12.out⟩
                    case measure => simp [intOf]; omega
              | false =>
                have H19 := Lib.hid h19
                have H21 := Lib.hid h21
                have H22 := Lib.hid h22
                have H24 := Lib.hid h24
                clear h19 h21 h22 h24 hrw
                go_wp2_with fail
                refine wp_region_held_drew (S := (fun w' => w'.cell? ⟨A.x, 0, none⟩ = some (.pointer (some ⟨A.t2, 0, none⟩)) ∧ w'.cell? ⟨A.x, 1, none⟩ = some U.vE ∧ w'.cell? ⟨A.x, 2, none⟩ = some U.vD ∧ w'.cell? ⟨A2.x, 0, none⟩ = some (.pointer (some ⟨A2.t2, 0, none⟩)) ∧ w'.cell? ⟨A2.x, 1, none⟩ = some U9.vE ∧ w'.cell? ⟨A2.x, 2, none⟩ = some U9.vD)) (by kernel_rfl) (by exact ⟨x0, x1, x2, y0, y1, y2⟩) (fun hHeld => ?_)
                refine wpAnyH_take (i := 0) (oi := ?oi0p) (v := ?vv0p) ?hi0p (by kernel_rfl) (by kernel_rfl) (by kernel_rfl) ?hQ0p ?hy0p (by assumption) ?rest0p
                case hi0p => (simp only [List.getElem?_toArray, List.getElem?_cons_zero, List.getElem?_cons_succ]; exact rfl)
                case hQ0p => exact fun _ _ _ h => h
                case hy0p => (refine Or.inl ⟨by rfl, ?_⟩; intro w' hSw; (try dsimp only at hSw); go_simp; (try with_reducible rfl))
                simp only [Act.put, List.setIfInBounds_toArray, List.set_cons_zero, List.set_cons_succ]
                refine wpAnyH_take (i := 1) (oi := ?oi1p) (v := ?vv1p) ?hi1p (by kernel_rfl) (by kernel_rfl) (by kernel_rfl) ?hQ1p ?hy1p (by assumption) ?rest1p
                case hi1p => (simp only [List.getElem?_toArray, List.getElem?_cons_zero, List.getElem?_cons_succ]; exact rfl)
                case hQ1p => exact fun _ _ _ h => h
                case hy1p => (refine Or.inl ⟨by rfl, ?_⟩; intro w' hSw; (try dsimp only at hSw); go_simp; (try with_reducible rfl))
                simp only [Act.put, List.setIfInBounds_toArray, List.set_cons_zero, List.set_cons_succ]
                refine wpAnyH_take (i := 3) (oi := ?oi3p) (v := ?vv3p) ?hi3p (by kernel_rfl) (by kernel_rfl) (by kernel_rfl) ?hQ3p ?hy3p (by assumption) ?rest3p
                case hi3p => (simp only [List.getElem?_toArray, List.getElem?_cons_zero, List.getElem?_cons_succ]; exact rfl)
                case hQ3p => exact fun _ _ _ h => h
                case hy3p => (refine Or.inl ⟨by rfl, ?_⟩; intro w' hSw; (try dsimp only at hSw); go_simp; (try with_reducible rfl))
                simp only [Act.put, List.setIfInBounds_toArray, List.set_cons_zero, List.set_cons_succ]
                refine wpAnyH_take (i := 4) (oi := ?oi4p) (v := ?vv4p) ?hi4p (by kernel_rfl) (by kernel_rfl) (by kernel_rfl) ?hQ4p ?hy4p (by assumption) ?rest4p
                case hi4p => (simp only [List.getElem?_toArray, List.getElem?_cons_zero, List.getElem?_cons_succ]; exact rfl)
                case hQ4p => exact fun _ _ _ h => h
                case hy4p => (refine Or.inl ⟨by rfl, ?_⟩; intro w' hSw; (try dsimp only at hSw); go_simp; (try with_reducible rfl))
                simp only [Act.put, List.setIfInBounds_toArray, List.set_cons_zero, List.set_cons_succ]
                refine wpAnyH_take (i := 5) (oi := ?oi5p) (v := ?vv5p) ?hi5p (by kernel_rfl) (by kernel_rfl) (by kernel_rfl) ?hQ5p ?hy5p (by assumption) ?rest5p
                case hi5p => (simp only [List.getElem?_toArray, List.getElem?_cons_zero, List.getElem?_cons_succ]; exact rfl)
                case hQ5p => exact fun _ _ _ h => h
                case hy5p => (refine Or.inl ⟨by rfl, ?_⟩; intro w' hSw; (try dsimp only at hSw); go_simp; (try with_reducible rfl))
                simp only [Act.put, List.setIfInBounds_toArray, List.set_cons_zero, List.set_cons_succ]
                refine wpAnyH_take (i := 6) (oi := ?oi6p) (v := ?vv6p) ?hi6p (by kernel_rfl) (by kernel_rfl) (by kernel_rfl) ?hQ6p ?hy6p (by assumption) ?rest6p
                case hi6p => (simp only [List.getElem?_toArray, List.getElem?_cons_zero, List.getElem?_cons_succ]; exact rfl)
                case hQ6p => exact fun _ _ _ h => h
                case hy6p => (refine Or.inl ⟨by rfl, ?_⟩; intro w' hSw; (try dsimp only at hSw); go_simp; (try with_reducible rfl))
                simp only [Act.put, List.setIfInBounds_toArray, List.set_cons_zero, List.set_cons_succ]
                refine wpAnyH_take (i := 7) (oi := ?oi7p) (v := ?vv7p) ?hi7p (by kernel_rfl) (by kernel_rfl) (by kernel_rfl) ?hQ7p ?hy7p (by assumption) ?rest7p
                case hi7p => (simp only [List.getElem?_toArray, List.getElem?_cons_zero, List.getElem?_cons_succ]; exact rfl)
                case hQ7p => exact fun _ _ _ h => h
                case hy7p => (refine Or.inl ⟨by rfl, ?_⟩; intro w' hSw; (try dsimp only at hSw); go_simp; (try with_reducible rfl))
                simp only [Act.put, List.setIfInBounds_toArray, List.set_cons_zero, List.set_cons_succ]
                refine wpAnyH_take (i := 8) (oi := ?oi8p) (v := ?vv8p) ?hi8p (by kernel_rfl) (by kernel_rfl) (by kernel_rfl) ?hQ8p ?hy8p (by assumption) ?rest8p
                case hi8p => (simp only [List.getElem?_toArray, List.getElem?_cons_zero, List.getElem?_cons_succ]; exact rfl)
                case hQ8p => exact fun _ _ _ h => h
                case hy8p => (refine Or.inl ⟨by rfl, ?_⟩; intro w' hSw; (try dsimp only at hSw); go_simp; (try with_reducible rfl))
                simp only [Act.put, List.setIfInBounds_toArray, List.set_cons_zero, List.set_cons_succ]
                refine wpAnyH_take (i := 9) (oi := ?oi9p) (v := ?vv9p) ?hi9p (by kernel_rfl) (by kernel_rfl) (by kernel_rfl) ?hQ9p ?hy9p (by assumption) ?rest9p
                case hi9p => (simp only [List.getElem?_toArray, List.getElem?_cons_zero, List.getElem?_cons_succ]; exact rfl)
                case hQ9p => exact fun _ _ _ h => h
                case hy9p => (refine Or.inl ⟨by rfl, ?_⟩; intro w' hSw; (try dsimp only at hSw); go_simp; (try with_reducible rfl))
                simp only [Act.put, List.setIfInBounds_toArray, List.set_cons_zero, List.set_cons_succ]
                refine wpAnyH_take (i := 10) (oi := ?oi10p) (v := ?vv10p) ?hi10p (by kernel_rfl) (by kernel_rfl) (by kernel_rfl) ?hQ10p ?hy10p (by assumption) ?rest10p
                case hi10p => (simp only [List.getElem?_toArray, List.getElem?_cons_zero, List.getElem?_cons_succ]; exact rfl)
                case hQ10p => exact fun _ _ _ h => h
                case hy10p => (refine Or.inl ⟨by rfl, ?_⟩; intro w' hSw; (try dsimp only at hSw); go_simp; (try with_reducible rfl))
                simp only [Act.put, List.setIfInBounds_toArray, List.set_cons_zero, List.set_cons_succ]
                refine wpAnyH_ready (rs := [2]) (by kernel_rfl) (by simp) ?_
                refine AllReadyH.cons rfl (fun K hK => ?_) AllReadyH.nil
                go_simp
                go_wp2_with (go_at_call 19; refine (H19.out _ (Below.refl _ _).drew).mono ?_; rintro e wa ⟨rfl, hba⟩; have HBa : Hid (Below w11.heap.size w11 wa) := (Below.refl _ _).drew.trans (hba.mono (Nat.le_refl _)); obtain ⟨⟨xa0, xa1, xa2⟩, ⟨ya0, ya1, ya2⟩⟩ := HCA.out wa HBa.out; clear hba)
                refine hK.out _ _ (by exact ⟨xa0, xa1, xa2, ya0, ya1, ya2⟩) (fun hHeld2 => ?_)
                clear hK K hHeld
                have hHeld := hHeld2
                clear hHeld2
                refine wpAnyH_ready (rs := [11]) (by kernel_rfl) (by simp) ?_
                refine AllReadyH.cons rfl (fun K hK => ?_) AllReadyH.nil
                go_simp
                go_wp2_with (go_at_call 21; refine (H21.out _ HBa.out).mono ?_; rintro e wb ⟨rfl, hbb⟩; have HBb : Hid (Below w11.heap.size w11 wb) := HBa.out.trans (hbb.mono HBa.out.size); obtain ⟨⟨xb0, xb1, xb2⟩, ⟨yb0, yb1, yb2⟩⟩ := HCA.out wb HBb.out; clear hbb)
                refine hK.out _ _ (by exact ⟨xb0, xb1, xb2, yb0, yb1, yb2⟩) (fun hHeld2 => ?_)
                clear hK K hHeld
                have hHeld := hHeld2
                clear hHeld2
                refine wpAnyH_take (i := 12) (oi := ?oi12p) (v := ?vv12p) ?hi12p (by kernel_rfl) (by kernel_rfl) (by kernel_rfl) ?hQ12p ?hy12p (by assumption) ?rest12p
                case hi12p => (simp only [List.getElem?_toArray, List.getElem?_cons_zero, List.getElem?_cons_succ]; exact rfl)
                case hQ12p => exact fun _ _ _ h => h
                case hy12p => (refine Or.inl ⟨by rfl, ?_⟩; intro w' hSw; (try dsimp only at hSw); go_simp; (try with_reducible rfl))
                simp only [Act.put, List.setIfInBounds_toArray, List.set_cons_zero, List.set_cons_succ]
                refine wpAnyH_take (i := 13) (oi := ?oi13p) (v := ?vv13p) ?hi13p (by kernel_rfl) (by kernel_rfl) (by kernel_rfl) ?hQ13p ?hy13p (by assumption) ?rest13p
                case hi13p => (simp only [List.getElem?_toArray, List.getElem?_cons_zero, List.getElem?_cons_succ]; exact rfl)
                case hQ13p => exact fun _ _ _ h => h
                case hy13p => (refine Or.inl ⟨by rfl, ?_⟩; intro w' hSw; (try dsimp only at hSw); go_simp; (try with_reducible rfl))
                simp only [Act.put, List.setIfInBounds_toArray, List.set_cons_zero, List.set_cons_succ]
                refine wpAnyH_take (i := 14) (oi := ?oi14p) (v := ?vv14p) ?hi14p (by kernel_rfl) (by kernel_rfl) (by kernel_rfl) ?hQ14p ?hy14p (by assumption) ?rest14p
                case hi14p => (simp only [List.getElem?_toArray, List.getElem?_cons_zero, List.getElem?_cons_succ]; exact rfl)
                case hQ14p => exact fun _ _ _ h => h
                case hy14p => (refine Or.inl ⟨by rfl, ?_⟩; intro w' hSw; (try dsimp only at hSw); go_simp; (try with_reducible rfl))
                simp only [Act.put, List.setIfInBounds_toArray, List.set_cons_zero, List.set_cons_succ]
                refine wpAnyH_take (i := 15) (oi := ?oi15p) (v := ?vv15p) ?hi15p (by kernel_rfl) (by kernel_rfl) (by kernel_rfl) ?hQ15p ?hy15p (by assumption) ?rest15p
                case hi15p => (simp only [List.getElem?_toArray, List.getElem?_cons_zero, List.getElem?_cons_succ]; exact rfl)
                case hQ15p => exact fun _ _ _ h => h
                case hy15p => (refine Or.inl ⟨by rfl, ?_⟩; intro w' hSw; (try dsimp only at hSw); go_simp; (try with_reducible rfl))
                simp only [Act.put, List.setIfInBounds_toArray, List.set_cons_zero, List.set_cons_succ]
                refine wpAnyH_take (i := 16) (oi := ?oi16p) (v := ?vv16p) ?hi16p (by kernel_rfl) (by kernel_rfl) (by kernel_rfl) ?hQ16p ?hy16p (by assumption) ?rest16p
                case hi16p => (simp only [List.getElem?_toArray, List.getElem?_cons_zero, List.getElem?_cons_succ]; exact rfl)
                case hQ16p => exact fun _ _ _ h => h
                case hy16p => (refine Or.inl ⟨by rfl, ?_⟩; intro w' hSw; (try dsimp only at hSw); go_simp; (try with_reducible rfl))
                simp only [Act.put, List.setIfInBounds_toArray, List.set_cons_zero, List.set_cons_succ]
                refine wpAnyH_take (i := 18) (oi := ?oi18p) (v := ?vv18p) ?hi18p (by kernel_rfl) (by kernel_rfl) (by kernel_rfl) ?hQ18p ?hy18p (by assumption) ?rest18p
                case hi18p => (simp only [List.getElem?_toArray, List.getElem?_cons_zero, List.getElem?_cons_succ]; exact rfl)
                case hQ18p => exact fun _ _ _ h => h
                case hy18p => (refine Or.inl ⟨by rfl, ?_⟩; intro w' hSw; (try dsimp only at hSw); go_simp; (try with_reducible rfl))
                simp only [Act.put, List.setIfInBounds_toArray, List.set_cons_zero, List.set_cons_succ]
                refine wpAnyH_take (i := 19) (oi := ?oi19p) (v := ?vv19p) ?hi19p (by kernel_rfl) (by kernel_rfl) (by kernel_rfl) ?hQ19p ?hy19p (by assumption) ?rest19p
                case hi19p => (simp only [List.getElem?_toArray, List.getElem?_cons_zero, List.getElem?_cons_succ]; exact rfl)
                case hQ19p => exact fun _ _ _ h => h
                case hy19p => (refine Or.inl ⟨by rfl, ?_⟩; intro w' hSw; (try dsimp only at hSw); go_simp; (try with_reducible rfl))
                simp only [Act.put, List.setIfInBounds_toArray, List.set_cons_zero, List.set_cons_succ]
                refine wpAnyH_take (i := 20) (oi := ?oi20p) (v := ?vv20p) ?hi20p (by kernel_rfl) (by kernel_rfl) (by kernel_rfl) ?hQ20p ?hy20p (by assumption) ?rest20p
                case hi20p => (simp only [List.getElem?_toArray, List.getElem?_cons_zero, List.getElem?_cons_succ]; exact rfl)
                case hQ20p => exact fun _ _ _ h => h
                case hy20p => (refine Or.inl ⟨by rfl, ?_⟩; intro w' hSw; (try dsimp only at hSw); go_simp; (try with_reducible rfl))
                simp only [Act.put, List.setIfInBounds_toArray, List.set_cons_zero, List.set_cons_succ]
                refine wpAnyH_take (i := 21) (oi := ?oi21p) (v := ?vv21p) ?hi21p (by kernel_rfl) (by kernel_rfl) (by kernel_rfl) ?hQ21p ?hy21p (by assumption) ?rest21p
                case hi21p => (simp only [List.getElem?_toArray, List.getElem?_cons_zero, List.getElem?_cons_succ]; exact rfl)
                case hQ21p => exact fun _ _ _ h => h
                case hy21p => (refine Or.inl ⟨by rfl, ?_⟩; intro w' hSw; (try dsimp only at hSw); go_simp; (try with_reducible rfl))
                simp only [Act.put, List.setIfInBounds_toArray, List.set_cons_zero, List.set_cons_succ]
                refine wpAnyH_ready (rs := [17]) (by kernel_rfl) (by simp) ?_
                refine AllReadyH.cons rfl (fun K hK => ?_) AllReadyH.nil
                go_simp
                go_wp2_with (go_at_call 23; (with_reducible refine (HI1.out _ HBb.out).mono ?_); rintro e wc ⟨uc, rfl, hoc, -, hbc⟩; have HBc : Hid (Below w11.heap.size w11 wc) := HBb.out.trans (hbc.mono HBb.out.size); have HOC := Lib.hid hoc; obtain ⟨⟨xc0, xc1, xc2⟩, ⟨yc0, yc1, yc2⟩⟩ := HCA.out wc HBc.out; clear hbc hoc)
                refine hK.out _ _ (by exact ⟨xc0, xc1, xc2, yc0, yc1, yc2⟩) (fun hHeld2 => ?_)
                clear hK K hHeld
                have hHeld := hHeld2
                clear hHeld2
                refine wpAnyH_ready (rs := [22]) (by kernel_rfl) (by simp) ?_
                refine AllReadyH.cons rfl (fun K hK => ?_) AllReadyH.nil
                go_simp
                go_wp2_with (go_at_call 23; (with_reducible refine (HI2.out _ HBc.out).mono ?_); rintro e wd ⟨ud, rfl, hod, -, hbd⟩; have HBd : Hid (Below w11.heap.size w11 wd) := HBc.out.trans (hbd.mono HBc.out.size); have HOD := Lib.hid hod; have HOC2 := Lib.hid (HOC.out.keep (fun b hb => hbd.block b (HOC.out.lt b hb))); obtain ⟨⟨xd0, xd1, xd2⟩, ⟨yd0, yd1, yd2⟩⟩ := HCA.out wd HBd.out; clear hbd hod)
                refine hK.out _ _ (by exact ⟨xd0, xd1, xd2, yd0, yd1, yd2⟩) (fun hHeld2 => ?_)
                clear hK K hHeld
                have hHeld := hHeld2
                clear hHeld2
                refine wpAnyH_ready (rs := [23]) (by kernel_rfl) (by simp) ?_
                refine AllReadyH.cons rfl (fun K hK => ?_) AllReadyH.nil
                go_simp
                go_wp2_with (go_at_call 22; refine (H22.out wd uc ud HOC2.out HOD.out).mono ?_; rintro e we ⟨rfl, hbe⟩; have HBe : Hid (Below w11.heap.size w11 we) := HBd.out.trans (hbe.mono HBd.out.size); obtain ⟨⟨xe0, xe1, xe2⟩, ⟨ye0, ye1, ye2⟩⟩ := HCA.out we HBe.out; clear hbe)
                refine hK.out _ _ (by exact ⟨xe0, xe1, xe2, ye0, ye1, ye2⟩) (fun hHeld2 => ?_)
                clear hK K hHeld
                have hHeld := hHeld2
                clear hHeld2
                refine wpAnyH_take (i := 24) (oi := ?oi24p) (v := ?vv24p) ?hi24p (by kernel_rfl) (by kernel_rfl) (by kernel_rfl) ?hQ24p ?hy24p (by assumption) ?rest24p
                case hi24p => (simp only [List.getElem?_toArray, List.getElem?_cons_zero, List.getElem?_cons_succ]; exact rfl)
                case hQ24p => exact fun _ _ _ h => h
                case hy24p => (refine Or.inl ⟨by rfl, ?_⟩; intro w' hSw; (try dsimp only at hSw); go_simp; (try with_reducible rfl))
                simp only [Act.put, List.setIfInBounds_toArray, List.set_cons_zero, List.set_cons_succ]
                refine wpAnyH_take (i := 25) (oi := ?oi25p) (v := ?vv25p) ?hi25p (by kernel_rfl) (by kernel_rfl) (by kernel_rfl) ?hQ25p ?hy25p (by assumption) ?rest25p
                case hi25p => (simp only [List.getElem?_toArray, List.getElem?_cons_zero, List.getElem?_cons_succ]; exact rfl)
                case hQ25p => exact fun _ _ _ h => h
                case hy25p => (refine Or.inl ⟨by rfl, ?_⟩; intro w' hSw; (try dsimp only at hSw); go_simp; (try with_reducible rfl))
                simp only [Act.put, List.setIfInBounds_toArray, List.set_cons_zero, List.set_cons_succ]
                refine wpAnyH_take (i := 26) (oi := ?oi26p) (v := undef) ?hi26p (by kernel_rfl) (by kernel_rfl) (by kernel_rfl) ?hQ26p ?hy26p (by assumption) ?rest26p
                case hi26p => (simp only [List.getElem?_toArray, List.getElem?_cons_zero, List.getElem?_cons_succ]; exact rfl)
                case hQ26p => exact fun _ _ _ h => h
                case hy26p => exact Or.inr ⟨by rfl, rfl⟩
                simp only [Act.put, List.setIfInBounds_toArray, List.set_cons_zero, List.set_cons_succ]
                refine wpAnyH_take (i := 27) (oi := ?oi27p) (v := undef) ?hi27p (by kernel_rfl) (by kernel_rfl) (by kernel_rfl) ?hQ27p ?hy27p (by assumption) ?rest27p
                case hi27p => (simp only [List.getElem?_toArray, List.getElem?_cons_zero, List.getElem?_cons_succ]; exact rfl)
                case hQ27p => exact fun _ _ _ h => h
                case hy27p => exact Or.inr ⟨by rfl, rfl⟩
                simp only [Act.put, List.setIfInBounds_toArray, List.set_cons_zero, List.set_cons_succ]
                refine wpAnyH_take (i := 28) (oi := ?oi28p) (v := undef) ?hi28p (by kernel_rfl) (by kernel_rfl) (by kernel_rfl) ?hQ28p ?hy28p (by assumption) ?rest28p
                case hi28p => (simp only [List.getElem?_toArray, List.getElem?_cons_zero, List.getElem?_cons_succ]; exact rfl)
                case hQ28p => exact fun _ _ _ h => h
                case hy28p => exact Or.inr ⟨by rfl, rfl⟩
                simp only [Act.put, List.setIfInBounds_toArray, List.set_cons_zero, List.set_cons_succ]
                refine wpAnyH_take (i := 29) (oi := ?oi29p) (v := undef) ?hi29p (by kernel_rfl) (by kernel_rfl) (by kernel_rfl) ?hQ29p ?hy29p (by assumption) ?rest29p
                case hi29p => (simp only [List.getElem?_toArray, List.getElem?_cons_zero, List.getElem?_cons_succ]; exact rfl)
                case hQ29p => exact fun _ _ _ h => h
                case hy29p => exact Or.inr ⟨by rfl, rfl⟩
                simp only [Act.put, List.setIfInBounds_toArray, List.set_cons_zero, List.set_cons_succ]
                refine wpAnyH_take (i := 30) (oi := ?oi30p) (v := undef) ?hi30p (by kernel_rfl) (by kernel_rfl) (by kernel_rfl) ?hQ30p ?hy30p (by assumption) ?rest30p
                case hi30p => (simp only [List.getElem?_toArray, List.getElem?_cons_zero, List.getElem?_cons_succ]; exact rfl)
                case hQ30p => exact fun _ _ _ h => h
                case hy30p => exact Or.inr ⟨by rfl, rfl⟩
                simp only [Act.put, List.setIfInBounds_toArray, List.set_cons_zero, List.set_cons_succ]
                refine wpAnyH_take (i := 31) (oi := ?oi31p) (v := undef) ?hi31p (by kernel_rfl) (by kernel_rfl) (by kernel_rfl) ?hQ31p ?hy31p (by assumption) ?rest31p
                case hi31p => (simp only [List.getElem?_toArray, List.getElem?_cons_zero, List.getElem?_cons_succ]; exact rfl)
                case hQ31p => exact fun _ _ _ h => h
                case hy31p => exact Or.inr ⟨by rfl, rfl⟩
                simp only [Act.put, List.setIfInBounds_toArray, List.set_cons_zero, List.set_cons_succ]
                refine wpAnyH_take (i := 32) (oi := ?oi32p) (v := undef) ?hi32p (by kernel_rfl) (by kernel_rfl) (by kernel_rfl) ?hQ32p ?hy32p (by assumption) ?rest32p
                case hi32p => (simp only [List.getElem?_toArray, List.getElem?_cons_zero, List.getElem?_cons_succ]; exact rfl)
                case hQ32p => exact fun _ _ _ h => h
                case hy32p => exact Or.inr ⟨by rfl, rfl⟩
                simp only [Act.put, List.setIfInBounds_toArray, List.set_cons_zero, List.set_cons_succ]
                refine wpAnyH_take (i := 33) (oi := ?oi33p) (v := undef) ?hi33p (by kernel_rfl) (by kernel_rfl) (by kernel_rfl) ?hQ33p ?hy33p (by assumption) ?rest33p
                case hi33p => (simp only [List.getElem?_toArray, List.getElem?_cons_zero, List.getElem?_cons_succ]; exact rfl)
                case hQ33p => exact fun _ _ _ h => h
                case hy33p => exact Or.inr ⟨by rfl, rfl⟩
                simp only [Act.put, List.setIfInBounds_toArray, List.set_cons_zero, List.set_cons_succ]
                refine wpAnyH_take (i := 34) (oi := ?oi34p) (v := undef) ?hi34p (by kernel_rfl) (by kernel_rfl) (by kernel_rfl) ?hQ34p ?hy34p (by assumption) ?rest34p
                case hi34p => (simp only [List.getElem?_toArray, List.getElem?_cons_zero, List.getElem?_cons_succ]; exact rfl)
                case hQ34p => exact fun _ _ _ h => h
                case hy34p => exact Or.inr ⟨by rfl, rfl⟩
                simp only [Act.put, List.setIfInBounds_toArray, List.set_cons_zero, List.set_cons_succ]
                refine wpAnyH_take (i := 35) (oi := ?oi35p) (v := ?vv35p) ?hi35p (by kernel_rfl) (by kernel_rfl) (by kernel_rfl) ?hQ35p ?hy35p (by assumption) ?rest35p
                case hi35p => (simp only [List.getElem?_toArray, List.getElem?_cons_zero, List.getElem?_cons_succ]; exact rfl)
                case hQ35p => exact fun _ _ _ h => h
                case hy35p => (refine Or.inl ⟨by rfl, ?_⟩; intro w' hSw; (try dsimp only at hSw); go_simp; (try with_reducible rfl))
                simp only [Act.put, List.setIfInBounds_toArray, List.set_cons_zero, List.set_cons_succ]
                refine wpAnyH_take (i := 36) (oi := ?oi36p) (v := ?vv36p) ?hi36p (by kernel_rfl) (by kernel_rfl) (by kernel_rfl) ?hQ36p ?hy36p (by assumption) ?rest36p
                case hi36p => (simp only [List.getElem?_toArray, List.getElem?_cons_zero, List.getElem?_cons_succ]; exact rfl)
                case hQ36p => exact fun _ _ _ h => h
                case hy36p => (refine Or.inl ⟨by rfl, ?_⟩; intro w' hSw; (try dsimp only at hSw); go_simp; (try with_reducible rfl))
                simp only [Act.put, List.setIfInBounds_toArray, List.set_cons_zero, List.set_cons_succ]
                refine wpAnyH_done (by kernel_rfl) ?_ _
                have HB12 := HBe
                have HP12 := Lib.hid (HP11.out.below HB12.out)
                go_wp2_with fail
                go_roundw
                case rel => exact ⟨q + 1, by omega, by omega, by go_num, HP12.out⟩
                case measure => simp [intOf]; omega
          · by_cases hq3 : q < n3
            · have hq3' : (q : Int) < (n3 : Int) := by omega
              have hq4 : ¬ (q : Int) < 40 := by omega
              have hq4b : decide ((q : Int) < 40) = false := by simpa using hq4
              clear hqt
              go_wp2_with fail
              go_ret
              exact ⟨rfl, HBEL.out⟩
            · have hq3' : ¬ (q : Int) < (n3 : Int) := by omega
              have hq3b : decide ((q : Int) < (n3 : Int)) = false := by simpa using hq3'
              clear hqt
              go_wp2_with fail
              go_ret
              exact ⟨rfl, HBEL.out⟩
      · have hl2' : ¬ (k : Int) < (n2 : Int) := by omega
        have hl2b : decide ((k : Int) < (n2 : Int)) = false := by simpa using hl2'
        clear hlt hnow1
        have HCL := Lib.hid (dclone_any HD.out.dsp HRI.out.rlen2 HRI.out.qlen)
        go_wp2_with fail
        refine HCL.out.mono ?_
        rintro e w4 ⟨d2, t2, g2, c2, l2, m2, V2, v2, rfl, hd2, hlow2, hb4, cs4, hcs4⟩
        have H2 := Lib.hid hd2
        have HLOW2 := Lib.hid hlow2
        have HB4 := Lib.hid hb4
        have H1 := Lib.hid (HD.out.below hb4)
        have hne : d2 ≠ A.d := by have h1 := hlow2 _ (.inl rfl); have h2 := HD.out.dsp.dl; omega
        have heql := other_eql hcs4 hd2.c0 (HD.out.below hb4).dsp.c0 hne
        have hss := same_self' ps
        have HS1 : Hid (∀ W, Below w4.heap.size w4 W → Calls Tryz.prog 19 #[.pointer (some ⟨d2, 0, none⟩), .pointer (some ⟨A.d, 0, none⟩)] W fun e w' => e = .returned (.bool true) ∧ Below W.heap.size W w') := fun W hb => by
          have := dsame_any (b2 := true) (b3 := true) (H2.out.below hb) (H1.out.below hb).dsp HRI.out.rlen2 HRI.out.qlen hss (by simp) (by simp)
          simpa using this
        have HS2 : Hid (∀ W, Below w4.heap.size w4 W → Calls Tryz.prog 19 #[.pointer (some ⟨A.d, 0, none⟩), .pointer (some ⟨d2, 0, none⟩)] W fun e w' => e = .returned (.bool true) ∧ Below W.heap.size W w') := fun W hb => by
          have := dsame_any (b2 := true) (b3 := true) (H1.out.below hb).dsp (H2.out.below hb) HRI.out.rlen2 HRI.out.qlen hss (by simp) (by simp)
          simpa using this
        clear hd2 hlow2 hb4 HCL hss hcs4
        go_wp2_with fail
        clear heql
        refine (HS1.out w4 (Below.refl _ _)).mono ?_
        rintro e w5 ⟨rfl, hb5⟩
        have HB5 := Lib.hid hb5
        clear hb5
        go_wp2_with fail
        refine (HS2.out w5 HB5.out).mono ?_
        rintro e w6 ⟨rfl, hb6⟩
        have HB6 : Hid (Below w4.heap.size w4 w6) := HB5.out.trans (hb6.mono HB5.out.size)
        clear hb6 HB5 HS1 HS2
        go_wp2_with fail
        refine (nil19c _ w6).mono ?_
        rintro e w6' ⟨rfl, rfl⟩
        obtain ⟨ea, ec, hE⟩ := HD.out.wld.E.sl
        obtain ⟨da, dc, hDs⟩ := HD.out.wld.D.sl
        obtain ⟨en, hen⟩ : ∃ en, (rowE R).length = en := ⟨_, rfl⟩
        obtain ⟨dn, hdn⟩ : ∃ dn, D.length = dn := ⟨_, rfl⟩
        rw [hen] at hE
        rw [hdn] at hDs
        have H16 := Lib.hid (H1.out.below HB6.out)
        have hcs : ∀ W, Below w6.heap.size w6 W → W.cell? ⟨A.x, 0, none⟩ = some (.pointer (some ⟨A.t2, 0, none⟩)) ∧ W.cell? ⟨A.x, 1, none⟩ = some (.slice ea en ec) ∧ W.cell? ⟨A.x, 2, none⟩ = some (.slice da dn dc) ∧ W.cell? ⟨A.x, 3, none⟩ = some (.int .i64 now) := fun W hb => ⟨(H16.out.below hb).wld.c0, by rw [← hE]; exact (H16.out.below hb).wld.c1, by rw [← hDs]; exact (H16.out.below hb).wld.c2, (H16.out.below hb).wld.c3⟩
        have HCS := Lib.hid hcs
        obtain ⟨x0, x1, x2, x3⟩ := hcs w6 (Below.refl _ _)
        have hxl6 := H16.out.wld.xl
        have HTC := Lib.hid (fun (W : World) (hb : Below w6.heap.size w6 W) => clone_any A.t2 A.g2 A.c2 ps W (H16.out.below hb).wld.T)
        have HE := Lib.hid hE
        have HDs := Lib.hid hDs
        clear hE hDs hen hdn hcs
        go_wp2_with fail
        go_region_held (fun w' => w'.cell? ⟨A.x, 0, none⟩ = some (.pointer (some ⟨A.t2, 0, none⟩)) ∧ w'.cell? ⟨A.x, 1, none⟩ = some (.slice ea en ec) ∧ w'.cell? ⟨A.x, 2, none⟩ = some (.slice da dn dc) ∧ w'.cell? ⟨A.x, 3, none⟩ = some (.int .i64 now)) (first | (exact ⟨x0, x1, x2, x3⟩) | (exact HCS.out _ HB7.out) | (exact HCS.out _ (HB7.out.alloc HB7.out.size _)))
          (first | (go_at_call 20; refine (HTC.out _ (Below.refl _ _).drew).mono ?_; rintro e w7 ⟨t7, g7, c7, rfl, hT7, ht7, hg7, hb7⟩; have HB7 : Hid (Below w6.heap.size w6 w7) := (Below.refl _ _).drew.trans (hb7.mono (Nat.le_refl _)); have HT7 := Lib.hid hT7; have Ht7 := Lib.hid ht7; have Hg7 := Lib.hid hg7; clear hT7 ht7 hg7 hb7))
        obtain ⟨A2, hA2d, hA2x, hpair⟩ := Pair2.make HD.out HRI.out hnow0 hnow80 HBEL.out HB4.out H2.out HLOW2.out HB6.out HB7.out HT7.out Ht7.out Hg7.out
        rw [HE.out, HDs.out] at hpair
        obtain ⟨w8, hw8⟩ : ∃ w8, w8 = w7.alloc (.cells #[.pointer (some ⟨t7, 0, none⟩), .slice ea en ec, .slice da dn dc, .int .i64 now] 48) := ⟨_, rfl⟩
        rw [← hw8] at hpair ⊢
        rw [← hA2x, ← hA2d]
        have HPR := Lib.hid hpair
        have HRI1 := Lib.hid HRI.out
        clear hpair hw8 hA2x hA2d x0 x1 x2 x3 HCS HTC H1 H2 HLOW2 HB4 HB6 HB7 HT7 Ht7 Hg7 H16 HD HLOW HBEL HPL hne HE HDs hxl6
        go_wp2_with fail
        go_loopw [12] (fun s12 wr => ∃ q : Nat, q ≤ n3 ∧ q ≤ 40 ∧ s12 = .int .i64 q ∧ Pair2 w A A2 U ps R D now q wr) (fun i _ => n3 - (intOf i).toNat)
        case atStart => exact ⟨0, by omega, by omega, rfl, HPR.out⟩
        case round =>
          clear HPR
          obtain ⟨q, hq, hq40, rfl, hpr⟩ := hrel
          have HPR := Lib.hid hpr
          obtain ⟨U2, ps2, R2, D2, now2, hd1, hd2, hri2, hn20, hn21, hsep, hlow, hbel⟩ := hpr
          have HD1 := Lib.hid hd1
          have HD2 := Lib.hid hd2
          have HRI2 := Lib.hid hri2
          have HSEP := Lib.hid hsep
          have HLOWq := Lib.hid hlow
          have HBEL := Lib.hid hbel
          clear hd1 hd2 hri2 hsep hlow hbel
          by_cases hqt : q < n3 ∧ q < 40
          · obtain ⟨hqt3, hqt4⟩ := hqt
            have hq4 : (q : Int) < 40 := by omega
            have hq3 : (q : Int) < (n3 : Int) := by omega
            have hq0 : (0 : Int) ≤ (q : Int) := by omega
            obtain ⟨ob, oo, rfl, hobl, hoc⟩ := HB3.out (by have := HN3.out; omega)
            obtain ⟨o, ho⟩ : ∃ o, ops3[q]? = some o := ⟨_, List.getElem?_eq_getElem (by have := HN3.out; omega)⟩
            obtain ⟨kd, oi, on, oby⟩ := o
            obtain ⟨c0, c1, c2, c3⟩ := hoc q _ ho
            have e0 := (HBEL.out.cell (p := ⟨ob, oo + q * 4, none⟩) hobl).trans c0
            have e1 := (HBEL.out.cell (p := ⟨ob, oo + q * 4 + 1, none⟩) hobl).trans c1
            have e2 := (HBEL.out.cell (p := ⟨ob, oo + q * 4 + 2, none⟩) hobl).trans c2
            have e3 := (HBEL.out.cell (p := ⟨ob, oo + q * 4 + 3, none⟩) hobl).trans c3
            have hobr : ob < wr.heap.size := by have := HBEL.out.size; omega
            have HDO := Lib.hid (do_any HD2.out HRI2.out kd oi on oby hn20 (by omega))
            clear hoc ho c0 c1 c2 c3
            go_wp2_with fail
            refine HDO.out.mono ?_
            intro e w9 hp
            obtain ⟨rfl, hpr9⟩ := Pair2.step HD1.out hn20 hn21 HSEP.out HLOWq.out HBEL.out hp
            clear hp HDO e0 e1 e2 e3 HD1 HD2 HRI2 HSEP HLOWq HBEL HPR hn20 hn21
            have HPR9 := Lib.hid hpr9
            obtain ⟨U9, ps9, R9, D9, now9, hd1, hd2, hri9, -⟩ := hpr9
            have HD1 := Lib.hid hd1
            have HD2 := Lib.hid hd2
            have HRI9 := Lib.hid hri9
            have HSA := Lib.hid (seen_duo hd2 hri9)
            have HSB := Lib.hid (fun (W : World) (hb : Below w9.heap.size w9 W) => seen_duo (hd1.below hb) HRI1.out)
            clear hd1 hd2 hri9
            go_wp2_with fail
            refine HSA.out.mono ?_
            rintro e w10 ⟨rfl, hb10⟩
            have HB10 := Lib.hid hb10
            clear hb10
            go_wp2_with fail
            refine (HSB.out w10 HB10.out).mono ?_
            rintro e w11 ⟨rfl, hb11⟩
            have HB11 : Hid (Below w9.heap.size w9 w11) := HB10.out.trans (hb11.mono HB10.out.size)
            have HP11 := Lib.hid (HPR9.out.below HB11.out)
            have HE1 := Lib.hid (HD1.out.below HB11.out)
            have HE2 := Lib.hid (HD2.out.below HB11.out)
            clear hb11 HB10 HSA HSB HPR9 HD1 HD2 HB11
            obtain ⟨b1, hb1⟩ : ∃ b1, sameL ps ps9 = b1 := ⟨_, rfl⟩
            obtain ⟨b2, hb2⟩ : ∃ b2 : Bool, b2 = true ↔ ∀ p, p < 64 → R p = R9 p := by
              by_cases h : ∀ p, p < 64 → R p = R9 p
              · exact ⟨true, by simpa using h⟩
              · exact ⟨false, by simpa using h⟩
            obtain ⟨b3, hb3⟩ : ∃ b3, decide (srt D = srt D9) = b3 := ⟨_, rfl⟩
            have hids1 := rowE_ids R
            have hids2 := rowE_ids R9
            have HRW : Hid (b1 = true → b2 = decide (allR R = allR R9)) := fun h => by
              rw [h] at hb1
              have := (rows_iff HRI1.out HRI9.out hb1)
              rw [hids1, hids2] at this
              by_cases hb : allR R = allR R9
              · rw [hb2.2 (this.2 hb)]; simp [hb]
              · have : b2 = false := by
                  cases hbb : b2 with
                  | false => rfl
                  | true => exact absurd (this.1 (hb2.1 hbb)) hb
                rw [this]; simp [hb]
            have HCA : Hid (∀ W, Below w11.heap.size w11 W → (W.cell? ⟨A.x, 0, none⟩ = some (.pointer (some ⟨A.t2, 0, none⟩)) ∧ W.cell? ⟨A.x, 1, none⟩ = some U.vE ∧ W.cell? ⟨A.x, 2, none⟩ = some U.vD) ∧ (W.cell? ⟨A2.x, 0, none⟩ = some (.pointer (some ⟨A2.t2, 0, none⟩)) ∧ W.cell? ⟨A2.x, 1, none⟩ = some U9.vE ∧ W.cell? ⟨A2.x, 2, none⟩ = some U9.vD)) := fun W hb =>
              ⟨⟨(HE1.out.below hb).wld.c0, (HE1.out.below hb).wld.c1, (HE1.out.below hb).wld.c2⟩, ⟨(HE2.out.below hb).wld.c0, (HE2.out.below hb).wld.c1, (HE2.out.below hb).wld.c2⟩⟩
            have h19 : ∀ W, Below w11.heap.size w11 W → Calls Tryz.prog 19 #[.pointer (some ⟨A.d, 0, none⟩), .pointer (some ⟨A2.d, 0, none⟩)] W fun e w' => e = .returned (.bool (b1 && (b2 && b3))) ∧ Below W.heap.size W w' := fun W hb => dsame_any (HE1.out.below hb).dsp (HE2.out.below hb).dsp HRI1.out.rlen2 HRI1.out.qlen hb1 hb2 hb3
            have h21 : ∀ W, Below w11.heap.size w11 W → Calls Tryz.prog 21 #[.pointer (some ⟨A.t2, 0, none⟩), .pointer (some ⟨A2.t2, 0, none⟩)] W fun e w' => e = .returned (.bool b1) ∧ Below W.heap.size W w' := fun W hb => by
              have := same_any A.t2 A.g2 A.c2 A2.t2 A2.g2 A2.c2 ps ps9 W (HE1.out.below hb).wld.T (HE2.out.below hb).wld.T
              rw [hb1] at this
              exact this
            have HI1 : Hid (∀ W, Below w11.heap.size w11 W → Calls Tryz.prog 23 #[U.vE] W (AllPost W (allR R))) := fun W hb => by
              have := ids_any U.vE (rowE R) W (HE1.out.below hb).wld.E (by have := HRI1.out.elen; omega)
              rw [hids1] at this
              exact this
            have HI2 : Hid (∀ W, Below w11.heap.size w11 W → Calls Tryz.prog 23 #[U9.vE] W (AllPost W (allR R9))) := fun W hb => by
              have := ids_any U9.vE (rowE R9) W (HE2.out.below hb).wld.E (by have := HRI9.out.elen; omega)
              rw [hids2] at this
              exact this
            have h22 : ∀ (W : World) (a b : Value), Own W a (allR R) → Own W b (allR R9) → Calls Tryz.prog 22 #[a, b] W fun e w' => e = .returned (.bool (decide (allR R = allR R9))) ∧ Below W.heap.size W w' := fun W a b ha hb => same20_any a b (allR R) (allR R9) W ha.ri hb.ri (by rw [← hids1, List.length_map]; have := HRI1.out.elen; omega)
            have h24 : ∀ W, Below w11.heap.size w11 W → Calls Tryz.prog 24 #[U.vD, U9.vD] W fun e w' => e = .returned (.bool b3) ∧ Below W.heap.size W w' := fun W hb => by
              have := samet_any U.vD U9.vD D D9 W (HE1.out.below hb).wld.D (HE2.out.below hb).wld.D (by have := HRI1.out.dlen; omega) (by have := HRI9.out.dlen; omega)
              rw [hb3] at this
              exact this
            clear hb1 hb2 hb3 hids1 hids2
            obtain ⟨⟨x0, x1, x2⟩, ⟨y0, y1, y2⟩⟩ := HCA.out w11 (Below.refl _ _)
            have hxl := HE1.out.wld.xl
            have hyl := HE2.out.wld.xl
            cases b1 with
            | false =>
              have H19 := Lib.hid h19
              have H21 := Lib.hid h21
              have hx0 := fun (x : BW w11) => (HCA.out x.val x.property).1.1
              have hx1 := fun (x : BW w11) => (HCA.out x.val x.property).2.1
              clear h19 h21 h22 h24 x0 x1 x2 y0 y1 y2
              go_wp2_with fail
              refine wp_region_bw (by kernel_rfl) (by kernel_rfl) ?_
              repeat (go_big_quiet_step (first | (go_at_call 19; exact Calls.bw (H19.out _ (BW.prop _))) | (go_at_call 21; exact Calls.bw (H21.out _ (BW.prop _)))))
              refine wpQuiet_nil ?_
              rintro w12 ⟨x12, hx12⟩
              have HB12 : Hid (Below w11.heap.size w11 w12) := by rw [hx12]; exact x12.property
              clear hx12 x12 hx0 hx1
              have HP12 := Lib.hid (HP11.out.below HB12.out)
              go_wp2_with fail
              go_roundw
              case rel => exact ⟨q + 1, by omega, by omega, by go_num, HP12.out⟩
              case measure => simp [intOf]; omega
            | true =>
              have hrw := HRW.out rfl
              clear HRW
              rw [← hrw] at h22
              cases b2 with
              | true =>
                have H19 := Lib.hid h19
                have H21 := Lib.hid h21
                have H22 := Lib.hid h22
                have H24 := Lib.hid h24
                clear h19 h21 h22 h24 hrw
                have HBT : Hid (∀ x : Bool, (true && (true && x)) = x) := fun x => rfl
                cases b3 with
                | false =>
                  go_wp2_with fail
                  first
                    | (go_region_held (fun w' => w'.cell? ⟨A.x, 0, none⟩ = some (.pointer (some ⟨A.t2, 0, none⟩)) ∧ w'.cell? ⟨A.x, 1, none⟩ = some U.vE ∧ w'.cell? ⟨A.x, 2, none⟩ = some U.vD ∧ w'.cell? ⟨A2.x, 0, none⟩ = some (.pointer (some ⟨A2.t2, 0, none⟩)) ∧ w'.cell? ⟨A2.x, 1, none⟩ = some U9.vE ∧ w'.cell? ⟨A2.x, 2, none⟩ = some U9.vD) (first | (exact ⟨x0, x1, x2, y0, y1, y2⟩) | (exact ⟨xf0, xf1, xf2, yf0, yf1, yf2⟩) | (exact ⟨xe0, xe1, xe2, ye0, ye1, ye2⟩) | (exact ⟨xd0, xd1, xd2, yd0, yd1, yd2⟩) | (exact ⟨xc0, xc1, xc2, yc0, yc1, yc2⟩) | (exact ⟨xb0, xb1, xb2, yb0, yb1, yb2⟩) | (exact ⟨xa0, xa1, xa2, ya0, ya1, ya2⟩))
                        (first
                          | (go_at_call 19; refine (H19.out _ (Below.refl _ _).drew).mono ?_; rintro e wa ⟨rfl, hba⟩; have HBa : Hid (Below w11.heap.size w11 wa) := (Below.refl _ _).drew.trans (hba.mono (Nat.le_refl _)); obtain ⟨⟨xa0, xa1, xa2⟩, ⟨ya0, ya1, ya2⟩⟩ := HCA.out wa HBa.out; clear hba)
                          | (go_at_call 21; refine (H21.out _ HBa.out).mono ?_; rintro e wb ⟨rfl, hbb⟩; have HBb : Hid (Below w11.heap.size w11 wb) := HBa.out.trans (hbb.mono HBa.out.size); obtain ⟨⟨xb0, xb1, xb2⟩, ⟨yb0, yb1, yb2⟩⟩ := HCA.out wb HBb.out; clear hbb)
                          | (go_at_call 23; (with_reducible refine (HI1.out _ HBb.out).mono ?_); rintro e wc ⟨uc, rfl, hoc, -, hbc⟩; have HBc : Hid (Below w11.heap.size w11 wc) := HBb.out.trans (hbc.mono HBb.out.size); have HOC := Lib.hid hoc; obtain ⟨⟨xc0, xc1, xc2⟩, ⟨yc0, yc1, yc2⟩⟩ := HCA.out wc HBc.out; clear hbc hoc)
                          | (go_at_call 23; (with_reducible refine (HI2.out _ HBc.out).mono ?_); rintro e wd ⟨ud, rfl, hod, -, hbd⟩; have HBd : Hid (Below w11.heap.size w11 wd) := HBc.out.trans (hbd.mono HBc.out.size); have HOD := Lib.hid hod; have HOC2 := Lib.hid (HOC.out.keep (fun b hb => hbd.block b (HOC.out.lt b hb))); obtain ⟨⟨xd0, xd1, xd2⟩, ⟨yd0, yd1, yd2⟩⟩ := HCA.out wd HBd.out; clear hbd hod)
                          | (go_at_call 22; refine (H22.out wd uc ud HOC2.out HOD.out).mono ?_; rintro e we ⟨rfl, hbe⟩; have HBe : Hid (Below w11.heap.size w11 we) := HBd.out.trans (hbe.mono HBd.out.size); obtain ⟨⟨xe0, xe1, xe2⟩, ⟨ye0, ye1, ye2⟩⟩ := HCA.out we HBe.out; clear hbe)
                          | (go_at_call 24; refine (H24.out _ HBe.out).mono ?_; rintro e wf ⟨rfl, hbf⟩; have HBf : Hid (Below w11.heap.size w11 wf) := HBe.out.trans (hbf.mono HBe.out.size); obtain ⟨⟨xf0, xf1, xf2⟩, ⟨yf0, yf1, yf2⟩⟩ := HCA.out wf HBf.out; clear hbf)))
                    | fail
                  all_goals
                    have HB12 := HBf
                    have HP12 := Lib.hid (HP11.out.below HB12.out)
                    go_wp2_with fail
                    go_roundw
                    case rel => exact ⟨q + 1, by omega, by omega, by go_num, HP12.out⟩
                    case measure => simp [intOf]; omega
                | true =>
                  go_wp2_with fail
                  first
                    | (go_region_held (fun w' => w'.cell? ⟨A.x, 0, none⟩ = some (.pointer (some ⟨A.t2, 0, none⟩)) ∧ w'.cell? ⟨A.x, 1, none⟩ = some U.vE ∧ w'.cell? ⟨A.x, 2, none⟩ = some U.vD ∧ w'.cell? ⟨A2.x, 0, none⟩ = some (.pointer (some ⟨A2.t2, 0, none⟩)) ∧ w'.cell? ⟨A2.x, 1, none⟩ = some U9.vE ∧ w'.cell? ⟨A2.x, 2, none⟩ = some U9.vD) (first | (exact ⟨x0, x1, x2, y0, y1, y2⟩) | (exact ⟨xf0, xf1, xf2, yf0, yf1, yf2⟩) | (exact ⟨xe0, xe1, xe2, ye0, ye1, ye2⟩) | (exact ⟨xd0, xd1, xd2, yd0, yd1, yd2⟩) | (exact ⟨xc0, xc1, xc2, yc0, yc1, yc2⟩) | (exact ⟨xb0, xb1, xb2, yb0, yb1, yb2⟩) | (exact ⟨xa0, xa1, xa2, ya0, ya1, ya2⟩))
                        (first
                          | (go_at_call 19; refine (H19.out _ (Below.refl _ _).drew).mono ?_; rintro e wa ⟨rfl, hba⟩; have HBa : Hid (Below w11.heap.size w11 wa) := (Below.refl _ _).drew.trans (hba.mono (Nat.le_refl _)); obtain ⟨⟨xa0, xa1, xa2⟩, ⟨ya0, ya1, ya2⟩⟩ := HCA.out wa HBa.out; clear hba)
                          | (go_at_call 21; refine (H21.out _ HBa.out).mono ?_; rintro e wb ⟨rfl, hbb⟩; have HBb : Hid (Below w11.heap.size w11 wb) := HBa.out.trans (hbb.mono HBa.out.size); obtain ⟨⟨xb0, xb1, xb2⟩, ⟨yb0, yb1, yb2⟩⟩ := HCA.out wb HBb.out; clear hbb)
                          | (go_at_call 23; (with_reducible refine (HI1.out _ HBb.out).mono ?_); rintro e wc ⟨uc, rfl, hoc, -, hbc⟩; have HBc : Hid (Below w11.heap.size w11 wc) := HBb.out.trans (hbc.mono HBb.out.size); have HOC := Lib.hid hoc; obtain ⟨⟨xc0, xc1, xc2⟩, ⟨yc0, yc1, yc2⟩⟩ := HCA.out wc HBc.out; clear hbc hoc)
                          | (go_at_call 23; (with_reducible refine (HI2.out _ HBc.out).mono ?_); rintro e wd ⟨ud, rfl, hod, -, hbd⟩; have HBd : Hid (Below w11.heap.size w11 wd) := HBc.out.trans (hbd.mono HBc.out.size); have HOD := Lib.hid hod; have HOC2 := Lib.hid (HOC.out.keep (fun b hb => hbd.block b (HOC.out.lt b hb))); obtain ⟨⟨xd0, xd1, xd2⟩, ⟨yd0, yd1, yd2⟩⟩ := HCA.out wd HBd.out; clear hbd hod)
                          | (go_at_call 22; refine (H22.out wd uc ud HOC2.out HOD.out).mono ?_; rintro e we ⟨rfl, hbe⟩; have HBe : Hid (Below w11.heap.size w11 we) := HBd.out.trans (hbe.mono HBd.out.size); obtain ⟨⟨xe0, xe1, xe2⟩, ⟨ye0, ye1, ye2⟩⟩ := HCA.out we HBe.out; clear hbe)
                          | (go_at_call 24; refine (H24.out _ HBe.out).mono ?_; rintro e wf ⟨rfl, hbf⟩; have HBf : Hid (Below w11.heap.size w11 wf) := HBe.out.trans (hbf.mono HBe.out.size); obtain ⟨⟨xf0, xf1, xf2⟩, ⟨yf0, yf1, yf2⟩⟩ := HCA.out wf HBf.out; clear hbf)))
                    | fail
                  all_goals
                    have HB12 := HBf
                    have HP12 := Lib.hid (HP11.out.below HB12.out)
                    go_wp2_with fail
                    go_roundw
                    case rel => exact ⟨q + 1, by omega, by omega, by go_num, HP12.out⟩
                    case measure => simp [intOf]; omega
              | false =>
                have H19 := Lib.hid h19
                have H21 := Lib.hid h21
                have H22 := Lib.hid h22
                have H24 := Lib.hid h24
                clear h19 h21 h22 h24 hrw
                go_wp2_with fail
                refine wp_region_held_drew (S := (fun w' => w'.cell? ⟨A.x, 0, none⟩ = some (.pointer (some ⟨A.t2, 0, none⟩)) ∧ w'.cell? ⟨A.x, 1, none⟩ = some U.vE ∧ w'.cell? ⟨A.x, 2, none⟩ = some U.vD ∧ w'.cell? ⟨A2.x, 0, none⟩ = some (.pointer (some ⟨A2.t2, 0, none⟩)) ∧ w'.cell? ⟨A2.x, 1, none⟩ = some U9.vE ∧ w'.cell? ⟨A2.x, 2, none⟩ = some U9.vD)) (by kernel_rfl) (by exact ⟨x0, x1, x2, y0, y1, y2⟩) (fun hHeld => ?_)
                refine wpAnyH_take (i := 0) (oi := ?oi0q) (v := ?vv0q) ?hi0q (by kernel_rfl) (by kernel_rfl) (by kernel_rfl) ?hQ0q ?hy0q (by assumption) ?rest0q
                case hi0q => (simp only [List.getElem?_toArray, List.getElem?_cons_zero, List.getElem?_cons_succ]; exact rfl)
                case hQ0q => exact fun _ _ _ h => h
                case hy0q => (refine Or.inl ⟨by rfl, ?_⟩; intro w' hSw; (try dsimp only at hSw); go_simp; (try with_reducible rfl))
                simp only [Act.put, List.setIfInBounds_toArray, List.set_cons_zero, List.set_cons_succ]
                refine wpAnyH_take (i := 1) (oi := ?oi1q) (v := ?vv1q) ?hi1q (by kernel_rfl) (by kernel_rfl) (by kernel_rfl) ?hQ1q ?hy1q (by assumption) ?rest1q
                case hi1q => (simp only [List.getElem?_toArray, List.getElem?_cons_zero, List.getElem?_cons_succ]; exact rfl)
                case hQ1q => exact fun _ _ _ h => h
                case hy1q => (refine Or.inl ⟨by rfl, ?_⟩; intro w' hSw; (try dsimp only at hSw); go_simp; (try with_reducible rfl))
                simp only [Act.put, List.setIfInBounds_toArray, List.set_cons_zero, List.set_cons_succ]
                refine wpAnyH_take (i := 3) (oi := ?oi3q) (v := ?vv3q) ?hi3q (by kernel_rfl) (by kernel_rfl) (by kernel_rfl) ?hQ3q ?hy3q (by assumption) ?rest3q
                case hi3q => (simp only [List.getElem?_toArray, List.getElem?_cons_zero, List.getElem?_cons_succ]; exact rfl)
                case hQ3q => exact fun _ _ _ h => h
                case hy3q => (refine Or.inl ⟨by rfl, ?_⟩; intro w' hSw; (try dsimp only at hSw); go_simp; (try with_reducible rfl))
                simp only [Act.put, List.setIfInBounds_toArray, List.set_cons_zero, List.set_cons_succ]
                refine wpAnyH_take (i := 4) (oi := ?oi4q) (v := ?vv4q) ?hi4q (by kernel_rfl) (by kernel_rfl) (by kernel_rfl) ?hQ4q ?hy4q (by assumption) ?rest4q
                case hi4q => (simp only [List.getElem?_toArray, List.getElem?_cons_zero, List.getElem?_cons_succ]; exact rfl)
                case hQ4q => exact fun _ _ _ h => h
                case hy4q => (refine Or.inl ⟨by rfl, ?_⟩; intro w' hSw; (try dsimp only at hSw); go_simp; (try with_reducible rfl))
                simp only [Act.put, List.setIfInBounds_toArray, List.set_cons_zero, List.set_cons_succ]
                refine wpAnyH_take (i := 5) (oi := ?oi5q) (v := ?vv5q) ?hi5q (by kernel_rfl) (by kernel_rfl) (by kernel_rfl) ?hQ5q ?hy5q (by assumption) ?rest5q
                case hi5q => (simp only [List.getElem?_toArray, List.getElem?_cons_zero, List.getElem?_cons_succ]; exact rfl)
                case hQ5q => exact fun _ _ _ h => h
                case hy5q => (refine Or.inl ⟨by rfl, ?_⟩; intro w' hSw; (try dsimp only at hSw); go_simp; (try with_reducible rfl))
                simp only [Act.put, List.setIfInBounds_toArray, List.set_cons_zero, List.set_cons_succ]
                refine wpAnyH_take (i := 6) (oi := ?oi6q) (v := ?vv6q) ?hi6q (by kernel_rfl) (by kernel_rfl) (by kernel_rfl) ?hQ6q ?hy6q (by assumption) ?rest6q
                case hi6q => (simp only [List.getElem?_toArray, List.getElem?_cons_zero, List.getElem?_cons_succ]; exact rfl)
                case hQ6q => exact fun _ _ _ h => h
                case hy6q => (refine Or.inl ⟨by rfl, ?_⟩; intro w' hSw; (try dsimp only at hSw); go_simp; (try with_reducible rfl))
                simp only [Act.put, List.setIfInBounds_toArray, List.set_cons_zero, List.set_cons_succ]
                refine wpAnyH_take (i := 7) (oi := ?oi7q) (v := ?vv7q) ?hi7q (by kernel_rfl) (by kernel_rfl) (by kernel_rfl) ?hQ7q ?hy7q (by assumption) ?rest7q
                case hi7q => (simp only [List.getElem?_toArray, List.getElem?_cons_zero, List.getElem?_cons_succ]; exact rfl)
                case hQ7q => exact fun _ _ _ h => h
                case hy7q => (refine Or.inl ⟨by rfl, ?_⟩; intro w' hSw; (try dsimp only at hSw); go_simp; (try with_reducible rfl))
                simp only [Act.put, List.setIfInBounds_toArray, List.set_cons_zero, List.set_cons_succ]
                refine wpAnyH_take (i := 8) (oi := ?oi8q) (v := ?vv8q) ?hi8q (by kernel_rfl) (by kernel_rfl) (by kernel_rfl) ?hQ8q ?hy8q (by assumption) ?rest8q
                case hi8q => (simp only [List.getElem?_toArray, List.getElem?_cons_zero, List.getElem?_cons_succ]; exact rfl)
                case hQ8q => exact fun _ _ _ h => h
                case hy8q => (refine Or.inl ⟨by rfl, ?_⟩; intro w' hSw; (try dsimp only at hSw); go_simp; (try with_reducible rfl))
                simp only [Act.put, List.setIfInBounds_toArray, List.set_cons_zero, List.set_cons_succ]
                refine wpAnyH_take (i := 9) (oi := ?oi9q) (v := ?vv9q) ?hi9q (by kernel_rfl) (by kernel_rfl) (by kernel_rfl) ?hQ9q ?hy9q (by assumption) ?rest9q
                case hi9q => (simp only [List.getElem?_toArray, List.getElem?_cons_zero, List.getElem?_cons_succ]; exact rfl)
                case hQ9q => exact fun _ _ _ h => h
                case hy9q => (refine Or.inl ⟨by rfl, ?_⟩; intro w' hSw; (try dsimp only at hSw); go_simp; (try with_reducible rfl))
                simp only [Act.put, List.setIfInBounds_toArray, List.set_cons_zero, List.set_cons_succ]
                refine wpAnyH_take (i := 10) (oi := ?oi10q) (v := ?vv10q) ?hi10q (by kernel_rfl) (by kernel_rfl) (by kernel_rfl) ?hQ10q ?hy10q (by assumption) ?rest10q
                case hi10q => (simp only [List.getElem?_toArray, List.getElem?_cons_zero, List.getElem?_cons_succ]; exact rfl)
                case hQ10q => exact fun _ _ _ h => h
                case hy10q => (refine Or.inl ⟨by rfl, ?_⟩; intro w' hSw; (try dsimp only at hSw); go_simp; (try with_reducible rfl))
                simp only [Act.put, List.setIfInBounds_toArray, List.set_cons_zero, List.set_cons_succ]
                refine wpAnyH_ready (rs := [2]) (by kernel_rfl) (by simp) ?_
                refine AllReadyH.cons rfl (fun K hK => ?_) AllReadyH.nil
                go_simp
                go_wp2_with (go_at_call 19; refine (H19.out _ (Below.refl _ _).drew).mono ?_; rintro e wa ⟨rfl, hba⟩; have HBa : Hid (Below w11.heap.size w11 wa) := (Below.refl _ _).drew.trans (hba.mono (Nat.le_refl _)); obtain ⟨⟨xa0, xa1, xa2⟩, ⟨ya0, ya1, ya2⟩⟩ := HCA.out wa HBa.out; clear hba)
                refine hK.out _ _ (by exact ⟨xa0, xa1, xa2, ya0, ya1, ya2⟩) (fun hHeld2 => ?_)
                clear hK K hHeld
                have hHeld := hHeld2
                clear hHeld2
                refine wpAnyH_ready (rs := [11]) (by kernel_rfl) (by simp) ?_
                refine AllReadyH.cons rfl (fun K hK => ?_) AllReadyH.nil
                go_simp
                go_wp2_with (go_at_call 21; refine (H21.out _ HBa.out).mono ?_; rintro e wb ⟨rfl, hbb⟩; have HBb : Hid (Below w11.heap.size w11 wb) := HBa.out.trans (hbb.mono HBa.out.size); obtain ⟨⟨xb0, xb1, xb2⟩, ⟨yb0, yb1, yb2⟩⟩ := HCA.out wb HBb.out; clear hbb)
                refine hK.out _ _ (by exact ⟨xb0, xb1, xb2, yb0, yb1, yb2⟩) (fun hHeld2 => ?_)
                clear hK K hHeld
                have hHeld := hHeld2
                clear hHeld2
                refine wpAnyH_take (i := 12) (oi := ?oi12q) (v := ?vv12q) ?hi12q (by kernel_rfl) (by kernel_rfl) (by kernel_rfl) ?hQ12q ?hy12q (by assumption) ?rest12q
                case hi12q => (simp only [List.getElem?_toArray, List.getElem?_cons_zero, List.getElem?_cons_succ]; exact rfl)
                case hQ12q => exact fun _ _ _ h => h
                case hy12q => (refine Or.inl ⟨by rfl, ?_⟩; intro w' hSw; (try dsimp only at hSw); go_simp; (try with_reducible rfl))
                simp only [Act.put, List.setIfInBounds_toArray, List.set_cons_zero, List.set_cons_succ]
                refine wpAnyH_take (i := 13) (oi := ?oi13q) (v := ?vv13q) ?hi13q (by kernel_rfl) (by kernel_rfl) (by kernel_rfl) ?hQ13q ?hy13q (by assumption) ?rest13q
                case hi13q => (simp only [List.getElem?_toArray, List.getElem?_cons_zero, List.getElem?_cons_succ]; exact rfl)
                case hQ13q => exact fun _ _ _ h => h
                case hy13q => (refine Or.inl ⟨by rfl, ?_⟩; intro w' hSw; (try dsimp only at hSw); go_simp; (try with_reducible rfl))
                simp only [Act.put, List.setIfInBounds_toArray, List.set_cons_zero, List.set_cons_succ]
                refine wpAnyH_take (i := 14) (oi := ?oi14q) (v := ?vv14q) ?hi14q (by kernel_rfl) (by kernel_rfl) (by kernel_rfl) ?hQ14q ?hy14q (by assumption) ?rest14q
                case hi14q => (simp only [List.getElem?_toArray, List.getElem?_cons_zero, List.getElem?_cons_succ]; exact rfl)
                case hQ14q => exact fun _ _ _ h => h
                case hy14q => (refine Or.inl ⟨by rfl, ?_⟩; intro w' hSw; (try dsimp only at hSw); go_simp; (try with_reducible rfl))
                simp only [Act.put, List.setIfInBounds_toArray, List.set_cons_zero, List.set_cons_succ]
                refine wpAnyH_take (i := 15) (oi := ?oi15q) (v := ?vv15q) ?hi15q (by kernel_rfl) (by kernel_rfl) (by kernel_rfl) ?hQ15q ?hy15q (by assumption) ?rest15q
                case hi15q => (simp only [List.getElem?_toArray, List.getElem?_cons_zero, List.getElem?_cons_succ]; exact rfl)
                case hQ15q => exact fun _ _ _ h => h
                case hy15q => (refine Or.inl ⟨by rfl, ?_⟩; intro w' hSw; (try dsimp only at hSw); go_simp; (try with_reducible rfl))
                simp only [Act.put, List.setIfInBounds_toArray, List.set_cons_zero, List.set_cons_succ]
                refine wpAnyH_take (i := 16) (oi := ?oi16q) (v := ?vv16q) ?hi16q (by kernel_rfl) (by kernel_rfl) (by kernel_rfl) ?hQ16q ?hy16q (by assumption) ?rest16q
                case hi16q => (simp only [List.getElem?_toArray, List.getElem?_cons_zero, List.getElem?_cons_succ]; exact rfl)
                case hQ16q => exact fun _ _ _ h => h
                case hy16q => (refine Or.inl ⟨by rfl, ?_⟩; intro w' hSw; (try dsimp only at hSw); go_simp; (try with_reducible rfl))
                simp only [Act.put, List.setIfInBounds_toArray, List.set_cons_zero, List.set_cons_succ]
                refine wpAnyH_take (i := 18) (oi := ?oi18q) (v := ?vv18q) ?hi18q (by kernel_rfl) (by kernel_rfl) (by kernel_rfl) ?hQ18q ?hy18q (by assumption) ?rest18q
                case hi18q => (simp only [List.getElem?_toArray, List.getElem?_cons_zero, List.getElem?_cons_succ]; exact rfl)
                case hQ18q => exact fun _ _ _ h => h
                case hy18q => (refine Or.inl ⟨by rfl, ?_⟩; intro w' hSw; (try dsimp only at hSw); go_simp; (try with_reducible rfl))
                simp only [Act.put, List.setIfInBounds_toArray, List.set_cons_zero, List.set_cons_succ]
                refine wpAnyH_take (i := 19) (oi := ?oi19q) (v := ?vv19q) ?hi19q (by kernel_rfl) (by kernel_rfl) (by kernel_rfl) ?hQ19q ?hy19q (by assumption) ?rest19q
                case hi19q => (simp only [List.getElem?_toArray, List.getElem?_cons_zero, List.getElem?_cons_succ]; exact rfl)
                case hQ19q => exact fun _ _ _ h => h
                case hy19q => (refine Or.inl ⟨by rfl, ?_⟩; intro w' hSw; (try dsimp only at hSw); go_simp; (try with_reducible rfl))
                simp only [Act.put, List.setIfInBounds_toArray, List.set_cons_zero, List.set_cons_succ]
                refine wpAnyH_take (i := 20) (oi := ?oi20q) (v := ?vv20q) ?hi20q (by kernel_rfl) (by kernel_rfl) (by kernel_rfl) ?hQ20q ?hy20q (by assumption) ?rest20q
                case hi20q => (simp only [List.getElem?_toArray, List.getElem?_cons_zero, List.getElem?_cons_succ]; exact rfl)
                case hQ20q => exact fun _ _ _ h => h
                case hy20q => (refine Or.inl ⟨by rfl, ?_⟩; intro w' hSw; (try dsimp only at hSw); go_simp; (try with_reducible rfl))
                simp only [Act.put, List.setIfInBounds_toArray, List.set_cons_zero, List.set_cons_succ]
                refine wpAnyH_take (i := 21) (oi := ?oi21q) (v := ?vv21q) ?hi21q (by kernel_rfl) (by kernel_rfl) (by kernel_rfl) ?hQ21q ?hy21q (by assumption) ?rest21q
                case hi21q => (simp only [List.getElem?_toArray, List.getElem?_cons_zero, List.getElem?_cons_succ]; exact rfl)
                case hQ21q => exact fun _ _ _ h => h
                case hy21q => (refine Or.inl ⟨by rfl, ?_⟩; intro w' hSw; (try dsimp only at hSw); go_simp; (try with_reducible rfl))
                simp only [Act.put, List.setIfInBounds_toArray, List.set_cons_zero, List.set_cons_succ]
                refine wpAnyH_ready (rs := [17]) (by kernel_rfl) (by simp) ?_
                refine AllReadyH.cons rfl (fun K hK => ?_) AllReadyH.nil
                go_simp
                go_wp2_with (go_at_call 23; (with_reducible refine (HI1.out _ HBb.out).mono ?_); rintro e wc ⟨uc, rfl, hoc, -, hbc⟩; have HBc : Hid (Below w11.heap.size w11 wc) := HBb.out.trans (hbc.mono HBb.out.size); have HOC := Lib.hid hoc; obtain ⟨⟨xc0, xc1, xc2⟩, ⟨yc0, yc1, yc2⟩⟩ := HCA.out wc HBc.out; clear hbc hoc)
                refine hK.out _ _ (by exact ⟨xc0, xc1, xc2, yc0, yc1, yc2⟩) (fun hHeld2 => ?_)
                clear hK K hHeld
                have hHeld := hHeld2
                clear hHeld2
                refine wpAnyH_ready (rs := [22]) (by kernel_rfl) (by simp) ?_
                refine AllReadyH.cons rfl (fun K hK => ?_) AllReadyH.nil
                go_simp
                go_wp2_with (go_at_call 23; (with_reducible refine (HI2.out _ HBc.out).mono ?_); rintro e wd ⟨ud, rfl, hod, -, hbd⟩; have HBd : Hid (Below w11.heap.size w11 wd) := HBc.out.trans (hbd.mono HBc.out.size); have HOD := Lib.hid hod; have HOC2 := Lib.hid (HOC.out.keep (fun b hb => hbd.block b (HOC.out.lt b hb))); obtain ⟨⟨xd0, xd1, xd2⟩, ⟨yd0, yd1, yd2⟩⟩ := HCA.out wd HBd.out; clear hbd hod)
                refine hK.out _ _ (by exact ⟨xd0, xd1, xd2, yd0, yd1, yd2⟩) (fun hHeld2 => ?_)
                clear hK K hHeld
                have hHeld := hHeld2
                clear hHeld2
                refine wpAnyH_ready (rs := [23]) (by kernel_rfl) (by simp) ?_
                refine AllReadyH.cons rfl (fun K hK => ?_) AllReadyH.nil
                go_simp
                go_wp2_with (go_at_call 22; refine (H22.out wd uc ud HOC2.out HOD.out).mono ?_; rintro e we ⟨rfl, hbe⟩; have HBe : Hid (Below w11.heap.size w11 we) := HBd.out.trans (hbe.mono HBd.out.size); obtain ⟨⟨xe0, xe1, xe2⟩, ⟨ye0, ye1, ye2⟩⟩ := HCA.out we HBe.out; clear hbe)
                refine hK.out _ _ (by exact ⟨xe0, xe1, xe2, ye0, ye1, ye2⟩) (fun hHeld2 => ?_)
                clear hK K hHeld
                have hHeld := hHeld2
                clear hHeld2
                refine wpAnyH_take (i := 24) (oi := ?oi24q) (v := ?vv24q) ?hi24q (by kernel_rfl) (by kernel_rfl) (by kernel_rfl) ?hQ24q ?hy24q (by assumption) ?rest24q
                case hi24q => (simp only [List.getElem?_toArray, List.getElem?_cons_zero, List.getElem?_cons_succ]; exact rfl)
                case hQ24q => exact fun _ _ _ h => h
                case hy24q => (refine Or.inl ⟨by rfl, ?_⟩; intro w' hSw; (try dsimp only at hSw); go_simp; (try with_reducible rfl))
                simp only [Act.put, List.setIfInBounds_toArray, List.set_cons_zero, List.set_cons_succ]
                refine wpAnyH_take (i := 25) (oi := ?oi25q) (v := ?vv25q) ?hi25q (by kernel_rfl) (by kernel_rfl) (by kernel_rfl) ?hQ25q ?hy25q (by assumption) ?rest25q
                case hi25q => (simp only [List.getElem?_toArray, List.getElem?_cons_zero, List.getElem?_cons_succ]; exact rfl)
                case hQ25q => exact fun _ _ _ h => h
                case hy25q => (refine Or.inl ⟨by rfl, ?_⟩; intro w' hSw; (try dsimp only at hSw); go_simp; (try with_reducible rfl))
                simp only [Act.put, List.setIfInBounds_toArray, List.set_cons_zero, List.set_cons_succ]
                refine wpAnyH_take (i := 26) (oi := ?oi26q) (v := undef) ?hi26q (by kernel_rfl) (by kernel_rfl) (by kernel_rfl) ?hQ26q ?hy26q (by assumption) ?rest26q
                case hi26q => (simp only [List.getElem?_toArray, List.getElem?_cons_zero, List.getElem?_cons_succ]; exact rfl)
                case hQ26q => exact fun _ _ _ h => h
                case hy26q => exact Or.inr ⟨by rfl, rfl⟩
                simp only [Act.put, List.setIfInBounds_toArray, List.set_cons_zero, List.set_cons_succ]
                refine wpAnyH_take (i := 27) (oi := ?oi27q) (v := undef) ?hi27q (by kernel_rfl) (by kernel_rfl) (by kernel_rfl) ?hQ27q ?hy27q (by assumption) ?rest27q
                case hi27q => (simp only [List.getElem?_toArray, List.getElem?_cons_zero, List.getElem?_cons_succ]; exact rfl)
                case hQ27q => exact fun _ _ _ h => h
                case hy27q => exact Or.inr ⟨by rfl, rfl⟩
                simp only [Act.put, List.setIfInBounds_toArray, List.set_cons_zero, List.set_cons_succ]
                refine wpAnyH_take (i := 28) (oi := ?oi28q) (v := undef) ?hi28q (by kernel_rfl) (by kernel_rfl) (by kernel_rfl) ?hQ28q ?hy28q (by assumption) ?rest28q
                case hi28q => (simp only [List.getElem?_toArray, List.getElem?_cons_zero, List.getElem?_cons_succ]; exact rfl)
                case hQ28q => exact fun _ _ _ h => h
                case hy28q => exact Or.inr ⟨by rfl, rfl⟩
                simp only [Act.put, List.setIfInBounds_toArray, List.set_cons_zero, List.set_cons_succ]
                refine wpAnyH_take (i := 29) (oi := ?oi29q) (v := undef) ?hi29q (by kernel_rfl) (by kernel_rfl) (by kernel_rfl) ?hQ29q ?hy29q (by assumption) ?rest29q
                case hi29q => (simp only [List.getElem?_toArray, List.getElem?_cons_zero, List.getElem?_cons_succ]; exact rfl)
                case hQ29q => exact fun _ _ _ h => h
                case hy29q => exact Or.inr ⟨by rfl, rfl⟩
                simp only [Act.put, List.setIfInBounds_toArray, List.set_cons_zero, List.set_cons_succ]
                refine wpAnyH_take (i := 30) (oi := ?oi30q) (v := undef) ?hi30q (by kernel_rfl) (by kernel_rfl) (by kernel_rfl) ?hQ30q ?hy30q (by assumption) ?rest30q
                case hi30q => (simp only [List.getElem?_toArray, List.getElem?_cons_zero, List.getElem?_cons_succ]; exact rfl)
                case hQ30q => exact fun _ _ _ h => h
                case hy30q => exact Or.inr ⟨by rfl, rfl⟩
                simp only [Act.put, List.setIfInBounds_toArray, List.set_cons_zero, List.set_cons_succ]
                refine wpAnyH_take (i := 31) (oi := ?oi31q) (v := undef) ?hi31q (by kernel_rfl) (by kernel_rfl) (by kernel_rfl) ?hQ31q ?hy31q (by assumption) ?rest31q
                case hi31q => (simp only [List.getElem?_toArray, List.getElem?_cons_zero, List.getElem?_cons_succ]; exact rfl)
                case hQ31q => exact fun _ _ _ h => h
                case hy31q => exact Or.inr ⟨by rfl, rfl⟩
                simp only [Act.put, List.setIfInBounds_toArray, List.set_cons_zero, List.set_cons_succ]
                refine wpAnyH_take (i := 32) (oi := ?oi32q) (v := undef) ?hi32q (by kernel_rfl) (by kernel_rfl) (by kernel_rfl) ?hQ32q ?hy32q (by assumption) ?rest32q
                case hi32q => (simp only [List.getElem?_toArray, List.getElem?_cons_zero, List.getElem?_cons_succ]; exact rfl)
                case hQ32q => exact fun _ _ _ h => h
                case hy32q => exact Or.inr ⟨by rfl, rfl⟩
                simp only [Act.put, List.setIfInBounds_toArray, List.set_cons_zero, List.set_cons_succ]
                refine wpAnyH_take (i := 33) (oi := ?oi33q) (v := undef) ?hi33q (by kernel_rfl) (by kernel_rfl) (by kernel_rfl) ?hQ33q ?hy33q (by assumption) ?rest33q
                case hi33q => (simp only [List.getElem?_toArray, List.getElem?_cons_zero, List.getElem?_cons_succ]; exact rfl)
                case hQ33q => exact fun _ _ _ h => h
                case hy33q => exact Or.inr ⟨by rfl, rfl⟩
                simp only [Act.put, List.setIfInBounds_toArray, List.set_cons_zero, List.set_cons_succ]
                refine wpAnyH_take (i := 34) (oi := ?oi34q) (v := undef) ?hi34q (by kernel_rfl) (by kernel_rfl) (by kernel_rfl) ?hQ34q ?hy34q (by assumption) ?rest34q
                case hi34q => (simp only [List.getElem?_toArray, List.getElem?_cons_zero, List.getElem?_cons_succ]; exact rfl)
                case hQ34q => exact fun _ _ _ h => h
                case hy34q => exact Or.inr ⟨by rfl, rfl⟩
                simp only [Act.put, List.setIfInBounds_toArray, List.set_cons_zero, List.set_cons_succ]
                refine wpAnyH_take (i := 35) (oi := ?oi35q) (v := ?vv35q) ?hi35q (by kernel_rfl) (by kernel_rfl) (by kernel_rfl) ?hQ35q ?hy35q (by assumption) ?rest35q
                case hi35q => (simp only [List.getElem?_toArray, List.getElem?_cons_zero, List.getElem?_cons_succ]; exact rfl)
                case hQ35q => exact fun _ _ _ h => h
                case hy35q => (refine Or.inl ⟨by rfl, ?_⟩; intro w' hSw; (try dsimp only at hSw); go_simp; (try with_reducible rfl))
                simp only [Act.put, List.setIfInBounds_toArray, List.set_cons_zero, List.set_cons_succ]
                refine wpAnyH_take (i := 36) (oi := ?oi36q) (v := ?vv36q) ?hi36q (by kernel_rfl) (by kernel_rfl) (by kernel_rfl) ?hQ36q ?hy36q (by assumption) ?rest36q
                case hi36q => (simp only [List.getElem?_toArray, List.getElem?_cons_zero, List.getElem?_cons_succ]; exact rfl)
                case hQ36q => exact fun _ _ _ h => h
                case hy36q => (refine Or.inl ⟨by rfl, ?_⟩; intro w' hSw; (try dsimp only at hSw); go_simp; (try with_reducible rfl))
                simp only [Act.put, List.setIfInBounds_toArray, List.set_cons_zero, List.set_cons_succ]
                refine wpAnyH_done (by kernel_rfl) ?_ _
                have HB12 := HBe
                have HP12 := Lib.hid (HP11.out.below HB12.out)
                go_wp2_with fail
                go_roundw
                case rel => exact ⟨q + 1, by omega, by omega, by go_num, HP12.out⟩
                case measure => simp [intOf]; omega
          · by_cases hq3 : q < n3
            · have hq3' : (q : Int) < (n3 : Int) := by omega
              have hq4 : ¬ (q : Int) < 40 := by omega
              have hq4b : decide ((q : Int) < 40) = false := by simpa using hq4
              clear hqt
              go_wp2_with fail
              go_ret
              exact ⟨rfl, HBEL.out⟩
            · have hq3' : ¬ (q : Int) < (n3 : Int) := by omega
              have hq3b : decide ((q : Int) < (n3 : Int)) = false := by simpa using hq3'
              clear hqt
              go_wp2_with fail
              go_ret
              exact ⟨rfl, HBEL.out⟩

end Go.Proofs.YtgnjenmicojgnaaGreat
