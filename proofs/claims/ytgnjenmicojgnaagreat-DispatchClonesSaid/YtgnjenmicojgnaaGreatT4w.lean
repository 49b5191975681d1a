/-
  What priority and advance of a World do.
-/
import Derived.Test.YtgnjenmicojgnaaGreatS3w
import Derived.Test.YtgnjenmicojgnaaGreatT2w
import Derived.Test.YtgnjenmicojgnaaGreatT3w
namespace Go.Proofs.YtgnjenmicojgnaaGreat
set_option linter.unusedVariables false
set_option linter.unusedSimpArgs false
open Go.RowKit

set_option maxRecDepth 100000 in
set_option maxHeartbeats 4000000 in
theorem priority_any {w : World} {x t g c : Nat} {vE vD : Value} {ps : List Pr} {E D : List (Int × Int)} {now : Int} (b : Bool) (h : Wld w x t g c vE vD ps E D now) (i was : Int) (hE : E.length ≤ 100) :
    Calls Tryz.prog 41 #[.pointer (some ⟨x, 0, none⟩), .int .i64 i, .int .i64 was, .bool b] w (WPost w x t g c vE vD ps (prE b (lookP ps i) i was E) D now (.tuple #[])) := by
  have c0 := h.c0
  have hxl := h.xl
  have H := Lib.hid h
  obtain ⟨p, hp⟩ : ∃ p, lookP ps i = p := ⟨_, rfl⟩
  obtain ⟨st, hst⟩ : ∃ st, stateR p = st := ⟨_, rfl⟩
  obtain ⟨cu, hcu⟩ : ∃ cu : Int, curR p = cu := ⟨_, rfl⟩
  obtain ⟨E', hE'⟩ : ∃ E', prE b p i was E = E' := ⟨_, rfl⟩
  rw [hp, hE']
  unfold prE at hE'
  rw [hst, hcu] at hE'
  rw [← hp] at hst hcu
  have HST := Lib.hid hst
  have HCU := Lib.hid hcu
  have HE' := Lib.hid hE'
  clear h hp hst hcu hE'
  by_cases hst1 : st = 1
  · have hstb : (st != 1) = false := by simp [hst1]
    by_cases hcw : cu = was
    · have hcb : (cu == was) = true := by simpa using hcw
      have HE2 : Hid (E = E') := by
        have := HE'.out
        rw [if_neg (by rintro ⟨_, h⟩; exact h hcw)] at this
        exact this
      subst hst1
      clear hcw
      go_enter Tryz.func41, Tryz.ntmps41
      go_wp2_with fail
      refine (cur_is i HCU.out H.out.T).mono ?_
      rintro e w1 ⟨rfl, hb1⟩
      have H1 := Lib.hid (H.out.below hb1)
      have HB1 := Lib.hid hb1
      have d0 := H1.out.c0
      have hxl1 := H1.out.xl
      clear hb1 c0
      go_wp2_with fail
      refine (state_is i HST.out H1.out.T).mono ?_
      rintro e w2 ⟨rfl, hb2⟩
      have HP : Hid (WPost w x t g c vE vD ps E' D now (.tuple #[]) (.returned (.tuple #[])) w2) := by
        rw [← HE2.out]
        exact WPost.after (HB1.out.trans (hb2.mono HB1.out.size)) (WPost.id (H1.out.below hb2))
      clear hb2 d0
      go_wp2_with fail
      go_end0
      exact HP.out
    · have hcb : (cu == was) = false := by simpa using hcw
      have HE2 : Hid (insW (fun y => if b = true then decide (cu < y) else decide (cu ≤ y)) (rmQ E i) (i, cu) = E') := by
        have := HE'.out
        rw [if_pos ⟨hst1, hcw⟩] at this
        exact this
      subst hst1
      clear hcw
      go_enter Tryz.func41, Tryz.ntmps41
      go_wp2_with fail
      refine (cur_is i HCU.out H.out.T).mono ?_
      rintro e w1 ⟨rfl, hb1⟩
      have H1 := Lib.hid (H.out.below hb1)
      have HB1 := Lib.hid hb1
      have d0 := H1.out.c0
      have hxl1 := H1.out.xl
      clear hb1 c0
      go_wp2_with fail
      refine (state_is i HST.out H1.out.T).mono ?_
      rintro e w2 ⟨rfl, hb2⟩
      have H2 := Lib.hid (H1.out.below hb2)
      have HB2 : Hid (Below w.heap.size w w2) := HB1.out.trans (hb2.mono HB1.out.size)
      have e1 := H2.out.c1
      have hxl2 := H2.out.xl
      clear hb2 d0
      cases b with
      | true =>
        have he3 : insW (fun y => decide (cu < y)) (rmQ E i) (i, cu) = E' := by have := HE2.out; simpa using this
        have HE3 := Lib.hid he3
        clear he3
        go_wp2_with fail
        refine (ahead_any vE E i cu w2 H2.out.E hE).mono ?_
        rintro e w4 ⟨u4, rfl, ho4, hf4, hb4⟩
        rw [HE3.out] at ho4
        obtain ⟨ua4, un4, uc4, rfl⟩ : ∃ a n c, u4 = .slice a n c := by obtain ⟨a, c, h⟩ := ho4.sl; exact ⟨a, _, c, h⟩
        have hs2 := HB2.out.size
        obtain ⟨hw5, hk5⟩ := H2.out.setE hb4 ho4 hf4
        have HP : Hid (WPost w x t g c vE vD ps E' D now (.tuple #[]) (.returned (.tuple #[])) (w4.setCell ⟨x, 1, none⟩ (.slice ua4 un4 uc4))) := WPost.after HB2.out ⟨rfl, _, _, hw5, hk5, fun b hb => .inr (hf4 b hb), fun b hb => .inl hb⟩
        have f1 := (H2.out.below hb4).c1
        have ffz := (H2.out.below hb4).fz 1
        have fxl := (H2.out.below hb4).xl
        clear ho4 hf4 hb4 hw5 hk5 e1
        go_wp2_with fail
        go_end0
        exact HP.out
      | false =>
        have he3 : insW (fun y => decide (cu ≤ y)) (rmQ E i) (i, cu) = E' := by have := HE2.out; simpa using this
        have HE3 := Lib.hid he3
        clear he3
        go_wp2_with fail
        refine (behind_any vE E i cu w2 H2.out.E hE).mono ?_
        rintro e w4 ⟨u4, rfl, ho4, hf4, hb4⟩
        rw [HE3.out] at ho4
        obtain ⟨ua4, un4, uc4, rfl⟩ : ∃ a n c, u4 = .slice a n c := by obtain ⟨a, c, h⟩ := ho4.sl; exact ⟨a, _, c, h⟩
        have hs2 := HB2.out.size
        obtain ⟨hw5, hk5⟩ := H2.out.setE hb4 ho4 hf4
        have HP : Hid (WPost w x t g c vE vD ps E' D now (.tuple #[]) (.returned (.tuple #[])) (w4.setCell ⟨x, 1, none⟩ (.slice ua4 un4 uc4))) := WPost.after HB2.out ⟨rfl, _, _, hw5, hk5, fun b hb => .inr (hf4 b hb), fun b hb => .inl hb⟩
        have f1 := (H2.out.below hb4).c1
        have ffz := (H2.out.below hb4).fz 1
        have fxl := (H2.out.below hb4).xl
        clear ho4 hf4 hb4 hw5 hk5 e1
        go_wp2_with fail
        go_end0
        exact HP.out
  · have hstb : (st != 1) = true := by simpa using hst1
    have HE2 : Hid (E = E') := by
      have := HE'.out
      rw [if_neg (by rintro ⟨h, _⟩; exact hst1 h)] at this
      exact this
    go_enter Tryz.func41, Tryz.ntmps41
    go_wp2_with fail
    refine (cur_is i HCU.out H.out.T).mono ?_
    rintro e w1 ⟨rfl, hb1⟩
    have H1 := Lib.hid (H.out.below hb1)
    have HB1 := Lib.hid hb1
    have d0 := H1.out.c0
    have hxl1 := H1.out.xl
    clear hb1 c0
    go_wp2_with fail
    refine (state_is i HST.out H1.out.T).mono ?_
    rintro e w2 ⟨rfl, hb2⟩
    have HP : Hid (WPost w x t g c vE vD ps E' D now (.tuple #[]) (.returned (.tuple #[])) w2) := by
      rw [← HE2.out]
      exact WPost.after (HB1.out.trans (hb2.mono HB1.out.size)) (WPost.id (H1.out.below hb2))
    clear hb2 d0
    go_wp2_with fail
    go_end0
    exact HP.out

def AdvW (w : World) (x t g c : Nat) (vE vD : Value) (ids late : List Int) (ps : List Pr) (E D : List (Int × Int)) (now : Int) (e : Ending) (w' : World) : Prop :=
  ∃ u u2 vE' vD', e = .returned (.tuple #[u, u2]) ∧ Own w' u ids ∧ Own w' u2 late ∧ (∀ b, u.ownBlock = some b → w.heap.size ≤ b) ∧ (∀ b, u2.ownBlock = some b → w.heap.size ≤ b) ∧ Wld w' x t g c vE' vD' ps E D now ∧
    Kept w w' (fun i => i = x ∨ i = g) ∧ (∀ b, vE'.ownBlock = some b → vE.ownBlock = some b ∨ w.heap.size ≤ b) ∧ (∀ b, vD'.ownBlock = some b → vD.ownBlock = some b ∨ w.heap.size ≤ b)

set_option maxRecDepth 100000 in
set_option maxHeartbeats 8000000 in
theorem wadvance_any {w : World} {x t g c : Nat} {vE vD : Value} {ps : List Pr} {R : Nat → List Int} {D : List (Int × Int)} {now : Int} (h : Wld w x t g c vE vD ps (rowE R) D now) (hri : RInv ps R D) (h0 : 0 ≤ now) (h1 : now ≤ 1000) :
    Calls Tryz.prog 44 #[.pointer (some ⟨x, 0, none⟩)] w (AdvW w x t g c vE vD ((srt (lo now D)).map Prod.fst) (idsTo now (advL now ((srt (lo now D)).map Prod.fst) (ps, R)).1 ps.length)
      ((advL now ((srt (lo now D)).map Prod.fst) (ps, R)).1.map (markP now)) (rowE (advL now ((srt (lo now D)).map Prod.fst) (ps, R)).2) (hi now D) now) := by
  have c2 := h.c2
  have c3 := h.c3
  have hxl := h.xl
  have H := Lib.hid h
  have hdl := hri.dlen
  have HD := Lib.hid (fun (W : World) (hb : Below w.heap.size w W) => due20_any vD D now W (h.below hb).D (by omega))
  have HDU := Lib.hid (hri.due now)
  obtain ⟨np, hnp⟩ : ∃ np, ps.length = np := ⟨_, rfl⟩
  rw [hnp]
  have HNP := Lib.hid hnp
  obtain ⟨L, hL⟩ : ∃ L, srt (lo now D) = L := ⟨_, rfl⟩
  obtain ⟨HH, hHH⟩ : ∃ HH, hi now D = HH := ⟨_, rfl⟩
  have hle : ∀ q, q ∈ L → q.2 ≤ now := fun q hq => by rw [← hL] at hq; exact lo_le hq
  have HLE := Lib.hid hle
  have HDD : Hid (∀ W e w', Due20 W D now e w' → ∃ u u2, e = .returned (.tuple #[u, u2]) ∧ Own w' u (L.map Prod.fst) ∧ (∀ b, u.ownBlock = some b → W.heap.size ≤ b) ∧ OwnP 99 w' u2 HH ∧ (∀ b, u2.ownBlock = some b → W.heap.size ≤ b) ∧ Below W.heap.size W w') := fun W e w' h => by
    unfold Due20 at h
    rw [hL, hHH] at h
    exact h
  rw [hL, hHH] at HDU ⊢
  obtain ⟨k, hk⟩ : ∃ k, L.length = k := ⟨_, rfl⟩
  have hk16 : k ≤ 16 := by
    have := HDU.out.dlen
    rw [List.length_append] at this
    omega
  have hidl : (L.map Prod.fst).length = k := by simp; omega
  have HIDL := Lib.hid hidl
  have HK := Lib.hid hk
  clear h hri hk hidl hL hHH hle hnp hdl
  go_enter Tryz.func44, Tryz.ntmps44
  go_wp2_with fail
  go_region_held (fun w' => w'.cell? ⟨x, 2, none⟩ = some vD ∧ w'.cell? ⟨x, 3, none⟩ = some (.int .i64 now)) (first | (exact ⟨c2, c3⟩) | (exact ⟨f2, f3⟩))
    (first | (go_at_call 90; refine (HD.out _ (Below.refl _ _).drew).mono ?_; intro e w1 hdue; obtain ⟨u, u2, rfl, ho1, hf1, ho2, hf2, hb1⟩ := HDD.out _ e w1 hdue; have f2 := (H.out.below ((Below.refl _ _).drew.trans (hb1.mono (Nat.le_refl _)))).c2; have f3 := (H.out.below ((Below.refl _ _).drew.trans (hb1.mono (Nat.le_refl _)))).c3))
  obtain ⟨ua, uc, hus⟩ := ho1.sl
  rw [HIDL.out] at hus
  subst hus
  obtain ⟨ua2, un2, uc2, rfl⟩ : ∃ a n c, u2 = .slice a n c := by obtain ⟨a, c, h⟩ := ho2.sl; exact ⟨a, _, c, h⟩
  have hb1' : Below w.heap.size w w1 := (Below.refl _ _).drew.trans (hb1.mono (Nat.le_refl _))
  obtain ⟨hw2, hk2⟩ := H.out.setD hb1' ho2 hf2
  have HO1 : Hid (Own (w1.setCell ⟨x, 2, none⟩ (.slice ua2 un2 uc2)) (.slice ua k uc) (L.map Prod.fst)) := ho1.keep (fun b hb => heap_setCell_other (by have := hf1 b hb; simp at this; omega))
  have HU : Hid (∀ b, (Value.slice ua k uc).ownBlock = some b → w.heap.size ≤ b ∧ b ≠ x ∧ b ≠ g) := fun b hb => by
    have h3 := hf1 b hb
    have h4 := H.out.gl
    simp at h3
    exact ⟨h3, by omega, by omega⟩
  have HF2 : Hid (∀ b, (Value.slice ua2 un2 uc2).ownBlock = some b → vD.ownBlock = some b ∨ w.heap.size ≤ b) := fun b hb => .inr (by have := hf2 b hb; simpa using this)
  have HW2 := Lib.hid hw2
  have HK2 := Lib.hid hk2
  have l2 := (H.out.below hb1').c2
  have hfz1 := (H.out.below hb1').fz 2
  have hxl1 := (H.out.below hb1').xl
  clear hdue ho1 hf1 ho2 hf2 hb1 hb1' hw2 hk2 c2 c3 HD HDD
  go_wp2_with fail
  obtain ⟨W2, hW2⟩ : ∃ W2, W2 = w1.setCell ⟨x, 2, none⟩ (.slice ua2 un2 uc2) := ⟨_, rfl⟩
  rw [← hW2] at HO1 HW2 HK2 ⊢
  clear hW2 l2 hfz1 hxl1
  go_loopw [6] (fun s6 wr => ∃ (j : Nat) (vE' vD' : Value) (ps' : List Pr) (R' : Nat → List Int), j ≤ k ∧ s6 = .int .i64 j ∧ advL now ((L.take j).map Prod.fst) (ps, R) = (ps', R') ∧ ps'.length = np ∧ RInv ps' R' (HH ++ L.drop j) ∧ Wld wr x t g c vE' vD' ps' (rowE R') HH now ∧
    Kept w wr (fun i => i = x ∨ i = g) ∧ (∀ b, vE'.ownBlock = some b → vE.ownBlock = some b ∨ w.heap.size ≤ b) ∧ (∀ b, vD'.ownBlock = some b → vD.ownBlock = some b ∨ w.heap.size ≤ b) ∧ Own wr (.slice ua k uc) (L.map Prod.fst)) (fun i _ => k - (intOf i).toNat)
  case atStart =>
    exact ⟨0, vE, _, ps, R, by omega, rfl, rfl, HNP.out, HDU.out, HW2.out, HK2.out, fun b hb => .inl hb, HF2.out, HO1.out⟩
  case round =>
    clear HO1 HW2 HK2 HF2 HDU
    obtain ⟨j, vE', vD', ps', R', hj, rfl, hadv, hpl, hri, hd, hkr, hfe, hfd, hou⟩ := hrel
    have HADV := Lib.hid hadv
    have HPL := Lib.hid hpl
    have HRI := Lib.hid hri
    have HWr := Lib.hid hd
    have HKR := Lib.hid hkr
    have HFE := Lib.hid hfe
    have HFD := Lib.hid hfd
    have HOU := Lib.hid hou
    have d0 := hd.c0
    have d3 := hd.c3
    have hxlr := hd.xl
    clear hadv hpl hri hd hkr hfe hfd hou
    by_cases hjk : j < k
    · have hjkb : decide ((j : Int) < (k : Int)) = true := by simp; omega
      have hj0 : (0 : Int) ≤ (j : Int) := by omega
      have hjk' : (j : Int) < (k : Int) := by omega
      obtain ⟨q, hq⟩ : ∃ q, L[j]? = some q := ⟨_, List.getElem?_eq_getElem (by have := HK.out; omega)⟩
      have hdr : L.drop j = q :: L.drop (j + 1) := by
        obtain ⟨hjl, he⟩ := List.getElem?_eq_some_iff.1 hq
        rw [List.drop_eq_getElem_cons hjl, he]
      have htk1 : (L.take (j + 1)).map Prod.fst = (L.take j).map Prod.fst ++ [q.1] := by rw [List.take_add_one, hq]; simp
      have hqn := HLE.out q (List.mem_of_getElem? hq)
      obtain ⟨qi, qa⟩ := q
      obtain ⟨ids, hids⟩ : ∃ ids, (L.take j).map Prod.fst = ids := ⟨_, rfl⟩
      rw [hids] at htk1 HADV
      have hri := HRI.out
      rw [hdr] at hri
      obtain ⟨p2, hor, hav, hq0, hq1, hub2, hlk, hqH, hri2⟩ := hri.adv hqn ⟨h0, by omega⟩
      have hok2p : p2.Ok := hri2.ok p2 (by
        have h5 := get_of_in (ps := ps'.set qi.toNat p2) hq0 (by rw [List.length_set]; exact hq1)
        rw [hlk] at h5
        exact List.mem_of_getElem? h5)
      obtain ⟨hse, hsd⟩ := hri.advE hok2p hub2 hqH
      obtain ⟨ps2, hps2⟩ : ∃ ps2, ps'.set qi.toNat p2 = ps2 := ⟨_, rfl⟩
      rw [hps2] at hor hav hlk hri2
      have hpl2 : ps2.length = np := by rw [← hps2, List.length_set]; exact HPL.out
      have HRI2 := Lib.hid hri2
      have HPL2 := Lib.hid hpl2
      have HLK := Lib.hid hlk
      have HSE := Lib.hid hse
      have HSD := Lib.hid hsd
      have HEL : Hid ((rowE R').length ≤ 100) := by have := hri.elen; unfold Hid; omega
      have HHL : Hid (HH.length ≤ 100) := by have := hri.dlen; rw [List.length_append] at this; unfold Hid; omega
      have HADV2 : Hid (advL now ((L.take (j + 1)).map Prod.fst) (ps, R) = (ps2, newR p2 qi R')) := by
        unfold Hid
        rw [htk1, advL_snoc, HADV.out]
        show (advP now ps' qi, newR (lookP (advP now ps' qi) qi) qi R') = _
        rw [hav, hlk]
      obtain ⟨gu, hgu, hguw⟩ : ∃ gu, ua = some ⟨gu, 0, none⟩ ∧ ∀ W, Own W (.slice ua k uc) (L.map Prod.fst) → gu < W.heap.size ∧ W.cell? ⟨gu, j, none⟩ = some (.int .i64 qi) := by
        have hsh : ∀ W, Own W (.slice ua k uc) (L.map Prod.fst) → ∃ g0, ua = some ⟨g0, 0, none⟩ ∧ g0 < W.heap.size ∧ W.cell? ⟨g0, j, none⟩ = some (.int .i64 qi) := fun W ho => by
          rcases ho.shape with ⟨_, h0⟩ | ⟨g0, c0, cur, h1, h2, h3, h4, h5, h6⟩
          · have := HIDL.out
            rw [h0] at this
            simp at this
            omega
          · injection h1 with e1 e2 e3
            refine ⟨g0, e1, (Array.getElem?_eq_some_iff.1 h2).1, ?_⟩
            rw [cell_of_row W g0 j cur 3 (0, 0) h2]
            exact h6 j qi (by rw [List.getElem?_map, hq]; rfl)
        obtain ⟨g0, hg0, -, -⟩ := hsh wr HOU.out
        refine ⟨g0, hg0, fun W ho => ?_⟩
        obtain ⟨g1, hg1, k1, k2⟩ := hsh W ho
        rw [hg0] at hg1
        injection hg1 with hg1
        injection hg1 with hg1
        subst hg1
        exact ⟨k1, k2⟩
      subst hgu
      have HG := Lib.hid hguw
      obtain ⟨hgl, hgc⟩ := hguw wr HOU.out
      have HUN : Hid (gu ≠ x ∧ gu ≠ g) := ⟨(HU.out gu rfl).2.1, (HU.out gu rfl).2.2⟩
      have hok2 : ∀ p, p ∈ ps2 → p.Ok := hri2.ok
      have HOK2 := Lib.hid hok2
      clear hq hdr htk1 hri hav hri2 hlk hqH HRI hids hps2 hub2 hpl2 hqn hok2 hse hsd hok2p hguw
      rcases hor with ha1 | ⟨ha1, ha2⟩
      · have HA1 := Lib.hid ha1
        clear ha1
        go_wp2_with fail
        go_region_held (fun w' => w'.cell? ⟨x, 0, none⟩ = some (.pointer (some ⟨t, 0, none⟩)) ∧ w'.cell? ⟨x, 3, none⟩ = some (.int .i64 now) ∧ w'.cell? ⟨gu, j, none⟩ = some (.int .i64 qi)) (first | (exact ⟨d0, d3, hgc⟩) | (exact ⟨f0, f3, fg⟩))
          (first | (go_at_call 65; refine (rele_is qi now HA1.out (HWr.out.below (Below.refl _ _).drew).T HWr.out.ok).mono ?_; rintro e w3 ⟨rfl, hT3, hA3⟩; obtain ⟨f0, -, -, f3⟩ := (HWr.out.below (Below.refl _ _).drew).tabc hA3; have fg := (World.cell?_of_block (a := ⟨gu, j, none⟩) (hA3.block gu hgl HUN.out.2)).trans hgc))
        have hA3' : Apart wr.heap.size wr w3 g := (Apart.of_below ((Below.refl _ _).drew) (Nat.le_refl _)).trans hA3
        have H3 := Lib.hid (HWr.out.tab hT3 HOK2.out hA3')
        have HK3 : Hid (Kept w w3 (fun i => i = x ∨ i = g)) := HKR.out.trans hA3'.kept (fun i _ e => .inr e)
        have HO3 := Lib.hid (HOU.out.keep (fun b hb => hA3'.block b (HOU.out.lt b hb) (HU.out b hb).2.2))
        clear hT3 hA3 hA3' d0 d3 hgc
        obtain ⟨hgl3, hgc3⟩ := HG.out w3 HO3.out
        have hxl3 := H3.out.xl
        go_wp2_with fail
        refine (settle_any true H3.out qi HEL.out HHL.out).mono ?_
        rw [HLK.out, HSE.out, HSD.out]
        rintro e w4 ⟨rfl, vE4, vD4, hw4, hk4, hfe4, hfd4⟩
        have HW4 := Lib.hid hw4
        have hs3 := HK3.out.size
        have HK4 : Hid (Kept w w4 (fun i => i = x ∨ i = g)) := HK3.out.trans hk4 (fun _ _ hi => hi)
        have HFE4 : Hid (∀ b, vE4.ownBlock = some b → vE.ownBlock = some b ∨ w.heap.size ≤ b) := fun b hb => by
          rcases hfe4 b hb with h5 | h5
          · exact HFE.out b h5
          · exact .inr (by omega)
        have HFD4 : Hid (∀ b, vD4.ownBlock = some b → vD.ownBlock = some b ∨ w.heap.size ≤ b) := fun b hb => by
          rcases hfd4 b hb with h5 | h5
          · exact HFD.out b h5
          · exact .inr (by omega)
        have HO4 := Lib.hid (HO3.out.keep (fun b hb => hk4.block b (HO3.out.lt b hb) (fun e => by
          rcases e with e | e
          · exact (HU.out b hb).2.1 e
          · exact (HU.out b hb).2.2 e)))
        clear hw4 hk4 hfe4 hfd4 hgc3
        go_wp2_with fail
        go_roundw
        case rel => exact ⟨j + 1, vE4, vD4, ps2, newR p2 qi R', by omega, by go_num, HADV2.out, HPL2.out, HRI2.out, HW4.out, HK4.out, HFE4.out, HFD4.out, HO4.out⟩
        case measure => simp [intOf]; omega
      · have HA1 := Lib.hid ha1
        have HA2 := Lib.hid ha2
        clear ha1 ha2
        go_wp2_with fail
        go_region_held (fun w' => w'.cell? ⟨x, 0, none⟩ = some (.pointer (some ⟨t, 0, none⟩)) ∧ w'.cell? ⟨x, 3, none⟩ = some (.int .i64 now) ∧ w'.cell? ⟨gu, j, none⟩ = some (.int .i64 qi)) (first | (exact ⟨d0, d3, hgc⟩) | (exact ⟨f0, f3, fg⟩))
          (first | (go_at_call 65; refine (rele_is qi now HA1.out (HWr.out.below (Below.refl _ _).drew).T HWr.out.ok).mono ?_; rintro e w2 ⟨rfl, hT2, hA2⟩; obtain ⟨f0, -, -, f3⟩ := (HWr.out.below (Below.refl _ _).drew).tabc hA2; have fg := (World.cell?_of_block (a := ⟨gu, j, none⟩) (hA2.block gu hgl HUN.out.2)).trans hgc))
        have hA2' : Apart wr.heap.size wr w2 g := (Apart.of_below ((Below.refl _ _).drew) (Nat.le_refl _)).trans hA2
        have H2 := Lib.hid (HWr.out.tab hT2 HWr.out.ok hA2')
        have HKb : Hid (Kept w w2 (fun i => i = x ∨ i = g)) := HKR.out.trans hA2'.kept (fun i _ e => .inr e)
        have HO2 := Lib.hid (HOU.out.keep (fun b hb => hA2'.block b (HOU.out.lt b hb) (HU.out b hb).2.2))
        have e0 := H2.out.c0
        have hxl2 := H2.out.xl
        obtain ⟨hgl2, hgc2⟩ := HG.out w2 HO2.out
        clear hT2 hA2 hA2' d0 d3 hgc
        go_wp2_with fail
        go_region_held (fun w' => w'.cell? ⟨x, 0, none⟩ = some (.pointer (some ⟨t, 0, none⟩)) ∧ w'.cell? ⟨gu, j, none⟩ = some (.int .i64 qi)) (first | (exact ⟨e0, hgc2⟩) | (exact ⟨k0, kg⟩))
          (first | (go_at_call 66; refine (wake_is qi HA2.out (H2.out.below (Below.refl _ _).drew).T H2.out.ok).mono ?_; rintro e w3 ⟨rfl, hT3, hA3⟩; obtain ⟨k0, -, -, -⟩ := (H2.out.below (Below.refl _ _).drew).tabc hA3; have kg := (World.cell?_of_block (a := ⟨gu, j, none⟩) (hA3.block gu hgl2 HUN.out.2)).trans hgc2))
        have hA3' : Apart w2.heap.size w2 w3 g := (Apart.of_below ((Below.refl _ _).drew) (Nat.le_refl _)).trans hA3
        have H3 := Lib.hid (H2.out.tab hT3 HOK2.out hA3')
        have HK3 : Hid (Kept w w3 (fun i => i = x ∨ i = g)) := HKb.out.trans hA3'.kept (fun i _ e => .inr e)
        have HO3 := Lib.hid (HO2.out.keep (fun b hb => hA3'.block b (HO2.out.lt b hb) (HU.out b hb).2.2))
        clear hT3 hA3 hA3' e0 hgc2
        obtain ⟨hgl3, hgc3⟩ := HG.out w3 HO3.out
        have hxl3 := H3.out.xl
        go_wp2_with fail
        refine (settle_any true H3.out qi HEL.out HHL.out).mono ?_
        rw [HLK.out, HSE.out, HSD.out]
        rintro e w4 ⟨rfl, vE4, vD4, hw4, hk4, hfe4, hfd4⟩
        have HW4 := Lib.hid hw4
        have hs3 := HK3.out.size
        have HK4 : Hid (Kept w w4 (fun i => i = x ∨ i = g)) := HK3.out.trans hk4 (fun _ _ hi => hi)
        have HFE4 : Hid (∀ b, vE4.ownBlock = some b → vE.ownBlock = some b ∨ w.heap.size ≤ b) := fun b hb => by
          rcases hfe4 b hb with h5 | h5
          · exact HFE.out b h5
          · exact .inr (by omega)
        have HFD4 : Hid (∀ b, vD4.ownBlock = some b → vD.ownBlock = some b ∨ w.heap.size ≤ b) := fun b hb => by
          rcases hfd4 b hb with h5 | h5
          · exact HFD.out b h5
          · exact .inr (by omega)
        have HO4 := Lib.hid (HO3.out.keep (fun b hb => hk4.block b (HO3.out.lt b hb) (fun e => by
          rcases e with e | e
          · exact (HU.out b hb).2.1 e
          · exact (HU.out b hb).2.2 e)))
        clear hw4 hk4 hfe4 hfd4 hgc3
        go_wp2_with fail
        go_roundw
        case rel => exact ⟨j + 1, vE4, vD4, ps2, newR p2 qi R', by omega, by go_num, HADV2.out, HPL2.out, HRI2.out, HW4.out, HK4.out, HFE4.out, HFD4.out, HO4.out⟩
        case measure => simp [intOf]; omega
    · obtain rfl : j = k := by omega
      have hjkb : decide ((j : Int) < (j : Int)) = false := by simp
      have hadv := HADV.out
      have hri := HRI.out
      rw [List.take_of_length_le (by have := HK.out; omega)] at hadv
      rw [List.drop_of_length_le (by have := HK.out; omega), List.append_nil] at hri
      have HADV' := Lib.hid hadv
      have HRI' := Lib.hid hri
      clear hadv hri HRI HADV
      go_wp2_with fail
      go_region_held (fun w' => w'.cell? ⟨x, 0, none⟩ = some (.pointer (some ⟨t, 0, none⟩)) ∧ w'.cell? ⟨x, 3, none⟩ = some (.int .i64 now)) (first | (exact ⟨d0, d3⟩) | (exact ⟨f0, f3⟩))
        (first | (go_at_call 68; refine (missed_any t g c ps' now _ (HWr.out.below (Below.refl _ _).drew).T HWr.out.ok ⟨h0, by omega⟩).mono ?_; rintro e w6 ⟨u6, rfl, ho6, hT6, hA6, -⟩; obtain ⟨f0, -, -, f3⟩ := (HWr.out.below (Below.refl _ _).drew).tabc hA6))
      have hA6' : Apart wr.heap.size wr w6 g := (Apart.of_below ((Below.refl _ _).drew) (Nat.le_refl _)).trans hA6
      obtain ⟨ho6', hf6⟩ := own_of_base ho6
      have hok6 : ∀ p, p ∈ ps'.map (markP now) → p.Ok := (HRI'.out.mark now).ok
      have hw6 := HWr.out.tab hT6 hok6 hA6'
      have hsr := HKR.out.size
      have HPE : Hid (AdvW w x t g c vE vD (L.map Prod.fst) (idsTo now (advL now (L.map Prod.fst) (ps, R)).1 np) ((advL now (L.map Prod.fst) (ps, R)).1.map (markP now)) (rowE (advL now (L.map Prod.fst) (ps, R)).2) HH now (.returned (.tuple #[.slice ua j uc, u6])) w6) := by
        unfold Hid
        rw [HADV'.out]
        refine ⟨_, u6, vE', vD', rfl, HOU.out.keep (fun b hb => hA6'.block b (HOU.out.lt b hb) (HU.out b hb).2.2), by rw [← HPL.out]; exact ho6', fun b hb => (HU.out b hb).1, fun b hb => by have := hf6 b hb; simp at this; omega, hw6, HKR.out.trans hA6'.kept (fun i _ e => .inr e), HFE.out, HFD.out⟩
      clear ho6 ho6' hT6 hA6 hA6' hok6 hw6 hf6
      go_wp2
      go_ret2
      exact HPE.out

end Go.Proofs.YtgnjenmicojgnaaGreat
