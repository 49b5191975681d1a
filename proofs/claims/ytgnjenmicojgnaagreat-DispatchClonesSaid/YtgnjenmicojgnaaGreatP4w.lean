/-
  What Advance of a Dispatch does, whatever its processes.
-/
import Derived.Test.YtgnjenmicojgnaaGreatS2w
import Derived.Test.YtgnjenmicojgnaaGreatM6w
namespace Go.Proofs.YtgnjenmicojgnaaGreat
set_option linter.unusedVariables false
set_option linter.unusedSimpArgs false
open Go.RowKit

theorem own_of_base {w : World} {base : Nat} {v : Value} {xs : List Int} (h : w.ownsRow base 3 1 v xs.length (xs.map (Value.int .i64))) : Own w v xs ∧ ∀ b, v.ownBlock = some b → base ≤ b := by
  refine ⟨?_, fun b hb => (World.ownsRow.lt h b hb).1⟩
  unfold Own iv World.ownsRow at *
  obtain ⟨h1, h2⟩ := h
  refine ⟨h1, ?_⟩
  rcases h2 with h2 | ⟨g, cap, cur, k1, k2, k3⟩
  · exact .inl h2
  · exact .inr ⟨g, cap, cur, k1, by omega, k3⟩

def AdvP (w : World) (d t g c l m : Nat) (V : Nat → Value) (v : Value) (ids late : List Int) (ps : List Pr) (R : Nat → List Int) (Q : List (Int × Int)) (e : Ending) (w' : World) : Prop :=
  ∃ u u2 V' v', e = .returned (.tuple #[u, u2]) ∧ Own w' u ids ∧ Own w' u2 late ∧ (∀ b, u.ownBlock = some b → w.heap.size ≤ b) ∧ (∀ b, u2.ownBlock = some b → w.heap.size ≤ b) ∧ Dsp w' d t g c l m V' v' ps R Q ∧
    Kept w w' (inD d t g l m V v) ∧ (∀ i, inD d t g l m V' v' i → inD d t g l m V v i ∨ w.heap.size ≤ i)

set_option maxRecDepth 100000 in
set_option maxHeartbeats 8000000 in
theorem dadvance_any {w : World} {d t g c l m : Nat} {V : Nat → Value} {v : Value} {ps : List Pr} {R : Nat → List Int} {D : List (Int × Int)} (h : Dsp w d t g c l m V v ps R (srt D)) (hri : RInv ps R D) (now : Int) (h0 : 0 ≤ now) (h1 : now ≤ 1000) :
    Calls Tryz.prog 27 #[.pointer (some ⟨d, 0, none⟩), .int .i64 now] w (AdvP w d t g c l m V v ((srt (lo now D)).map Prod.fst) (idsTo now (advL now ((srt (lo now D)).map Prod.fst) (ps, R)).1 ps.length)
      ((advL now ((srt (lo now D)).map Prod.fst) (ps, R)).1.map (markP now)) (advL now ((srt (lo now D)).map Prod.fst) (ps, R)).2 (srt (hi now D))) := by
  have c2 := h.c2
  have hdl := h.dl
  have H := Lib.hid h
  have hql := hri.qlen
  obtain ⟨hd1, hd2⟩ := due_ids D now
  have HD := Lib.hid (tdue_any m v (srt D) now w h.M hql)
  rw [show DuePost w m v (srt D) (iQ (srt D) now) = fun e w' => ∃ u v', e = .returned u ∧ Own w' u ((srt (lo now D)).map Prod.fst) ∧ (∀ b, u.ownBlock = some b → w.heap.size ≤ b) ∧ Tms w' m v' (srt (hi now D)) ∧ Kept w w' (inT m v) ∧ (∀ i, inT m v' i → inT m v i) by unfold DuePost; rw [hd1, hd2]] at HD
  have HDU := Lib.hid (hri.due now)
  obtain ⟨np, hnp⟩ : ∃ np, ps.length = np := ⟨_, rfl⟩
  rw [hnp]
  have HNP := Lib.hid hnp
  obtain ⟨L, hL⟩ : ∃ L, srt (lo now D) = L := ⟨_, rfl⟩
  obtain ⟨HH, hHH⟩ : ∃ HH, hi now D = HH := ⟨_, rfl⟩
  have hle : ∀ q, q ∈ L → q.2 ≤ now := fun q hq => by rw [← hL] at hq; exact lo_le hq
  have HLE := Lib.hid hle
  rw [hL, hHH] at HDU HD ⊢
  obtain ⟨k, hk⟩ : ∃ k, L.length = k := ⟨_, rfl⟩
  have hk16 : k ≤ 16 := by
    have := HDU.out.dlen
    rw [List.length_append] at this
    omega
  have hidl : (L.map Prod.fst).length = k := by simp; omega
  have HIDL := Lib.hid hidl
  have HK := Lib.hid hk
  clear h hri hk hidl hd1 hd2 hL hHH hle hnp hql
  go_enter Tryz.func27, Tryz.ntmps27
  go_wp2_with fail
  refine HD.out.mono ?_
  rintro e w1 ⟨u0, v1, rfl, ho1, hf1, hM1, hk1, hn1⟩
  have H1 := Lib.hid (H.out.tms hM1 hk1 (fun i hi => .inl (hn1 i hi)))
  have HK1 : Hid (Kept w w1 (inD d t g l m V v)) := hk1.mono (fun i _ hi => .inr (.inr (.inr (.inr hi))))
  have HN1 : Hid (∀ i, inD d t g l m V v1 i → inD d t g l m V v i) := by
    rintro i (rfl | rfl | rfl | hj | hj)
    · exact .inl rfl
    · exact .inr (.inl rfl)
    · exact .inr (.inr (.inl rfl))
    · exact .inr (.inr (.inr (.inl hj)))
    · exact .inr (.inr (.inr (.inr (hn1 i hj))))
  have HO1 := Lib.hid ho1
  have HU : Hid (∀ b, u0.ownBlock = some b → ¬ inD d t g l m V v1 b) := fun b hb hi => by
    have h2 := hf1 b hb
    have h3 := H.out.lt (HN1.out b hi)
    omega
  obtain ⟨ua, uc, hus⟩ := ho1.sl
  rw [HIDL.out] at hus
  subst hus
  clear ho1 hf1 hM1 hk1 hn1 HD c2
  go_wp2_with fail
  go_loopw [4, 25] (fun s4 s25 wr => ∃ (j : Nat) (V' : Nat → Value) (v' : Value) (ps' : List Pr) (R' : Nat → List Int), j ≤ k ∧ s25 = .int .i64 j ∧ advL now ((L.take j).map Prod.fst) (ps, R) = (ps', R') ∧ ps'.length = np ∧ RInv ps' R' (HH ++ L.drop j) ∧ Dsp wr d t g c l m V' v' ps' R' (srt HH) ∧
    Own wr s4 ((L.take j).map Prod.fst) ∧ (∀ b, s4.ownBlock = some b → w1.heap.size ≤ b ∧ ¬ inD d t g l m V' v' b) ∧ Kept w1 wr (inD d t g l m V v1) ∧ (∀ i, inD d t g l m V' v' i → inD d t g l m V v1 i ∨ w1.heap.size ≤ i)) (fun _ i _ => k - (intOf i).toNat)
  case atStart =>
    exact ⟨0, V, v1, ps, R, by omega, rfl, rfl, HNP.out, HDU.out, H1.out, by simpa using Own.nil w1, fun b hb => by simp [Value.ownBlock] at hb, Kept.refl _ _, fun i hi => .inl hi⟩
  case round =>
    obtain ⟨j, V', v', ps', R', hj, rfl, hadv, hpl, hri, hd, hown, hout, hkr, hnr⟩ := hrel
    have HADV := Lib.hid hadv
    have HPL := Lib.hid hpl
    have HRI := Lib.hid hri
    have HDr := Lib.hid hd
    have HOW := Lib.hid hown
    have HOUT := Lib.hid hout
    have HKR := Lib.hid hkr
    have HNR := Lib.hid hnr
    have d0 := hd.c0
    have hdlr := hd.dl
    clear hadv hpl hri hd hown hout hkr hnr
    by_cases hjk : j < k
    · obtain ⟨q, hq⟩ : ∃ q, L[j]? = some q := ⟨_, List.getElem?_eq_getElem (by have := HK.out; omega)⟩
      have hdr : L.drop j = q :: L.drop (j + 1) := by
        obtain ⟨hjl, he⟩ := List.getElem?_eq_some_iff.1 hq
        rw [List.drop_eq_getElem_cons hjl, he]
      have htk1 : (L.take (j + 1)).map Prod.fst = (L.take j).map Prod.fst ++ [q.1] := by rw [List.take_add_one, hq]; simp
      have hqn := HLE.out q (List.mem_of_getElem? hq)
      obtain ⟨qi, qa⟩ := q
      obtain ⟨ids, hids⟩ : ∃ ids, (L.take j).map Prod.fst = ids := ⟨_, rfl⟩
      rw [hids] at htk1 HOW HADV
      have hri := HRI.out
      rw [hdr] at hri
      obtain ⟨p2, hor, hav, hq0, hq1, hub2, hlk, hqH, hri2⟩ := hri.adv hqn ⟨h0, by omega⟩
      obtain ⟨ps2, hps2⟩ : ∃ ps2, ps'.set qi.toNat p2 = ps2 := ⟨_, rfl⟩
      rw [hps2] at hor hav hlk hri2
      have hpl2 : ps2.length = np := by rw [← hps2, List.length_set]; exact HPL.out
      have HRI2 := Lib.hid hri2
      have HPL2 := Lib.hid hpl2
      have HLK := Lib.hid hlk
      have HR0 := Lib.hid hri.rlen2
      have hnq : newQ p2 qi (srt HH) = srt HH := by
        rw [newQ_srt (by have := hri.ndD; rw [List.map_append] at this; exact (List.nodup_append.1 this).1)]
        unfold newD
        rw [hub2, if_neg (by simp), rmQ_out hqH]
      have HNQ := Lib.hid hnq
      have hsd : HH.length ≤ 16 := by have := hri.dlen; rw [List.length_append] at this; omega
      have HSD : Hid ((srt HH).length ≤ 900) := by unfold Hid; rw [srt_length]; omega
      have HND : Hid (((srt HH).map Prod.fst).Nodup) := srt_nd (by have := hri.ndD; rw [List.map_append] at this; exact (List.nodup_append.1 this).1)
      have HADV2 : Hid (advL now ((L.take (j + 1)).map Prod.fst) (ps, R) = (ps2, newR p2 qi R')) := by
        unfold Hid
        rw [htk1, advL_snoc, HADV.out]
        show (advP now ps' qi, newR (lookP (advP now ps' qi) qi) qi R') = _
        rw [hav, hlk]
      have hou := HO1.out.keep (fun b hb => HKR.out.block b (HO1.out.lt b hb) (HU.out b hb))
      obtain ⟨gu, hgu, hgl, hgc⟩ : ∃ gu, ua = some ⟨gu, 0, none⟩ ∧ gu < wr.heap.size ∧ wr.cell? ⟨gu, j, none⟩ = some (.int .i64 qi) := by
        rcases hou.shape with ⟨_, h0⟩ | ⟨g0, c0, cur, h1, h2, h3, h4, h5, h6⟩
        · have := HIDL.out
          rw [h0] at this
          simp at this
          omega
        · injection h1 with e1 e2 e3
          refine ⟨g0, e1, (Array.getElem?_eq_some_iff.1 h2).1, ?_⟩
          rw [cell_of_row wr g0 j cur 3 (0, 0) h2]
          exact h6 j qi (by rw [List.getElem?_map, hq]; rfl)
      subst hgu
      have HTK1 := Lib.hid htk1
      have hidlen : ids.length ≤ 100 := by rw [← hids, List.length_map, List.length_take]; omega
      have HIDS := Lib.hid hids
      have hok2 : ∀ p, p ∈ ps2 → p.Ok := hri2.ok
      have HOK2 := Lib.hid hok2
      clear hq hdr htk1 hri hav hri2 hlk hqH hou HRI hids hps2 hub2 hnq hpl2 hqn hsd hok2
      rcases hor with ha1 | ⟨ha1, ha2⟩
      · have HA1 := Lib.hid ha1
        clear ha1
        go_wp2_with fail
        refine (rele_is qi now HA1.out HDr.out.T HDr.out.ok).mono ?_
        rintro e w3 ⟨rfl, hT3, hA3⟩
        have H3 := Lib.hid (HDr.out.tab hT3 HOK2.out hA3)
        have HK3 : Hid (Kept wr w3 (inD d t g l m V' v')) := hA3.kept.mono (fun i _ e => .inr (.inr (.inl e)))
        clear hT3 hA3 d0 hgc
        go_wp2_with fail
        refine (follow_any H3.out qi hq0 (cur_ok HOK2.out qi) HR0.out HSD.out HND.out).mono ?_
        rw [HLK.out, HNQ.out]
        rintro e w4 ⟨rfl, V4, v4, hd4, hk4, hn4⟩
        have H4 := Lib.hid hd4
        have HK4 : Hid (Kept wr w4 (inD d t g l m V' v')) := HK3.out.trans hk4 (fun _ _ hi => hi)
        have HN4 : Hid (∀ i, inD d t g l m V4 v4 i → inD d t g l m V' v' i ∨ wr.heap.size ≤ i) := fun i hi => (hn4 i hi).imp (fun h => h) (fun hle => by have := HK3.out.size; omega)
        have HOW4 := Lib.hid (HOW.out.keep (fun b hb => HK4.out.block b (HOW.out.lt b hb) (HOUT.out b hb).2))
        have HOUT4 : Hid (∀ b, u4.ownBlock = some b → w1.heap.size ≤ b ∧ ¬ inD d t g l m V4 v4 b) := fun b hb => ⟨(HOUT.out b hb).1, fun hi => by
          rcases HN4.out b hi with h1 | h1
          · exact (HOUT.out b hb).2 h1
          · have := HOW.out.lt b hb
            omega⟩
        clear hd4 hk4 hn4
        obtain ⟨x1, w5, hrun, ho5, hg5, hf5⟩ := own_append (t := 39) (tx := 39) (ty := 39) Tryz.underlying39 Tryz.underlying39 (HOW4.out.alloc (.cells #[.int .i64 qi] 3)) (x := .slice (some ⟨w4.heap.size, 0, none⟩) 1 1) (ys := [qi]) ⟨_, _, rfl, fun _ => ⟨_, rfl, fun j u hu => by
          match j, hu with
          | 0, hu =>
            simp [iv] at hu
            subst hu
            simp [Addr.add]
          | j + 1, hu => simp [iv] at hu⟩⟩ (by simp; omega)
        have hk5 : Kept w4 w5 (fun i => u4.ownBlock = some i) := (Kept.of_below ((Below.refl _ _).alloc (Nat.le_refl _) _)).trans (Kept.of_grown hg5 (S := fun i => u4.ownBlock = some i) (fun i hi => hi)) (fun _ _ hi => hi)
        have H5 := Lib.hid (H4.out.kept hk5 (fun i hi hs => (HOUT4.out i hs).2 hi))
        have hs4 := HK4.out.size
        have hs1 := HKR.out.size
        have HK5 : Hid (Kept w1 w5 (inD d t g l m V v1)) := (HKR.out.trans HK4.out (fun i hi h4 => by
          rcases HNR.out i h4 with h5 | h5
          · exact h5
          · omega)).trans hk5 (fun i hi h5 => by have := (HOUT4.out i h5).1; omega)
        have HN5 : Hid (∀ i, inD d t g l m V4 v4 i → inD d t g l m V v1 i ∨ w1.heap.size ≤ i) := fun i hi => by
          rcases HN4.out i hi with h5 | h5
          · exact HNR.out i h5
          · exact .inr (by omega)
        have HOUT5 : Hid (∀ b, x1.ownBlock = some b → w1.heap.size ≤ b ∧ ¬ inD d t g l m V4 v4 b) := fun b hb => by
          rcases hf5 b hb with h5 | h5
          · exact HOUT4.out b h5
          · simp at h5
            exact ⟨by omega, fun hi => by have := H4.out.lt hi; omega⟩
        rw [← HTK1.out] at ho5
        have HO5 := Lib.hid ho5
        clear ho5 hg5 hf5 hk5
        go_wp2_with (first | (at_builtin; refine Lib.wpList_append_run _ rfl (.tmp 46) (.tmp 48) 39 39 rfl _ _ rfl rfl _ _ hrun ?_))
        go_roundw
        case rel => exact ⟨j + 1, V4, v4, ps2, newR p2 qi R', by omega, by go_num, HADV2.out, HPL2.out, HRI2.out, H5.out, HO5.out, HOUT5.out, HK5.out, HN5.out⟩
        case measure => simp [intOf]; omega
      · have HA1 := Lib.hid ha1
        have HA2 := Lib.hid ha2
        clear ha1 ha2
        go_wp2_with fail
        refine (rele_is qi now HA1.out HDr.out.T HDr.out.ok).mono ?_
        rintro e w2 ⟨rfl, hT2, hA2⟩
        have H2 := Lib.hid (HDr.out.tab hT2 HDr.out.ok hA2)
        have HK2 : Hid (Kept wr w2 (inD d t g l m V' v')) := hA2.kept.mono (fun i _ e => .inr (.inr (.inl e)))
        have e0 := H2.out.c0
        have hdl2 := H2.out.dl
        clear hT2 hA2 d0 hgc
        go_wp2_with fail
        refine (wake_is qi HA2.out H2.out.T H2.out.ok).mono ?_
        rintro e w3 ⟨rfl, hT3, hA3⟩
        have H3 := Lib.hid (H2.out.tab hT3 HOK2.out hA3)
        have HK3 : Hid (Kept wr w3 (inD d t g l m V' v')) := HK2.out.trans hA3.kept (fun i _ e => .inr (.inr (.inl e)))
        clear hT3 hA3 e0
        go_wp2_with fail
        refine (follow_any H3.out qi hq0 (cur_ok HOK2.out qi) HR0.out HSD.out HND.out).mono ?_
        rw [HLK.out, HNQ.out]
        rintro e w4 ⟨rfl, V4, v4, hd4, hk4, hn4⟩
        have H4 := Lib.hid hd4
        have HK4 : Hid (Kept wr w4 (inD d t g l m V' v')) := HK3.out.trans hk4 (fun _ _ hi => hi)
        have HN4 : Hid (∀ i, inD d t g l m V4 v4 i → inD d t g l m V' v' i ∨ wr.heap.size ≤ i) := fun i hi => (hn4 i hi).imp (fun h => h) (fun hle => by have := HK3.out.size; omega)
        have HOW4 := Lib.hid (HOW.out.keep (fun b hb => HK4.out.block b (HOW.out.lt b hb) (HOUT.out b hb).2))
        have HOUT4 : Hid (∀ b, u4.ownBlock = some b → w1.heap.size ≤ b ∧ ¬ inD d t g l m V4 v4 b) := fun b hb => ⟨(HOUT.out b hb).1, fun hi => by
          rcases HN4.out b hi with h1 | h1
          · exact (HOUT.out b hb).2 h1
          · have := HOW.out.lt b hb
            omega⟩
        clear hd4 hk4 hn4
        obtain ⟨x1, w5, hrun, ho5, hg5, hf5⟩ := own_append (t := 39) (tx := 39) (ty := 39) Tryz.underlying39 Tryz.underlying39 (HOW4.out.alloc (.cells #[.int .i64 qi] 3)) (x := .slice (some ⟨w4.heap.size, 0, none⟩) 1 1) (ys := [qi]) ⟨_, _, rfl, fun _ => ⟨_, rfl, fun j u hu => by
          match j, hu with
          | 0, hu =>
            simp [iv] at hu
            subst hu
            simp [Addr.add]
          | j + 1, hu => simp [iv] at hu⟩⟩ (by simp; omega)
        have hk5 : Kept w4 w5 (fun i => u4.ownBlock = some i) := (Kept.of_below ((Below.refl _ _).alloc (Nat.le_refl _) _)).trans (Kept.of_grown hg5 (S := fun i => u4.ownBlock = some i) (fun i hi => hi)) (fun _ _ hi => hi)
        have H5 := Lib.hid (H4.out.kept hk5 (fun i hi hs => (HOUT4.out i hs).2 hi))
        have hs4 := HK4.out.size
        have hs1 := HKR.out.size
        have HK5 : Hid (Kept w1 w5 (inD d t g l m V v1)) := (HKR.out.trans HK4.out (fun i hi h4 => by
          rcases HNR.out i h4 with h5 | h5
          · exact h5
          · omega)).trans hk5 (fun i hi h5 => by have := (HOUT4.out i h5).1; omega)
        have HN5 : Hid (∀ i, inD d t g l m V4 v4 i → inD d t g l m V v1 i ∨ w1.heap.size ≤ i) := fun i hi => by
          rcases HN4.out i hi with h5 | h5
          · exact HNR.out i h5
          · exact .inr (by omega)
        have HOUT5 : Hid (∀ b, x1.ownBlock = some b → w1.heap.size ≤ b ∧ ¬ inD d t g l m V4 v4 b) := fun b hb => by
          rcases hf5 b hb with h5 | h5
          · exact HOUT4.out b h5
          · simp at h5
            exact ⟨by omega, fun hi => by have := H4.out.lt hi; omega⟩
        rw [← HTK1.out] at ho5
        have HO5 := Lib.hid ho5
        clear ho5 hg5 hf5 hk5
        go_wp2_with (first | (at_builtin; refine Lib.wpList_append_run _ rfl (.tmp 46) (.tmp 48) 39 39 rfl _ _ rfl rfl _ _ hrun ?_))
        go_roundw
        case rel => exact ⟨j + 1, V4, v4, ps2, newR p2 qi R', by omega, by go_num, HADV2.out, HPL2.out, HRI2.out, H5.out, HO5.out, HOUT5.out, HK5.out, HN5.out⟩
        case measure => simp [intOf]; omega
    · obtain rfl : j = k := by omega
      have hadv := HADV.out
      have hri := HRI.out
      rw [List.take_of_length_le (by have := HK.out; omega)] at hadv HOW
      rw [List.drop_of_length_le (by have := HK.out; omega), List.append_nil] at hri
      have HADV' := Lib.hid hadv
      have HRI' := Lib.hid hri
      clear hadv hri HRI HADV
      go_wp2_with fail
      refine (missed_any t g c ps' now wr HDr.out.T HDr.out.ok ⟨h0, by omega⟩).mono ?_
      rintro e w6 ⟨u6, rfl, ho6, hT6, hA6, -⟩
      obtain ⟨ho6', hf6⟩ := own_of_base ho6
      have hok6 : ∀ p, p ∈ ps'.map (markP now) → p.Ok := (HRI'.out.mark now).ok
      have hd6 := HDr.out.tab hT6 hok6 hA6
      have hs1 := HK1.out.size
      have hsr := HKR.out.size
      have HP : Hid (AdvP w d t g c l m V v (L.map Prod.fst) (idsTo now ps' np) (ps'.map (markP now)) R' (srt HH) (.returned (.tuple #[u4, u6])) w6) := by
        refine ⟨u4, u6, V', v', rfl, ?_, by rw [← HPL.out]; exact ho6', fun b hb => by have := (HOUT.out b hb).1; omega, fun b hb => by have := hf6 b hb; omega, hd6, (HK1.out.trans HKR.out (fun i hi h => HN1.out i h)).trans hA6.kept (fun i hi e => ?_), fun i hi => ?_⟩
        · exact HOW.out.keep (fun b hb => hA6.block b (HOW.out.lt b hb) (fun e => (HOUT.out b hb).2 (.inr (.inr (.inl e)))))
        · rcases HNR.out g (.inr (.inr (.inl rfl))) with h5 | h5
          · rw [e]; exact HN1.out g h5
          · omega
        · rcases HNR.out i hi with h5 | h5
          · exact .inl (HN1.out i h5)
          · exact .inr (by omega)
      have HPE : Hid (AdvP w d t g c l m V v (L.map Prod.fst) (idsTo now (advL now (L.map Prod.fst) (ps, R)).1 np) ((advL now (L.map Prod.fst) (ps, R)).1.map (markP now)) (advL now (L.map Prod.fst) (ps, R)).2 (srt HH) (.returned (.tuple #[u4, u6])) w6) := by
        unfold Hid
        rw [HADV'.out]
        exact HP.out
      clear ho6 ho6' hT6 hA6 hok6 hd6 hf6 HP
      go_wp2
      go_ret2
      exact HPE.out

end Go.Proofs.YtgnjenmicojgnaaGreat
