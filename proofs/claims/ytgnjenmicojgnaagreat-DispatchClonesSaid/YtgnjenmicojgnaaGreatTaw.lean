/-
  What Do answers: Yield and Advance.
-/
import Derived.Test.YtgnjenmicojgnaaGreatS5w
import Derived.Deep.RegionWith
namespace Go.Proofs.YtgnjenmicojgnaaGreat
set_option linter.unusedVariables false
set_option linter.unusedSimpArgs false
open Go.RowKit

set_option maxRecDepth 100000 in
set_option maxHeartbeats 8000000 in
theorem do11_any {w : World} {A : Ad} {U : Vs} {ps : List Pr} {R : Nat → List Int} {D : List (Int × Int)} {now : Int} (h : Duo w A U ps R (srt D) ps (rowE R) D now) (hri : RInv ps R D) (kd i n by' : Int) (h0 : 0 ≤ now) (h1 : now ≤ 900) (hk : wrap64 ((IntKind.u64.wrap kd).tmod 12) = 11) :
    Calls Tryz.prog 10 #[.pointer (some ⟨A.x, 0, none⟩), .pointer (some ⟨A.d, 0, none⟩), .agg #[.int .i64 kd, .int .i64 i, .int .i64 n, .int .i64 by']] w (DoPost w A U ps.length now) := by
  obtain ⟨s, hs, hs0, hs3⟩ := mod_u by' 3 (by omega) (by omega)
  obtain ⟨nw, hnw⟩ : ∃ nw, wrap64 (now + s) = nw := ⟨_, rfl⟩
  have hnws : nw = now + s := by rw [← hnw]; unfold wrap64; omega
  have hnw0 : 0 ≤ nw := by omega
  have hnw1 : nw ≤ 1000 := by omega
  have HNW : Hid (now ≤ nw ∧ nw ≤ now + 2) := by unfold Hid; omega
  clear hnws
  have hba := (Below.refl w.heap.size w).alloc (Nat.le_refl _) (.cells #[.int .i64 kd, .int .i64 i, .int .i64 n, .int .i64 by'] 32)
  obtain ⟨ob, hob⟩ : ∃ ob, w.heap.size = ob := ⟨_, rfl⟩
  obtain ⟨W0, hW0⟩ : ∃ W0, W0 = w.alloc (.cells #[.int .i64 kd, .int .i64 i, .int .i64 n, .int .i64 by'] 32) := ⟨_, rfl⟩
  have o0 : W0.cell? ⟨ob, 0, none⟩ = some (.int .i64 kd) := by rw [hW0, ← hob]; simp
  have o1 : W0.cell? ⟨ob, 1, none⟩ = some (.int .i64 i) := by rw [hW0, ← hob]; simp
  have o2 : W0.cell? ⟨ob, 2, none⟩ = some (.int .i64 n) := by rw [hW0, ← hob]; simp
  have o3 : W0.cell? ⟨ob, 3, none⟩ = some (.int .i64 by') := by rw [hW0, ← hob]; simp
  have hwl : ob < W0.heap.size := by rw [hW0, ← hob]; simp
  have HOB : Hid (¬ iP A U ob) := fun hm => by have := h.lt hm; omega
  rw [← hW0] at hba
  have HF0 : Hid (Fr w W0 A U U) := Fr.below A U hba
  have H0 := Lib.hid (h.below hba)
  obtain ⟨n0, hn0⟩ : ∃ n0, ps.length = n0 := ⟨_, rfl⟩
  rw [hn0]
  have HN0 := Lib.hid hn0
  have HRI := Lib.hid hri
  obtain ⟨h1w, f1w⟩ := H0.out.tick nw
  have hfd : ∀ W : World, Fr W W.drew A U U := fun W => Fr.below A U (Below.refl _ _).drew
  have HF1 : Hid (Fr w (W0.setCell ⟨A.x, 3, none⟩ (.int .i64 nw)).drew A U U) := (HF0.out.trans f1w).trans (hfd _)
  have H1 : Hid (Duo (W0.setCell ⟨A.x, 3, none⟩ (.int .i64 nw)).drew A U ps R (srt D) ps (rowE R) D nw) := h1w.below (Below.refl _ _).drew
  have HO1 : Hid (OpAt (W0.setCell ⟨A.x, 3, none⟩ (.int .i64 nw)).drew ob kd i n by') := ((OpAt.mk o0 o1 o2 o3 hwl).fr f1w (fun hm => HOB.out (iM_iP hm))).below (Below.refl _ _).drew
  have c3 := H0.out.wld.c3
  have hxl := H0.out.wld.xl
  have hfz := H0.out.wld.fz 3
  have HHK := Lib.hid hk
  have HHS := Lib.hid hs
  have HHN := Lib.hid hnw
  clear hs hnw
  clear h hba hri hn0 h1w f1w hfd hk
  go_enter Tryz.func10, Tryz.ntmps10
  go_wp2_with fail
  rw [← hW0]
  clear hW0 hob
  go_still_tail 13, (by kernel_rfl)
  change wpList _ _ _ _ _ W0.drew
  go_wp2
  rw [HHS.out, HHN.out]
  obtain ⟨W1, hW1⟩ : ∃ W1, W1 = (W0.setCell ⟨A.x, 3, none⟩ (.int .i64 nw)).drew := ⟨_, rfl⟩
  rw [← hW1] at HF1 H1 HO1 ⊢
  clear hW1 o0 o1 o2 o3 c3 hxl hfz hs0 hs3 hwl H0 HF0
  obtain ⟨o0, o1, o2, o3, hol⟩ := HO1.out
  go_quiet (fail)
  rw [HHK.out]
  have HB2 : Hid (Below W1.heap.size W1 (W1.drewN nq)) := below_drewN (Below.refl _ _) nq
  obtain ⟨W2, hW2⟩ : ∃ W2, W2 = W1.drewN nq := ⟨_, rfl⟩
  rw [← hW2] at HB2 ⊢
  clear hW2 o0 o1 o2 o3 hol
  have H2 := Lib.hid (H1.out.below HB2.out)
  have HF2 : Hid (Fr w W2 A U U) := HF1.out.trans (Fr.below A U HB2.out)
  have HO2 := Lib.hid (HO1.out.below HB2.out)
  obtain ⟨o0, o1, o2, o3, hol⟩ := HO2.out
  clear H1 HF1 HO1 HB2
  obtain ⟨ids, hids⟩ : ∃ ids, (srt (lo nw D)).map Prod.fst = ids := ⟨_, rfl⟩
  obtain ⟨⟨ps1, R1⟩, hadv⟩ : ∃ o, advL nw ids (ps, R) = o := ⟨_, rfl⟩
  have hW := wadvance_any H2.out.wld HRI.out hnw0 hnw1
  rw [hids, hadv] at hW
  have HWA := Lib.hid hW
  have HDA : Hid (∀ (W : World) (V : Nat → Value) (v : Value), Dsp W A.d A.t A.g A.c A.l A.m V v ps R (srt D) → Calls Tryz.prog 27 #[.pointer (some ⟨A.d, 0, none⟩), .int .i64 nw] W (AdvP W A.d A.t A.g A.c A.l A.m V v ids (idsTo nw ps1 ps.length) (ps1.map (markP nw)) R1 (srt (hi nw D)))) := fun W V v hd => by
    have := dadvance_any hd HRI.out nw hnw0 hnw1
    rw [hids, hadv] at this
    exact this
  have hinv := HRI.out.advAll nw hnw0 (by omega)
  rw [hids, hadv] at hinv
  have HINV := Lib.hid hinv
  have HSM : Hid (∀ (W : World) (a b : Value) (xs : List Int), Own W a xs → Own W b xs → xs.length ≤ 1000 → Calls Tryz.prog 22 #[a, b] W fun e w' => e = .returned (.bool true) ∧ Below W.heap.size W w') := fun W a b xs ha hb hl => by
    have := same20_any a b xs xs W ha.ri hb.ri (by omega)
    simpa using this
  have hil : ids.length ≤ 1000 := by
    rw [← hids, List.length_map, srt_length]
    have h5 := List.length_filter_le (fun q : Int × Int => decide (q.2 ≤ nw)) D
    have h6 := HRI.out.dlen
    unfold lo
    omega
  have HIDL := Lib.hid hil
  clear hW hids hadv hinv hil
  go_wp2_with fail
  refine HWA.out.mono ?_
  rintro e w3 ⟨u, u2, vE', vD', rfl, ho1, ho2, hf1, hf2, hw3, hk3, hfe, hfd⟩
  obtain ⟨hd3, hf3⟩ := H2.out.wpost2 hw3 hk3 hfe hfd
  obtain ⟨U3, hU3⟩ : ∃ U3 : Vs, U3 = ⟨U.V, U.v, vE', vD'⟩ := ⟨_, rfl⟩
  rw [← hU3] at hd3 hf3
  have H3 := Lib.hid hd3
  have HF3 := Lib.hid (HF2.out.trans hf3)
  have e3 := hd3.wld.c3
  have hxl3 := hd3.wld.xl
  have HO1 := Lib.hid ho1
  have HO2' := Lib.hid ho2
  have HNI : Hid (∀ b, (u.ownBlock = some b ∨ u2.ownBlock = some b) → ¬ iD A U3 b) := fun b hb hm => by
    rw [hU3] at hm
    have h1 := H2.out.dsp.lt hm
    rcases hb with hb | hb
    · have := hf1 b hb; omega
    · have := hf2 b hb; omega
  obtain ⟨ua, un, uc, rfl⟩ : ∃ a n c, u = .slice a n c := by obtain ⟨a, c, h⟩ := ho1.sl; exact ⟨a, _, c, h⟩
  obtain ⟨ub, um, ud, rfl⟩ : ∃ a n c, u2 = .slice a n c := by obtain ⟨a, c, h⟩ := ho2.sl; exact ⟨a, _, c, h⟩
  clear o0 o1 o2 o3 hol ho1 ho2 hf1 hf2 hw3 hk3 hfe hfd hd3 hf3 hU3 HWA H2 HF2 HO2
  go_wp2_with fail
  refine (HDA.out _ _ _ H3.out.dsp).mono ?_
  rintro e w4 ⟨v1, v2, V', v', rfl, hp1, hp2, -, -, hd4, hk4, hn4⟩
  obtain ⟨-, U4, -, -, hd4', hf4⟩ := H3.out.dpost (r := .bool true) ⟨rfl, V', v', hd4, hk4, hn4⟩
  have HF4 := Lib.hid (HF3.out.trans hf4)
  have H4 := Lib.hid hd4'
  have HA1 := Lib.hid (HO1.out.keep (fun b hb => hk4.block b (HO1.out.lt b hb) (fun hm => HNI.out b (.inl hb) hm)))
  have HA2 := Lib.hid (HO2'.out.keep (fun b hb => hk4.block b (HO2'.out.lt b hb) (fun hm => HNI.out b (.inr hb) hm)))
  have HP1 := Lib.hid hp1
  have HP2 := Lib.hid hp2
  obtain ⟨va, vn, vc, rfl⟩ : ∃ a n c, v1 = .slice a n c := by obtain ⟨a, c, h⟩ := hp1.sl; exact ⟨a, _, c, h⟩
  obtain ⟨vb, vm, vd, rfl⟩ : ∃ a n c, v2 = .slice a n c := by obtain ⟨a, c, h⟩ := hp2.sl; exact ⟨a, _, c, h⟩
  have hl1 : ids.length ≤ 1000 := HIDL.out
  have hl2 : (idsTo nw ps1 ps.length).length ≤ 1000 := by
    unfold idsTo
    rw [List.length_map]
    have h5 := List.length_filter_le (isMiss nw ps1) (List.range ps.length)
    rw [List.length_range] at h5
    have h6 := HRI.out.len
    omega
  have HL1 := Lib.hid hl1
  have HL2 := Lib.hid hl2
  clear hp1 hp2 hd4 hk4 hn4 hd4' hf4 e3 HDA HO1 HO2' H3 HF3 HNI hl1 hl2
  go_wp2_with fail
  refine (HSM.out w4 _ _ ids HA1.out HP1.out HL1.out).mono ?_
  rintro e w5 ⟨rfl, hb5⟩
  have HB5 := Lib.hid hb5
  clear hb5
  go_wp2_with fail
  refine (HSM.out w5 _ _ _ (HA2.out.keep (fun b hb => HB5.out.block b (HA2.out.lt b hb))) (HP2.out.keep (fun b hb => HB5.out.block b (HP2.out.lt b hb))) HL2.out).mono ?_
  rintro e w6 ⟨rfl, hb6⟩
  have hb46 : Below w4.heap.size w4 w6 := HB5.out.trans (hb6.mono HB5.out.size)
  have HP : Hid (DoPost w A U n0 now (.returned (.bool true)) w6) :=
    ⟨U4, _, R1, _, nw, rfl, H4.out.below hb46, HINV.out.1, HINV.out.2.trans HN0.out, HNW.out.1, HNW.out.2, HF4.out.trans (Fr.below A U4 hb46)⟩
  clear hb6 hb46
  go_wp2
  go_ret
  exact HP.out

set_option maxRecDepth 100000 in
set_option maxHeartbeats 8000000 in
theorem do9_any {w : World} {A : Ad} {U : Vs} {ps : List Pr} {R : Nat → List Int} {D : List (Int × Int)} {now : Int} (h : Duo w A U ps R (srt D) ps (rowE R) D now) (hri : RInv ps R D) (kd i n by' : Int) (h0 : 0 ≤ now) (h1 : now ≤ 900) (hk : wrap64 ((IntKind.u64.wrap kd).tmod 12) = 9) :
    Calls Tryz.prog 10 #[.pointer (some ⟨A.x, 0, none⟩), .pointer (some ⟨A.d, 0, none⟩), .agg #[.int .i64 kd, .int .i64 i, .int .i64 n, .int .i64 by']] w (DoPost w A U ps.length now) := by
  obtain ⟨s, hs, hs0, hs3⟩ := mod_u by' 3 (by omega) (by omega)
  obtain ⟨nw, hnw⟩ : ∃ nw, wrap64 (now + s) = nw := ⟨_, rfl⟩
  have hnws : nw = now + s := by rw [← hnw]; unfold wrap64; omega
  have hnw0 : 0 ≤ nw := by omega
  have hnw1 : nw ≤ 1000 := by omega
  have HNW : Hid (now ≤ nw ∧ nw ≤ now + 2) := by unfold Hid; omega
  clear hnws
  have hba := (Below.refl w.heap.size w).alloc (Nat.le_refl _) (.cells #[.int .i64 kd, .int .i64 i, .int .i64 n, .int .i64 by'] 32)
  obtain ⟨ob, hob⟩ : ∃ ob, w.heap.size = ob := ⟨_, rfl⟩
  obtain ⟨W0, hW0⟩ : ∃ W0, W0 = w.alloc (.cells #[.int .i64 kd, .int .i64 i, .int .i64 n, .int .i64 by'] 32) := ⟨_, rfl⟩
  have o0 : W0.cell? ⟨ob, 0, none⟩ = some (.int .i64 kd) := by rw [hW0, ← hob]; simp
  have o1 : W0.cell? ⟨ob, 1, none⟩ = some (.int .i64 i) := by rw [hW0, ← hob]; simp
  have o2 : W0.cell? ⟨ob, 2, none⟩ = some (.int .i64 n) := by rw [hW0, ← hob]; simp
  have o3 : W0.cell? ⟨ob, 3, none⟩ = some (.int .i64 by') := by rw [hW0, ← hob]; simp
  have hwl : ob < W0.heap.size := by rw [hW0, ← hob]; simp
  have HOB : Hid (¬ iP A U ob) := fun hm => by have := h.lt hm; omega
  rw [← hW0] at hba
  have HF0 : Hid (Fr w W0 A U U) := Fr.below A U hba
  have H0 := Lib.hid (h.below hba)
  obtain ⟨n0, hn0⟩ : ∃ n0, ps.length = n0 := ⟨_, rfl⟩
  rw [hn0]
  have HN0 := Lib.hid hn0
  have HRI := Lib.hid hri
  obtain ⟨h1w, f1w⟩ := H0.out.tick nw
  have hfd : ∀ W : World, Fr W W.drew A U U := fun W => Fr.below A U (Below.refl _ _).drew
  have HF1 : Hid (Fr w (W0.setCell ⟨A.x, 3, none⟩ (.int .i64 nw)).drew A U U) := (HF0.out.trans f1w).trans (hfd _)
  have H1 : Hid (Duo (W0.setCell ⟨A.x, 3, none⟩ (.int .i64 nw)).drew A U ps R (srt D) ps (rowE R) D nw) := h1w.below (Below.refl _ _).drew
  have HO1 : Hid (OpAt (W0.setCell ⟨A.x, 3, none⟩ (.int .i64 nw)).drew ob kd i n by') := ((OpAt.mk o0 o1 o2 o3 hwl).fr f1w (fun hm => HOB.out (iM_iP hm))).below (Below.refl _ _).drew
  have c3 := H0.out.wld.c3
  have hxl := H0.out.wld.xl
  have hfz := H0.out.wld.fz 3
  have HHK := Lib.hid hk
  have HHS := Lib.hid hs
  have HHN := Lib.hid hnw
  clear hs hnw
  clear h hba hri hn0 h1w f1w hfd hk
  go_enter Tryz.func10, Tryz.ntmps10
  go_wp2_with fail
  rw [← hW0]
  clear hW0 hob
  go_still_tail 13, (by kernel_rfl)
  change wpList _ _ _ _ _ W0.drew
  go_wp2
  rw [HHS.out, HHN.out]
  obtain ⟨W1, hW1⟩ : ∃ W1, W1 = (W0.setCell ⟨A.x, 3, none⟩ (.int .i64 nw)).drew := ⟨_, rfl⟩
  rw [← hW1] at HF1 H1 HO1 ⊢
  clear hW1 o0 o1 o2 o3 c3 hxl hfz hs0 hs3 hwl H0 HF0
  obtain ⟨o0, o1, o2, o3, hol⟩ := HO1.out
  go_quiet (fail)
  rw [HHK.out]
  have HB2 : Hid (Below W1.heap.size W1 (W1.drewN nq)) := below_drewN (Below.refl _ _) nq
  obtain ⟨W2, hW2⟩ : ∃ W2, W2 = W1.drewN nq := ⟨_, rfl⟩
  rw [← hW2] at HB2 ⊢
  clear hW2 o0 o1 o2 o3 hol
  have H2 := Lib.hid (H1.out.below HB2.out)
  have HF2 : Hid (Fr w W2 A U U) := HF1.out.trans (Fr.below A U HB2.out)
  have HO2 := Lib.hid (HO1.out.below HB2.out)
  obtain ⟨o0, o1, o2, o3, hol⟩ := HO2.out
  clear H1 HF1 HO1 HB2
  obtain ⟨q, hq⟩ : ∃ q : Nat, curR (lookP ps i) = q := ⟨(curR (lookP ps i)).toNat, by have := (cur_ok HRI.out.ok i).1; omega⟩
  obtain ⟨y, hy⟩ : ∃ y, yCode n0 R i = y := ⟨_, rfl⟩
  obtain ⟨R', hR'⟩ : ∃ R', yR n0 q i R = R' := ⟨_, rfl⟩
  have HA : Hid (∀ (W : World) (V : Nat → Value) (v : Value), Dsp W A.d A.t A.g A.c A.l A.m V v ps R (srt D) → Calls Tryz.prog 37 #[.pointer (some ⟨A.d, 0, none⟩), .int .i64 i] W (DPost W A.d A.t A.g A.c A.l A.m V v ps R' (srt D) (.int .i64 y))) := fun W V v hd => by
    have := dyield_any hd i q hq HRI.out.rlen2 (HRI.out.rm_none i)
    rw [HN0.out, hy, hR'] at this
    exact this
  have hn16 : n0 ≤ 16 := by rw [← HN0.out]; exact HRI.out.len
  have d0 := H2.out.wld.c0
  have d1 := H2.out.wld.c1
  have hxl2 := H2.out.wld.xl
  have hfz2 := H2.out.wld.fz 1
  have HQ := Lib.hid hq
  by_cases hin : i < 0 ∨ (n0 : Int) ≤ i
  · have hy9 : y = 9 := by rw [← hy]; exact if_pos hin
    have HRR : Hid (R' = R) := by unfold Hid; rw [← hR']; unfold yR; rw [hy, hy9]; exact if_neg (by decide)
    subst hy9
    clear hy hR' hq
    by_cases hi0 : i < 0
    · clear hin
      go_wp2_with fail
      refine (HA.out _ _ _ H2.out.dsp).mono ?_
      intro e w7 hp7
      obtain ⟨rfl, U7, -, -, hd7, hf7⟩ := H2.out.dpost hp7
      have HP : Hid (DoPost w A U n0 now (.returned (.bool true)) w7) := ⟨U7, ps, R', D, nw, rfl, by rw [HRR.out] at hd7 ⊢; exact hd7, by rw [HRR.out]; exact HRI.out, HN0.out, HNW.out.1, HNW.out.2, HF2.out.trans hf7⟩
      clear hp7 hd7 hf7
      go_wp2
      go_ret
      exact HP.out
    · have hi1 : (n0 : Int) ≤ i := by omega
      clear hin
      go_wp2_with fail
      refine (tlen_is H2.out.wld.T HN0.out).mono ?_
      rintro e w3 ⟨rfl, rfl⟩
      go_wp2_with fail
      refine (HA.out _ _ _ H2.out.dsp).mono ?_
      intro e w7 hp7
      obtain ⟨rfl, U7, -, -, hd7, hf7⟩ := H2.out.dpost hp7
      have HP : Hid (DoPost w A U n0 now (.returned (.bool true)) w7) := ⟨U7, ps, R', D, nw, rfl, by rw [HRR.out] at hd7 ⊢; exact hd7, by rw [HRR.out]; exact HRI.out, HN0.out, HNW.out.1, HNW.out.2, HF2.out.trans hf7⟩
      clear hp7 hd7 hf7
      go_wp2
      go_ret
      exact HP.out
  · have hi0 : ¬ i < 0 := by omega
    have hi1 : i < (n0 : Int) := by omega
    have hi0' : 0 ≤ i := by omega
    obtain ⟨st, hst⟩ : ∃ st, stateR (lookP ps i) = st := ⟨_, rfl⟩
    have HST := Lib.hid hst
    by_cases hs1 : st = 1
    · obtain ⟨hy1, hy2, hy3⟩ := HRI.out.yield hi0' (by have := HN0.out; omega) (hst.trans hs1) hq
      have hy0 : y = 0 := by rw [← hy]; unfold yCode; rw [if_neg hin, if_pos hy3]
      have hrr : R' = upd (rmR R i) q (rmR R i q ++ [i]) := by rw [← hR']; unfold yR; rw [hy, hy0]; exact if_pos rfl
      rw [← hrr] at hy1 hy2
      have HINV := Lib.hid hy1
      have HBE : Hid (∀ W, Below W2.heap.size W2 W → Calls Tryz.prog 42 #[U.vE, .int .i64 i, .int .i64 q] W (NewE W (rowE R'))) := fun W hb => by
        have := behind_any U.vE (rowE R) i q W (H2.out.wld.below hb).E (by have := HRI.out.elen; omega)
        rw [← hy2] at this
        exact this
      have HCC : Hid (∀ W, Below W2.heap.size W2 W → Calls Tryz.prog 15 #[.pointer (some ⟨A.t2, 0, none⟩), .int .i64 i] W fun e w' => e = .returned (.int .i64 q) ∧ Below W.heap.size W w') := fun W hb => cur_is i HQ.out (H2.out.wld.below hb).T
      subst hy0 hs1
      clear hy hR' hq hst hin hy1 hy2 hy3 hrr
      go_wp2_with fail
      refine (tlen_is H2.out.wld.T HN0.out).mono ?_
      rintro e w3 ⟨rfl, rfl⟩
      go_wp2_with fail
      refine (state_is i HST.out H2.out.wld.T).mono ?_
      rintro e w3 ⟨rfl, hb3⟩
      have H3 := Lib.hid (H2.out.below hb3)
      have HB3 := Lib.hid hb3
      have e0 := H3.out.wld.c0
      have e1 := H3.out.wld.c1
      have hxl3 := H3.out.wld.xl
      have hfz3 := H3.out.wld.fz 1
      have HB2d : Hid (∀ W, Below w3.heap.size w3 W → W.cell? ⟨A.x, 0, none⟩ = some (.pointer (some ⟨A.t2, 0, none⟩)) ∧ W.cell? ⟨A.x, 1, none⟩ = some U.vE ∧ W.frozen? ⟨A.x, 1, none⟩ = false ∧ A.x < W.heap.size) := fun W hb => ⟨(H3.out.below hb).wld.c0, (H3.out.below hb).wld.c1, (H3.out.below hb).wld.fz 1, (H3.out.below hb).wld.xl⟩
      clear hb3 d0 d1 hfz2 o0 o1 o2 o3 hol
      go_wp2_with fail
      go_region_with (first
        | (go_at_call 15; refine (HCC.out _ (by first | exact (HB3.out.trans ((Below.refl _ _).drew.mono HB3.out.size)) | exact HB3.out)).mono ?_; rintro e w4 ⟨rfl, hb4⟩; have HB4 : Hid (Below w3.heap.size w3 w4) := (Below.refl _ _).drew.trans (hb4.mono (Nat.le_refl _)); obtain ⟨f0, f1, f2, f3⟩ := HB2d.out w4 HB4.out; clear hb4)
        | (go_at_call 42; refine (HBE.out w4 (HB3.out.trans (HB4.out.mono HB3.out.size))).mono ?_; rintro e w5 ⟨u5, rfl, ho5, hf5, hb5⟩; obtain ⟨ua5, un5, uc5, rfl⟩ : ∃ a n c, u5 = .slice a n c := (by obtain ⟨a, c, h⟩ := ho5.sl; exact ⟨a, _, c, h⟩); have HB5 : Hid (Below w3.heap.size w3 w5) := HB4.out.trans (hb5.mono HB4.out.size); obtain ⟨g0, g1, g2, g3⟩ := HB2d.out w5 HB5.out; have HO5 := Lib.hid ho5; have HF5 := Lib.hid hf5; clear ho5 hf5 hb5))
      all_goals
        obtain ⟨hw6, hk6⟩ := H3.out.wld.setE HB5.out HO5.out (fun b hb => by have h1 := HF5.out b hb; have h2 := HB4.out.size; omega)
        obtain ⟨hd6, hf6⟩ := H3.out.wpost2 hw6 hk6 (fun b hb => .inr (by have h1 := HF5.out b hb; have h2 := HB4.out.size; omega)) (fun b hb => .inl hb)
        have H6 := Lib.hid hd6
        have HF6 : Hid (Fr w _ A U _) := (HF2.out.trans (Fr.below A U HB3.out)).trans hf6
        clear hw6 hk6 hd6 hf6 e0 e1
        go_wp2_with fail
        refine (HA.out _ _ _ H6.out.dsp).mono ?_
        intro e w7 hp7
        obtain ⟨rfl, U7, -, -, hd7, hf7⟩ := H6.out.dpost hp7
        have HP : Hid (DoPost w A U n0 now (.returned (.bool true)) w7) := ⟨U7, ps, R', D, nw, rfl, hd7, HINV.out, HN0.out, HNW.out.1, HNW.out.2, HF6.out.trans hf7⟩
        clear hp7 hd7 hf7
        go_wp2
        go_ret
        exact HP.out
    · have hpn := HRI.out.no_prio (fun h => hs1 (hst.symm.trans h))
      have hy10 : y = 10 := by rw [← hy]; unfold yCode; rw [if_neg hin, hpn]; rfl
      have HRR : Hid (R' = R) := by unfold Hid; rw [← hR']; unfold yR; rw [hy, hy10]; exact if_neg (by decide)
      have hsb : (st != 1) = true := by simpa using hs1
      subst hy10
      clear hy hR' hq hst hin hpn hs1
      go_wp2_with fail
      refine (tlen_is H2.out.wld.T HN0.out).mono ?_
      rintro e w3 ⟨rfl, rfl⟩
      go_wp2_with fail
      refine (state_is i HST.out H2.out.wld.T).mono ?_
      rintro e w3 ⟨rfl, hb3⟩
      have H3 := Lib.hid (H2.out.below hb3)
      have HF3 := Lib.hid (HF2.out.trans (Fr.below A U hb3))
      clear hb3
      go_wp2_with fail
      refine (HA.out _ _ _ H3.out.dsp).mono ?_
      intro e w7 hp7
      obtain ⟨rfl, U7, -, -, hd7, hf7⟩ := H3.out.dpost hp7
      have HP : Hid (DoPost w A U n0 now (.returned (.bool true)) w7) := ⟨U7, ps, R, D, nw, rfl, by rw [← HRR.out]; rw [← HRR.out] at hd7; exact hd7, HRI.out, HN0.out, HNW.out.1, HNW.out.2, HF3.out.trans hf7⟩
      clear hp7 hd7 hf7
      go_wp2
      go_ret
      exact HP.out

end Go.Proofs.YtgnjenmicojgnaaGreat
