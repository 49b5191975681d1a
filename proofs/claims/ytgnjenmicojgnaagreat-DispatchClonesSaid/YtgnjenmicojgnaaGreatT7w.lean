/-
  What Do answers: the calls of kinds 3, 4.
-/
import Derived.Test.YtgnjenmicojgnaaGreatT5w
namespace Go.Proofs.YtgnjenmicojgnaaGreat
set_option linter.unusedVariables false
set_option linter.unusedSimpArgs false
open Go.RowKit

set_option maxRecDepth 100000 in
set_option maxHeartbeats 8000000 in
theorem do3_any {w : World} {A : Ad} {U : Vs} {ps : List Pr} {R : Nat → List Int} {D : List (Int × Int)} {now : Int} (h : Duo w A U ps R (srt D) ps (rowE R) D now) (hri : RInv ps R D) (kd i n by' : Int) (h0 : 0 ≤ now) (h1 : now ≤ 900) (hk : wrap64 ((IntKind.u64.wrap kd).tmod 12) = 3) :
    Calls Tryz.prog 10 #[.pointer (some ⟨A.x, 0, none⟩), .pointer (some ⟨A.d, 0, none⟩), .agg #[.int .i64 kd, .int .i64 i, .int .i64 n, .int .i64 by']] w (DoPost w A U ps.length now) := by
  obtain ⟨s, hs, hs0, hs3⟩ := mod_u by' 3 (by omega) (by omega)
  obtain ⟨nw, hnw⟩ : ∃ nw, wrap64 (now + s) = nw := ⟨_, rfl⟩
  have hnws : nw = now + s := by rw [← hnw]; unfold wrap64; omega
  have hnw0 : 0 ≤ nw := by omega
  have hnw1 : nw ≤ 1000 := by omega
  have HNW : Hid (now ≤ nw ∧ nw ≤ now + 2) := by unfold Hid; omega
  clear hnws
  have hba := (Below.refl w.heap.size w).alloc (Nat.le_refl _) (.cells #[.int .i64 kd, .int .i64 i, .int .i64 n, .int .i64 by'] 32)
  obtain ⟨ob, hob⟩ : ∃ ob, w.heap.size = ob := ⟨_, rfl⟩
  obtain ⟨W0, hW0⟩ : ∃ W0, W0 = w.alloc (.cells #[.int .i64 kd, .int .i64 i, .int .i64 n, .int .i64 by'] 32) := ⟨_, rfl⟩
  have o0 : W0.cell? ⟨ob, 0, none⟩ = some (.int .i64 kd) := by rw [hW0, ← hob]; simp
  have o1 : W0.cell? ⟨ob, 1, none⟩ = some (.int .i64 i) := by rw [hW0, ← hob]; simp
  have o2 : W0.cell? ⟨ob, 2, none⟩ = some (.int .i64 n) := by rw [hW0, ← hob]; simp
  have o3 : W0.cell? ⟨ob, 3, none⟩ = some (.int .i64 by') := by rw [hW0, ← hob]; simp
  have hwl : ob < W0.heap.size := by rw [hW0, ← hob]; simp
  have HOB : Hid (¬ iP A U ob) := fun hm => by have := h.lt hm; omega
  rw [← hW0] at hba
  have HF0 : Hid (Fr w W0 A U U) := Fr.below A U hba
  have H0 := Lib.hid (h.below hba)
  obtain ⟨n0, hn0⟩ : ∃ n0, ps.length = n0 := ⟨_, rfl⟩
  rw [hn0]
  have HN0 := Lib.hid hn0
  have HRI := Lib.hid hri
  obtain ⟨h1w, f1w⟩ := H0.out.tick nw
  have hfd : ∀ W : World, Fr W W.drew A U U := fun W => Fr.below A U (Below.refl _ _).drew
  have HF1 : Hid (Fr w (W0.setCell ⟨A.x, 3, none⟩ (.int .i64 nw)).drew A U U) := (HF0.out.trans f1w).trans (hfd _)
  have H1 : Hid (Duo (W0.setCell ⟨A.x, 3, none⟩ (.int .i64 nw)).drew A U ps R (srt D) ps (rowE R) D nw) := h1w.below (Below.refl _ _).drew
  have HO1 : Hid (OpAt (W0.setCell ⟨A.x, 3, none⟩ (.int .i64 nw)).drew ob kd i n by') := ((OpAt.mk o0 o1 o2 o3 hwl).fr f1w (fun hm => HOB.out (iM_iP hm))).below (Below.refl _ _).drew
  have c3 := H0.out.wld.c3
  have hxl := H0.out.wld.xl
  have hfz := H0.out.wld.fz 3
  have HHK := Lib.hid hk
  have HHS := Lib.hid hs
  have HHN := Lib.hid hnw
  clear hs hnw
  clear h hba hri hn0 h1w f1w hfd hk
  go_enter Tryz.func10, Tryz.ntmps10
  go_wp2_with fail
  rw [← hW0]
  clear hW0 hob
  go_still_tail 13, (by kernel_rfl)
  change wpList _ _ _ _ _ W0.drew
  go_wp2
  rw [HHS.out, HHN.out]
  obtain ⟨W1, hW1⟩ : ∃ W1, W1 = (W0.setCell ⟨A.x, 3, none⟩ (.int .i64 nw)).drew := ⟨_, rfl⟩
  rw [← hW1] at HF1 H1 HO1 ⊢
  clear hW1 o0 o1 o2 o3 c3 hxl hfz hs0 hs3 hwl H0 HF0
  obtain ⟨o0, o1, o2, o3, hol⟩ := HO1.out
  go_quiet (fail)
  rw [HHK.out]
  have HB2 : Hid (Below W1.heap.size W1 (W1.drewN nq)) := below_drewN (Below.refl _ _) nq
  obtain ⟨W2, hW2⟩ : ∃ W2, W2 = W1.drewN nq := ⟨_, rfl⟩
  rw [← hW2] at HB2 ⊢
  clear hW2 o0 o1 o2 o3 hol
  have H2 := Lib.hid (H1.out.below HB2.out)
  have HF2 : Hid (Fr w W2 A U U) := HF1.out.trans (Fr.below A U HB2.out)
  have HO2 := Lib.hid (HO1.out.below HB2.out)
  obtain ⟨o0, o1, o2, o3, hol⟩ := HO2.out
  clear H1 HF1 HO1 HB2
  obtain ⟨⟨ps', y⟩, hact⟩ : ∃ o, kAct 3 n nw ps i = o := ⟨_, rfl⟩
  have hC := call3_any H2.out.wld kd i n by' i hnw0 hnw1
  rw [hact] at hC
  have HC := Lib.hid hC
  have HA : Hid (∀ (W : World) (V : Nat → Value) (v : Value), Dsp W A.d A.t A.g A.c A.l A.m V v ps R (srt D) → Calls Tryz.prog 46 #[.pointer (some ⟨A.d, 0, none⟩), .agg #[.int .i64 kd, .int .i64 i, .int .i64 n, .int .i64 by'], .int .i64 3, .int .i64 i, .int .i64 nw] W (DCall W A.d A.t A.g A.c A.l A.m V v (askR 3 y i R) (srt D) i (ps', y))) := fun W V v hd => by
    have := ask_any 3 (by omega) hd kd i n by' i nw hnw0 hnw1 HRI.out.rlen2 HRI.out.qlen HRI.out.qnd
    rw [hact] at this
    exact this
  have HACT := Lib.hid hact
  clear hC hact
  go_wp2_with fail
  refine HC.out.mono ?_
  intro e w3 hp
  obtain ⟨rfl, U3, hd3, hf3⟩ := H2.out.wpost hp
  have H3 := Lib.hid hd3
  have HF3 := Lib.hid (HF2.out.trans hf3)
  have HO3 := Lib.hid (HO2.out.fr hf3 (fun hm => HOB.out (iM_iP hm)))
  have HOB3 : Hid (¬ iP A U3 ob) := fun hm => by
    rcases hf3.p ob hm with h5 | h5
    · exact HOB.out h5
    · omega
  have d3 := H3.out.wld.c3
  have hxl3 := H3.out.wld.xl
  clear o0 o1 o2 o3 hol hp hd3 hf3 H2 HF2 HO2 HC
  obtain ⟨o0, o1, o2, o3, hol⟩ := HO3.out
  go_wp2_with fail
  go_region_held (fun w' => w'.cell? ⟨A.x, 3, none⟩ = some (.int .i64 nw) ∧ w'.cell? ⟨ob, 0, none⟩ = some (.int .i64 kd) ∧ w'.cell? ⟨ob, 1, none⟩ = some (.int .i64 i) ∧ w'.cell? ⟨ob, 2, none⟩ = some (.int .i64 n) ∧ w'.cell? ⟨ob, 3, none⟩ = some (.int .i64 by')) (first | (exact ⟨d3, o0, o1, o2, o3⟩) | (exact ⟨e3, q0, q1, q2, q3⟩))
    (first | (go_at_call 46; refine (HA.out _ _ _ (H3.out.below (Below.refl _ _).drew).dsp).mono ?_; intro e w4 hp4; obtain ⟨rfl, U4, -, -, hd4, hf4⟩ := (H3.out.below (Below.refl _ _).drew).dpost hp4; have e3 := hd4.wld.c3; obtain ⟨q0, q1, q2, q3, q4⟩ := (HO3.out.below (Below.refl _ _).drew).fr hf4 (fun hm => HOB3.out (iM_iP hm))))
  have H4 := Lib.hid hd4
  have HF4 : Hid (Fr w w4 A U U4) := HF3.out.trans ((Fr.below A U3 (Below.refl _ _).drew).trans hf4)
  have hxl4 := hd4.wld.xl
  clear hp4 hd4 hf4 o0 o1 o2 o3 hol d3 H3 HF3 HO3 HA
  by_cases hy : y = 0
  · subst hy
    obtain ⟨R', D', hst⟩ := kstep (by omega) HRI.out HACT.out
    have hfr : frK 3 = false := rfl
    have hEl := HRI.out.elen
    have hDl := HRI.out.dlen
    have hS := settle_any false H4.out.wld i (by omega) (by omega)
    rw [← hfr, hst.e, hst.d] at hS
    have hfol : folR 0 (lookP ps' i) i (askR 3 0 i R) = R' := by
      unfold folR
      rw [if_pos rfl]
      exact hst.r
    have hfoq : folQ 0 (lookP ps' i) i (srt D) = srt D' := by
      unfold folQ
      rw [if_pos rfl]
      exact hst.q
    have H4' : Hid (Duo w4 A U4 ps' R' (srt D') ps' (rowE R) D nw) := by
      have := H4.out
      rw [hfol, hfoq] at this
      exact this
    have HS := Lib.hid hS
    have HST := Lib.hid hst
    clear hst hS hfr hfol hfoq hEl hDl H4
    go_wp2_with fail
    refine HS.out.mono ?_
    intro e w5 hp5
    obtain ⟨rfl, U5, hd5, hf5⟩ := H4'.out.wpost hp5
    have HP : Hid (DoPost w A U n0 now (.returned (.bool true)) w5) := ⟨U5, ps', R', D', nw, rfl, hd5, HST.out.inv, by rw [HST.out.len]; exact HN0.out, HNW.out.1, HNW.out.2, HF4.out.trans hf5⟩
    clear hp5 hd5 hf5
    go_wp2
    go_ret
    exact HP.out
  · have hyb : (y == 0) = false := by simpa using hy
    have hps := kAct_err HACT.out hy
    have HP : Hid (DoPost w A U n0 now (.returned (.bool true)) w4) := by
      have := H4.out
      unfold folR folQ at this
      rw [if_neg hy, if_neg hy, hps, show askR 3 y i R = R by exact if_neg (by decide)] at this
      exact ⟨U4, ps, R, D, nw, rfl, this, HRI.out, HN0.out, HNW.out.1, HNW.out.2, HF4.out⟩
    have hyy : (y == y) = true := by simp
    clear hps hy
    go_wp2
    go_ret
    exact HP.out

set_option maxRecDepth 100000 in
set_option maxHeartbeats 8000000 in
theorem do4_any {w : World} {A : Ad} {U : Vs} {ps : List Pr} {R : Nat → List Int} {D : List (Int × Int)} {now : Int} (h : Duo w A U ps R (srt D) ps (rowE R) D now) (hri : RInv ps R D) (kd i n by' : Int) (h0 : 0 ≤ now) (h1 : now ≤ 900) (hk : wrap64 ((IntKind.u64.wrap kd).tmod 12) = 4) :
    Calls Tryz.prog 10 #[.pointer (some ⟨A.x, 0, none⟩), .pointer (some ⟨A.d, 0, none⟩), .agg #[.int .i64 kd, .int .i64 i, .int .i64 n, .int .i64 by']] w (DoPost w A U ps.length now) := by
  obtain ⟨s, hs, hs0, hs3⟩ := mod_u by' 3 (by omega) (by omega)
  obtain ⟨nw, hnw⟩ : ∃ nw, wrap64 (now + s) = nw := ⟨_, rfl⟩
  have hnws : nw = now + s := by rw [← hnw]; unfold wrap64; omega
  have hnw0 : 0 ≤ nw := by omega
  have hnw1 : nw ≤ 1000 := by omega
  have HNW : Hid (now ≤ nw ∧ nw ≤ now + 2) := by unfold Hid; omega
  clear hnws
  have hba := (Below.refl w.heap.size w).alloc (Nat.le_refl _) (.cells #[.int .i64 kd, .int .i64 i, .int .i64 n, .int .i64 by'] 32)
  obtain ⟨ob, hob⟩ : ∃ ob, w.heap.size = ob := ⟨_, rfl⟩
  obtain ⟨W0, hW0⟩ : ∃ W0, W0 = w.alloc (.cells #[.int .i64 kd, .int .i64 i, .int .i64 n, .int .i64 by'] 32) := ⟨_, rfl⟩
  have o0 : W0.cell? ⟨ob, 0, none⟩ = some (.int .i64 kd) := by rw [hW0, ← hob]; simp
  have o1 : W0.cell? ⟨ob, 1, none⟩ = some (.int .i64 i) := by rw [hW0, ← hob]; simp
  have o2 : W0.cell? ⟨ob, 2, none⟩ = some (.int .i64 n) := by rw [hW0, ← hob]; simp
  have o3 : W0.cell? ⟨ob, 3, none⟩ = some (.int .i64 by') := by rw [hW0, ← hob]; simp
  have hwl : ob < W0.heap.size := by rw [hW0, ← hob]; simp
  have HOB : Hid (¬ iP A U ob) := fun hm => by have := h.lt hm; omega
  rw [← hW0] at hba
  have HF0 : Hid (Fr w W0 A U U) := Fr.below A U hba
  have H0 := Lib.hid (h.below hba)
  obtain ⟨n0, hn0⟩ : ∃ n0, ps.length = n0 := ⟨_, rfl⟩
  rw [hn0]
  have HN0 := Lib.hid hn0
  have HRI := Lib.hid hri
  obtain ⟨h1w, f1w⟩ := H0.out.tick nw
  have hfd : ∀ W : World, Fr W W.drew A U U := fun W => Fr.below A U (Below.refl _ _).drew
  have HF1 : Hid (Fr w (W0.setCell ⟨A.x, 3, none⟩ (.int .i64 nw)).drew A U U) := (HF0.out.trans f1w).trans (hfd _)
  have H1 : Hid (Duo (W0.setCell ⟨A.x, 3, none⟩ (.int .i64 nw)).drew A U ps R (srt D) ps (rowE R) D nw) := h1w.below (Below.refl _ _).drew
  have HO1 : Hid (OpAt (W0.setCell ⟨A.x, 3, none⟩ (.int .i64 nw)).drew ob kd i n by') := ((OpAt.mk o0 o1 o2 o3 hwl).fr f1w (fun hm => HOB.out (iM_iP hm))).below (Below.refl _ _).drew
  have c3 := H0.out.wld.c3
  have hxl := H0.out.wld.xl
  have hfz := H0.out.wld.fz 3
  have HHK := Lib.hid hk
  have HHS := Lib.hid hs
  have HHN := Lib.hid hnw
  clear hs hnw
  clear h hba hri hn0 h1w f1w hfd hk
  go_enter Tryz.func10, Tryz.ntmps10
  go_wp2_with fail
  rw [← hW0]
  clear hW0 hob
  go_still_tail 13, (by kernel_rfl)
  change wpList _ _ _ _ _ W0.drew
  go_wp2
  rw [HHS.out, HHN.out]
  obtain ⟨W1, hW1⟩ : ∃ W1, W1 = (W0.setCell ⟨A.x, 3, none⟩ (.int .i64 nw)).drew := ⟨_, rfl⟩
  rw [← hW1] at HF1 H1 HO1 ⊢
  clear hW1 o0 o1 o2 o3 c3 hxl hfz hs0 hs3 hwl H0 HF0
  obtain ⟨o0, o1, o2, o3, hol⟩ := HO1.out
  go_quiet (fail)
  rw [HHK.out]
  have HB2 : Hid (Below W1.heap.size W1 (W1.drewN nq)) := below_drewN (Below.refl _ _) nq
  obtain ⟨W2, hW2⟩ : ∃ W2, W2 = W1.drewN nq := ⟨_, rfl⟩
  rw [← hW2] at HB2 ⊢
  clear hW2 o0 o1 o2 o3 hol
  have H2 := Lib.hid (H1.out.below HB2.out)
  have HF2 : Hid (Fr w W2 A U U) := HF1.out.trans (Fr.below A U HB2.out)
  have HO2 := Lib.hid (HO1.out.below HB2.out)
  obtain ⟨o0, o1, o2, o3, hol⟩ := HO2.out
  clear H1 HF1 HO1 HB2
  obtain ⟨⟨ps', y⟩, hact⟩ : ∃ o, kAct 4 n nw ps i = o := ⟨_, rfl⟩
  have hC := call4_any H2.out.wld kd i n by' i hnw0 hnw1
  rw [hact] at hC
  have HC := Lib.hid hC
  have HA : Hid (∀ (W : World) (V : Nat → Value) (v : Value), Dsp W A.d A.t A.g A.c A.l A.m V v ps R (srt D) → Calls Tryz.prog 46 #[.pointer (some ⟨A.d, 0, none⟩), .agg #[.int .i64 kd, .int .i64 i, .int .i64 n, .int .i64 by'], .int .i64 4, .int .i64 i, .int .i64 nw] W (DCall W A.d A.t A.g A.c A.l A.m V v (askR 4 y i R) (srt D) i (ps', y))) := fun W V v hd => by
    have := ask_any 4 (by omega) hd kd i n by' i nw hnw0 hnw1 HRI.out.rlen2 HRI.out.qlen HRI.out.qnd
    rw [hact] at this
    exact this
  have HACT := Lib.hid hact
  clear hC hact
  go_wp2_with fail
  refine HC.out.mono ?_
  intro e w3 hp
  obtain ⟨rfl, U3, hd3, hf3⟩ := H2.out.wpost hp
  have H3 := Lib.hid hd3
  have HF3 := Lib.hid (HF2.out.trans hf3)
  have HO3 := Lib.hid (HO2.out.fr hf3 (fun hm => HOB.out (iM_iP hm)))
  have HOB3 : Hid (¬ iP A U3 ob) := fun hm => by
    rcases hf3.p ob hm with h5 | h5
    · exact HOB.out h5
    · omega
  have d3 := H3.out.wld.c3
  have hxl3 := H3.out.wld.xl
  clear o0 o1 o2 o3 hol hp hd3 hf3 H2 HF2 HO2 HC
  obtain ⟨o0, o1, o2, o3, hol⟩ := HO3.out
  go_wp2_with fail
  go_region_held (fun w' => w'.cell? ⟨A.x, 3, none⟩ = some (.int .i64 nw) ∧ w'.cell? ⟨ob, 0, none⟩ = some (.int .i64 kd) ∧ w'.cell? ⟨ob, 1, none⟩ = some (.int .i64 i) ∧ w'.cell? ⟨ob, 2, none⟩ = some (.int .i64 n) ∧ w'.cell? ⟨ob, 3, none⟩ = some (.int .i64 by')) (first | (exact ⟨d3, o0, o1, o2, o3⟩) | (exact ⟨e3, q0, q1, q2, q3⟩))
    (first | (go_at_call 46; refine (HA.out _ _ _ (H3.out.below (Below.refl _ _).drew).dsp).mono ?_; intro e w4 hp4; obtain ⟨rfl, U4, -, -, hd4, hf4⟩ := (H3.out.below (Below.refl _ _).drew).dpost hp4; have e3 := hd4.wld.c3; obtain ⟨q0, q1, q2, q3, q4⟩ := (HO3.out.below (Below.refl _ _).drew).fr hf4 (fun hm => HOB3.out (iM_iP hm))))
  have H4 := Lib.hid hd4
  have HF4 : Hid (Fr w w4 A U U4) := HF3.out.trans ((Fr.below A U3 (Below.refl _ _).drew).trans hf4)
  have hxl4 := hd4.wld.xl
  clear hp4 hd4 hf4 o0 o1 o2 o3 hol d3 H3 HF3 HO3 HA
  by_cases hy : y = 0
  · subst hy
    obtain ⟨R', D', hst⟩ := kstep (by omega) HRI.out HACT.out
    have hfr : frK 4 = true := rfl
    have hEl := HRI.out.elen
    have hDl := HRI.out.dlen
    have hS := settle_any true H4.out.wld i (by omega) (by omega)
    rw [← hfr, hst.e, hst.d] at hS
    have hfol : folR 0 (lookP ps' i) i (askR 4 0 i R) = R' := by
      unfold folR
      rw [if_pos rfl]
      exact hst.r
    have hfoq : folQ 0 (lookP ps' i) i (srt D) = srt D' := by
      unfold folQ
      rw [if_pos rfl]
      exact hst.q
    have H4' : Hid (Duo w4 A U4 ps' R' (srt D') ps' (rowE R) D nw) := by
      have := H4.out
      rw [hfol, hfoq] at this
      exact this
    have HS := Lib.hid hS
    have HST := Lib.hid hst
    clear hst hS hfr hfol hfoq hEl hDl H4
    go_wp2_with fail
    refine HS.out.mono ?_
    intro e w5 hp5
    obtain ⟨rfl, U5, hd5, hf5⟩ := H4'.out.wpost hp5
    have HP : Hid (DoPost w A U n0 now (.returned (.bool true)) w5) := ⟨U5, ps', R', D', nw, rfl, hd5, HST.out.inv, by rw [HST.out.len]; exact HN0.out, HNW.out.1, HNW.out.2, HF4.out.trans hf5⟩
    clear hp5 hd5 hf5
    go_wp2
    go_ret
    exact HP.out
  · have hyb : (y == 0) = false := by simpa using hy
    have hps := kAct_err HACT.out hy
    have HP : Hid (DoPost w A U n0 now (.returned (.bool true)) w4) := by
      have := H4.out
      unfold folR folQ at this
      rw [if_neg hy, if_neg hy, hps, show askR 4 y i R = R by exact if_neg (by decide)] at this
      exact ⟨U4, ps, R, D, nw, rfl, this, HRI.out, HN0.out, HNW.out.1, HNW.out.2, HF4.out⟩
    have hyy : (y == y) = true := by simp
    clear hps hy
    go_wp2
    go_ret
    exact HP.out

end Go.Proofs.YtgnjenmicojgnaaGreat
