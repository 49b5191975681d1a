/-
  What Do answers: SetPriority, Raise and Charge.
-/
import Derived.Test.YtgnjenmicojgnaaGreatT5w
namespace Go.Proofs.YtgnjenmicojgnaaGreat
set_option linter.unusedVariables false
set_option linter.unusedSimpArgs false
open Go.RowKit

set_option maxRecDepth 100000 in
set_option maxHeartbeats 8000000 in
theorem do7_any {w : World} {A : Ad} {U : Vs} {ps : List Pr} {R : Nat → List Int} {D : List (Int × Int)} {now : Int} (h : Duo w A U ps R (srt D) ps (rowE R) D now) (hri : RInv ps R D) (kd i n by' : Int) (h0 : 0 ≤ now) (h1 : now ≤ 900) (hk : wrap64 ((IntKind.u64.wrap kd).tmod 12) = 7) :
    Calls Tryz.prog 10 #[.pointer (some ⟨A.x, 0, none⟩), .pointer (some ⟨A.d, 0, none⟩), .agg #[.int .i64 kd, .int .i64 i, .int .i64 n, .int .i64 by']] w (DoPost w A U ps.length now) := by
  obtain ⟨s, hs, hs0, hs3⟩ := mod_u by' 3 (by omega) (by omega)
  obtain ⟨nw, hnw⟩ : ∃ nw, wrap64 (now + s) = nw := ⟨_, rfl⟩
  have hnws : nw = now + s := by rw [← hnw]; unfold wrap64; omega
  have hnw0 : 0 ≤ nw := by omega
  have hnw1 : nw ≤ 1000 := by omega
  have HNW : Hid (now ≤ nw ∧ nw ≤ now + 2) := by unfold Hid; omega
  clear hnws
  have hba := (Below.refl w.heap.size w).alloc (Nat.le_refl _) (.cells #[.int .i64 kd, .int .i64 i, .int .i64 n, .int .i64 by'] 32)
  obtain ⟨ob, hob⟩ : ∃ ob, w.heap.size = ob := ⟨_, rfl⟩
  obtain ⟨W0, hW0⟩ : ∃ W0, W0 = w.alloc (.cells #[.int .i64 kd, .int .i64 i, .int .i64 n, .int .i64 by'] 32) := ⟨_, rfl⟩
  have o0 : W0.cell? ⟨ob, 0, none⟩ = some (.int .i64 kd) := by rw [hW0, ← hob]; simp
  have o1 : W0.cell? ⟨ob, 1, none⟩ = some (.int .i64 i) := by rw [hW0, ← hob]; simp
  have o2 : W0.cell? ⟨ob, 2, none⟩ = some (.int .i64 n) := by rw [hW0, ← hob]; simp
  have o3 : W0.cell? ⟨ob, 3, none⟩ = some (.int .i64 by') := by rw [hW0, ← hob]; simp
  have hwl : ob < W0.heap.size := by rw [hW0, ← hob]; simp
  have HOB : Hid (¬ iP A U ob) := fun hm => by have := h.lt hm; omega
  rw [← hW0] at hba
  have HF0 : Hid (Fr w W0 A U U) := Fr.below A U hba
  have H0 := Lib.hid (h.below hba)
  obtain ⟨n0, hn0⟩ : ∃ n0, ps.length = n0 := ⟨_, rfl⟩
  rw [hn0]
  have HN0 := Lib.hid hn0
  have HRI := Lib.hid hri
  obtain ⟨h1w, f1w⟩ := H0.out.tick nw
  have hfd : ∀ W : World, Fr W W.drew A U U := fun W => Fr.below A U (Below.refl _ _).drew
  have HF1 : Hid (Fr w (W0.setCell ⟨A.x, 3, none⟩ (.int .i64 nw)).drew A U U) := (HF0.out.trans f1w).trans (hfd _)
  have H1 : Hid (Duo (W0.setCell ⟨A.x, 3, none⟩ (.int .i64 nw)).drew A U ps R (srt D) ps (rowE R) D nw) := h1w.below (Below.refl _ _).drew
  have HO1 : Hid (OpAt (W0.setCell ⟨A.x, 3, none⟩ (.int .i64 nw)).drew ob kd i n by') := ((OpAt.mk o0 o1 o2 o3 hwl).fr f1w (fun hm => HOB.out (iM_iP hm))).below (Below.refl _ _).drew
  have c3 := H0.out.wld.c3
  have hxl := H0.out.wld.xl
  have hfz := H0.out.wld.fz 3
  have HHK := Lib.hid hk
  have HHS := Lib.hid hs
  have HHN := Lib.hid hnw
  clear hs hnw
  clear h hba hri hn0 h1w f1w hfd hk
  go_enter Tryz.func10, Tryz.ntmps10
  go_wp2_with fail
  rw [← hW0]
  clear hW0 hob
  go_still_tail 13, (by kernel_rfl)
  change wpList _ _ _ _ _ W0.drew
  go_wp2
  rw [HHS.out, HHN.out]
  obtain ⟨W1, hW1⟩ : ∃ W1, W1 = (W0.setCell ⟨A.x, 3, none⟩ (.int .i64 nw)).drew := ⟨_, rfl⟩
  rw [← hW1] at HF1 H1 HO1 ⊢
  clear hW1 o0 o1 o2 o3 c3 hxl hfz hs0 hs3 hwl H0 HF0
  obtain ⟨o0, o1, o2, o3, hol⟩ := HO1.out
  go_quiet (fail)
  rw [HHK.out]
  have HB2 : Hid (Below W1.heap.size W1 (W1.drewN nq)) := below_drewN (Below.refl _ _) nq
  obtain ⟨W2, hW2⟩ : ∃ W2, W2 = W1.drewN nq := ⟨_, rfl⟩
  rw [← hW2] at HB2 ⊢
  clear hW2 o0 o1 o2 o3 hol
  have H2 := Lib.hid (H1.out.below HB2.out)
  have HF2 : Hid (Fr w W2 A U U) := HF1.out.trans (Fr.below A U HB2.out)
  have HO2 := Lib.hid (HO1.out.below HB2.out)
  obtain ⟨o0, o1, o2, o3, hol⟩ := HO2.out
  clear H1 HF1 HO1 HB2
  obtain ⟨⟨ps', y⟩, hact⟩ : ∃ o, act (setpF n) (inB n 1 63) ps i = o := ⟨_, rfl⟩
  obtain ⟨cu, hcu⟩ : ∃ cu, curR (lookP ps i) = cu := ⟨_, rfl⟩
  have HCU := Lib.hid hcu
  have HACT := Lib.hid hact
  have hok' : ∀ p, p ∈ ps' → p.Ok := by
    have := act_ok (keeps_setp n) HRI.out.ok i (may := inB n 1 63)
    rw [hact] at this
    exact this
  have HOK := Lib.hid hok'
  have HA : Hid (∀ (W : World) (V : Nat → Value) (v : Value), Dsp W A.d A.t A.g A.c A.l A.m V v ps R (srt D) → Calls Tryz.prog 35 #[.pointer (some ⟨A.d, 0, none⟩), .int .i64 i, .int .i64 n] W (DMove W A.d A.t A.g A.c A.l A.m V v R (srt D) i false (ps', y))) := fun W V v hd => by
    have := dsetp_any hd i n HRI.out.rlen2 (HRI.out.rm_none i)
    rw [hact] at this
    exact this
  have d0 := H2.out.wld.c0
  have hxl2 := H2.out.wld.xl
  clear hact hcu hok'
  go_wp2_with fail
  refine (cur_is i HCU.out H2.out.wld.T).mono ?_
  rintro e w3 ⟨rfl, hb3⟩
  have H3 := Lib.hid (H2.out.below hb3)
  have HF3 : Hid (Fr w w3 A U U) := HF2.out.trans (Fr.below A U hb3)
  have HO3 := Lib.hid (HO2.out.below hb3)
  have e0 := H3.out.wld.c0
  have hxl3 := H3.out.wld.xl
  clear o0 o1 o2 o3 hol hb3 H2 HF2 HO2 d0
  obtain ⟨o0, o1, o2, o3, hol⟩ := HO3.out
  have HTA : Hid (∀ w5, Tab w5 A.t2 A.g2 A.c2 ps' → Apart w3.drew.heap.size w3.drew w5 A.g2 → ∃ U5, U5 = U ∧ Duo w5 A U5 ps R (srt D) ps' (rowE R) D nw ∧ Fr w3 w5 A U U5 ∧ OpAt w5 ob kd i n by') := fun w5 hT5 hA5 => by
    have hd := H3.out.below (Below.refl w3.heap.size w3).drew
    obtain ⟨-, U5, h5, h6⟩ := hd.wpost (r := .bool true) ⟨rfl, U.vE, U.vD, hd.wld.tab hT5 HOK.out hA5, hA5.kept.mono (fun i _ e => .inr e), fun b hb => .inl hb, fun b hb => .inl hb⟩
    have h7 := hd.wld.tab hT5 HOK.out hA5
    have h8 : Fr w3.drew w5 A U U := ⟨hA5.kept.mono (fun i _ e => .inr (.inr e)), fun i hi => .inl hi, fun i hi => .inl hi⟩
    have hdk := hd.dsp.kept hA5.kept (fun i hi (e : i = A.g2) => hd.dis i hi (.inr (.inr (.inl e))))
    exact ⟨U, rfl, ⟨hdk, h7, hd.dis⟩, (Fr.below A U (Below.refl w3.heap.size w3).drew).trans h8, (HO3.out.below (Below.refl w3.heap.size w3).drew).fr h8 (fun hm => HOB.out (iM_iP hm))⟩
  go_wp2_with fail
  go_region_held (fun w' => w'.cell? ⟨A.x, 0, none⟩ = some (.pointer (some ⟨A.t2, 0, none⟩)) ∧ w'.cell? ⟨ob, 2, none⟩ = some (.int .i64 n)) (first | (exact ⟨e0, o2⟩) | (exact ⟨f0, q2⟩) | (exact ⟨g0, r2⟩))
    (first
      | (go_at_call 39; refine (setp_is i n HACT.out (H3.out.below (Below.refl _ _).drew).wld.T H3.out.wld.ok).mono ?_; rintro e w5 ⟨rfl, hT5, hA5⟩; obtain ⟨U5, hU5, hd5, hf5, ho5⟩ := HTA.out w5 hT5 hA5; have f0 := hd5.wld.c0; have q2 := ho5.c2)
      | (go_at_call 35; refine (HA.out _ _ _ hd5.dsp).mono ?_; intro e w6 hp6; obtain ⟨rfl, U6, -, -, hd6, hf6⟩ := hd5.dpost hp6; have g0 := hd6.wld.c0; have r2 := (ho5.fr hf6 (fun hm => HOB.out (iM_iP (by rw [← hU5]; exact hm)))).c2))
  have H6 := Lib.hid hd6
  have HF6 : Hid (Fr w w6 A U U6) := HF3.out.trans (hf5.trans hf6)
  have hxl6 := hd6.wld.xl
  clear hT5 hA5 hd5 hf5 ho5 hp6 hd6 hf6 o0 o1 o2 o3 hol e0 HTA HA hU5
  by_cases hy : y = 0
  · subst hy
    obtain ⟨hm, hi0, hi1, p', hf, hps⟩ := act_get HACT.out
    have hlk : lookP ps' i = p' := by rw [hps, lookP_set hi0 hi1 hi0, if_pos rfl]
    have hpok : p'.Ok := HOK.out p' (by rw [hps]; exact List.mem_of_getElem? (show (ps.set i.toNat p')[i.toNat]? = some p' by rw [List.getElem?_set, if_pos rfl, if_pos (by omega)]))
    unfold setpF at hf
    obtain ⟨-, hp'⟩ := some_ite hf
    have hs1 : stateR p' = stateR (lookP ps i) := by rw [← hp']; rfl
    have hs2 : untilB p' = untilB (lookP ps i) := by rw [← hp']; rfl
    have hs3 : untilR p' = untilR (lookP ps i) := by rw [← hp']; rfl
    have hinv := HRI.out.mv false hi0 hi1 hpok hs1 hs2 hs3
    have hpe := HRI.out.prE false hi0 hi1 hpok hs1
    rw [← hps] at hinv
    obtain ⟨R', hR'⟩ : ∃ R', mvR false i (curR p').toNat R = R' := ⟨_, rfl⟩
    rw [hR'] at hinv hpe
    have hEl := HRI.out.elen
    have hS := priority_any false H6.out.wld i cu (by omega)
    rw [hlk, ← HCU.out, hpe, HCU.out] at hS
    have H6' : Hid (Duo w6 A U6 ps' R' (srt D) ps' (rowE R) D nw) := by
      have := H6.out
      rw [if_pos rfl, hlk, hR'] at this
      exact this
    have HS := Lib.hid hS
    have HINV := Lib.hid hinv
    have HLEN : Hid (ps'.length = n0) := by unfold Hid; rw [hps, List.length_set]; exact HN0.out
    clear hm hi0 hi1 hf hps hlk hpok hp' hs1 hs2 hs3 hinv hpe hR' hEl hS H6
    go_wp2_with fail
    refine HS.out.mono ?_
    intro e w7 hp7
    obtain ⟨rfl, U7, hd7, hf7⟩ := H6'.out.wpost hp7
    have HP : Hid (DoPost w A U n0 now (.returned (.bool true)) w7) := ⟨U7, ps', R', D, nw, rfl, hd7, HINV.out, HLEN.out, HNW.out.1, HNW.out.2, HF6.out.trans hf7⟩
    clear hp7 hd7 hf7
    go_wp2
    go_ret
    exact HP.out
  · have hyb : (y == 0) = false := by simpa using hy
    have hps := act_err HACT.out hy
    have HP : Hid (DoPost w A U n0 now (.returned (.bool true)) w6) := by
      have := H6.out
      rw [if_neg hy, hps] at this
      exact ⟨U6, ps, R, D, nw, rfl, this, HRI.out, HN0.out, HNW.out.1, HNW.out.2, HF6.out⟩
    have hyy : (y == y) = true := by simp
    clear hps hy
    go_wp2
    go_ret
    exact HP.out

set_option maxRecDepth 100000 in
set_option maxHeartbeats 8000000 in
theorem do8_any {w : World} {A : Ad} {U : Vs} {ps : List Pr} {R : Nat → List Int} {D : List (Int × Int)} {now : Int} (h : Duo w A U ps R (srt D) ps (rowE R) D now) (hri : RInv ps R D) (kd i n by' : Int) (h0 : 0 ≤ now) (h1 : now ≤ 900) (hk : wrap64 ((IntKind.u64.wrap kd).tmod 12) = 8) :
    Calls Tryz.prog 10 #[.pointer (some ⟨A.x, 0, none⟩), .pointer (some ⟨A.d, 0, none⟩), .agg #[.int .i64 kd, .int .i64 i, .int .i64 n, .int .i64 by']] w (DoPost w A U ps.length now) := by
  obtain ⟨s, hs, hs0, hs3⟩ := mod_u by' 3 (by omega) (by omega)
  obtain ⟨nw, hnw⟩ : ∃ nw, wrap64 (now + s) = nw := ⟨_, rfl⟩
  have hnws : nw = now + s := by rw [← hnw]; unfold wrap64; omega
  have hnw0 : 0 ≤ nw := by omega
  have hnw1 : nw ≤ 1000 := by omega
  have HNW : Hid (now ≤ nw ∧ nw ≤ now + 2) := by unfold Hid; omega
  clear hnws
  have hba := (Below.refl w.heap.size w).alloc (Nat.le_refl _) (.cells #[.int .i64 kd, .int .i64 i, .int .i64 n, .int .i64 by'] 32)
  obtain ⟨ob, hob⟩ : ∃ ob, w.heap.size = ob := ⟨_, rfl⟩
  obtain ⟨W0, hW0⟩ : ∃ W0, W0 = w.alloc (.cells #[.int .i64 kd, .int .i64 i, .int .i64 n, .int .i64 by'] 32) := ⟨_, rfl⟩
  have o0 : W0.cell? ⟨ob, 0, none⟩ = some (.int .i64 kd) := by rw [hW0, ← hob]; simp
  have o1 : W0.cell? ⟨ob, 1, none⟩ = some (.int .i64 i) := by rw [hW0, ← hob]; simp
  have o2 : W0.cell? ⟨ob, 2, none⟩ = some (.int .i64 n) := by rw [hW0, ← hob]; simp
  have o3 : W0.cell? ⟨ob, 3, none⟩ = some (.int .i64 by') := by rw [hW0, ← hob]; simp
  have hwl : ob < W0.heap.size := by rw [hW0, ← hob]; simp
  have HOB : Hid (¬ iP A U ob) := fun hm => by have := h.lt hm; omega
  rw [← hW0] at hba
  have HF0 : Hid (Fr w W0 A U U) := Fr.below A U hba
  have H0 := Lib.hid (h.below hba)
  obtain ⟨n0, hn0⟩ : ∃ n0, ps.length = n0 := ⟨_, rfl⟩
  rw [hn0]
  have HN0 := Lib.hid hn0
  have HRI := Lib.hid hri
  obtain ⟨h1w, f1w⟩ := H0.out.tick nw
  have hfd : ∀ W : World, Fr W W.drew A U U := fun W => Fr.below A U (Below.refl _ _).drew
  have HF1 : Hid (Fr w (W0.setCell ⟨A.x, 3, none⟩ (.int .i64 nw)).drew A U U) := (HF0.out.trans f1w).trans (hfd _)
  have H1 : Hid (Duo (W0.setCell ⟨A.x, 3, none⟩ (.int .i64 nw)).drew A U ps R (srt D) ps (rowE R) D nw) := h1w.below (Below.refl _ _).drew
  have HO1 : Hid (OpAt (W0.setCell ⟨A.x, 3, none⟩ (.int .i64 nw)).drew ob kd i n by') := ((OpAt.mk o0 o1 o2 o3 hwl).fr f1w (fun hm => HOB.out (iM_iP hm))).below (Below.refl _ _).drew
  have c3 := H0.out.wld.c3
  have hxl := H0.out.wld.xl
  have hfz := H0.out.wld.fz 3
  have HHK := Lib.hid hk
  have HHS := Lib.hid hs
  have HHN := Lib.hid hnw
  clear hs hnw
  clear h hba hri hn0 h1w f1w hfd hk
  go_enter Tryz.func10, Tryz.ntmps10
  go_wp2_with fail
  rw [← hW0]
  clear hW0 hob
  go_still_tail 13, (by kernel_rfl)
  change wpList _ _ _ _ _ W0.drew
  go_wp2
  rw [HHS.out, HHN.out]
  obtain ⟨W1, hW1⟩ : ∃ W1, W1 = (W0.setCell ⟨A.x, 3, none⟩ (.int .i64 nw)).drew := ⟨_, rfl⟩
  rw [← hW1] at HF1 H1 HO1 ⊢
  clear hW1 o0 o1 o2 o3 c3 hxl hfz hs0 hs3 hwl H0 HF0
  obtain ⟨o0, o1, o2, o3, hol⟩ := HO1.out
  go_quiet (fail)
  rw [HHK.out]
  have HB2 : Hid (Below W1.heap.size W1 (W1.drewN nq)) := below_drewN (Below.refl _ _) nq
  obtain ⟨W2, hW2⟩ : ∃ W2, W2 = W1.drewN nq := ⟨_, rfl⟩
  rw [← hW2] at HB2 ⊢
  clear hW2 o0 o1 o2 o3 hol
  have H2 := Lib.hid (H1.out.below HB2.out)
  have HF2 : Hid (Fr w W2 A U U) := HF1.out.trans (Fr.below A U HB2.out)
  have HO2 := Lib.hid (HO1.out.below HB2.out)
  obtain ⟨o0, o1, o2, o3, hol⟩ := HO2.out
  clear H1 HF1 HO1 HB2
  obtain ⟨⟨ps', y⟩, hact⟩ : ∃ o, act (raisF n) (inB n 0 63) ps i = o := ⟨_, rfl⟩
  obtain ⟨cu, hcu⟩ : ∃ cu, curR (lookP ps i) = cu := ⟨_, rfl⟩
  have HCU := Lib.hid hcu
  have HACT := Lib.hid hact
  have hok' : ∀ p, p ∈ ps' → p.Ok := by
    have := act_ok (keeps_rais n) HRI.out.ok i (may := inB n 0 63)
    rw [hact] at this
    exact this
  have HOK := Lib.hid hok'
  have HA : Hid (∀ (W : World) (V : Nat → Value) (v : Value), Dsp W A.d A.t A.g A.c A.l A.m V v ps R (srt D) → Calls Tryz.prog 36 #[.pointer (some ⟨A.d, 0, none⟩), .int .i64 i, .int .i64 n] W (DMove W A.d A.t A.g A.c A.l A.m V v R (srt D) i true (ps', y))) := fun W V v hd => by
    have := drais_any hd i n HRI.out.rlen2 (HRI.out.rm_none i)
    rw [hact] at this
    exact this
  have d0 := H2.out.wld.c0
  have hxl2 := H2.out.wld.xl
  clear hact hcu hok'
  go_wp2_with fail
  refine (cur_is i HCU.out H2.out.wld.T).mono ?_
  rintro e w3 ⟨rfl, hb3⟩
  have H3 := Lib.hid (H2.out.below hb3)
  have HF3 : Hid (Fr w w3 A U U) := HF2.out.trans (Fr.below A U hb3)
  have HO3 := Lib.hid (HO2.out.below hb3)
  have e0 := H3.out.wld.c0
  have hxl3 := H3.out.wld.xl
  clear o0 o1 o2 o3 hol hb3 H2 HF2 HO2 d0
  obtain ⟨o0, o1, o2, o3, hol⟩ := HO3.out
  have HTA : Hid (∀ w5, Tab w5 A.t2 A.g2 A.c2 ps' → Apart w3.drew.heap.size w3.drew w5 A.g2 → ∃ U5, U5 = U ∧ Duo w5 A U5 ps R (srt D) ps' (rowE R) D nw ∧ Fr w3 w5 A U U5 ∧ OpAt w5 ob kd i n by') := fun w5 hT5 hA5 => by
    have hd := H3.out.below (Below.refl w3.heap.size w3).drew
    obtain ⟨-, U5, h5, h6⟩ := hd.wpost (r := .bool true) ⟨rfl, U.vE, U.vD, hd.wld.tab hT5 HOK.out hA5, hA5.kept.mono (fun i _ e => .inr e), fun b hb => .inl hb, fun b hb => .inl hb⟩
    have h7 := hd.wld.tab hT5 HOK.out hA5
    have h8 : Fr w3.drew w5 A U U := ⟨hA5.kept.mono (fun i _ e => .inr (.inr e)), fun i hi => .inl hi, fun i hi => .inl hi⟩
    have hdk := hd.dsp.kept hA5.kept (fun i hi (e : i = A.g2) => hd.dis i hi (.inr (.inr (.inl e))))
    exact ⟨U, rfl, ⟨hdk, h7, hd.dis⟩, (Fr.below A U (Below.refl w3.heap.size w3).drew).trans h8, (HO3.out.below (Below.refl w3.heap.size w3).drew).fr h8 (fun hm => HOB.out (iM_iP hm))⟩
  go_wp2_with fail
  go_region_held (fun w' => w'.cell? ⟨A.x, 0, none⟩ = some (.pointer (some ⟨A.t2, 0, none⟩)) ∧ w'.cell? ⟨ob, 2, none⟩ = some (.int .i64 n)) (first | (exact ⟨e0, o2⟩) | (exact ⟨f0, q2⟩) | (exact ⟨g0, r2⟩))
    (first
      | (go_at_call 40; refine (rais_is i n HACT.out (H3.out.below (Below.refl _ _).drew).wld.T H3.out.wld.ok).mono ?_; rintro e w5 ⟨rfl, hT5, hA5⟩; obtain ⟨U5, hU5, hd5, hf5, ho5⟩ := HTA.out w5 hT5 hA5; have f0 := hd5.wld.c0; have q2 := ho5.c2)
      | (go_at_call 36; refine (HA.out _ _ _ hd5.dsp).mono ?_; intro e w6 hp6; obtain ⟨rfl, U6, -, -, hd6, hf6⟩ := hd5.dpost hp6; have g0 := hd6.wld.c0; have r2 := (ho5.fr hf6 (fun hm => HOB.out (iM_iP (by rw [← hU5]; exact hm)))).c2))
  have H6 := Lib.hid hd6
  have HF6 : Hid (Fr w w6 A U U6) := HF3.out.trans (hf5.trans hf6)
  have hxl6 := hd6.wld.xl
  clear hT5 hA5 hd5 hf5 ho5 hp6 hd6 hf6 o0 o1 o2 o3 hol e0 HTA HA hU5
  by_cases hy : y = 0
  · subst hy
    obtain ⟨hm, hi0, hi1, p', hf, hps⟩ := act_get HACT.out
    have hlk : lookP ps' i = p' := by rw [hps, lookP_set hi0 hi1 hi0, if_pos rfl]
    have hpok : p'.Ok := HOK.out p' (by rw [hps]; exact List.mem_of_getElem? (show (ps.set i.toNat p')[i.toNat]? = some p' by rw [List.getElem?_set, if_pos rfl, if_pos (by omega)]))
    unfold raisF at hf
    obtain ⟨-, hp'⟩ := some_ite hf
    have hs1 : stateR p' = stateR (lookP ps i) := by rw [← hp']; rfl
    have hs2 : untilB p' = untilB (lookP ps i) := by rw [← hp']; rfl
    have hs3 : untilR p' = untilR (lookP ps i) := by rw [← hp']; rfl
    have hinv := HRI.out.mv true hi0 hi1 hpok hs1 hs2 hs3
    have hpe := HRI.out.prE true hi0 hi1 hpok hs1
    rw [← hps] at hinv
    obtain ⟨R', hR'⟩ : ∃ R', mvR true i (curR p').toNat R = R' := ⟨_, rfl⟩
    rw [hR'] at hinv hpe
    have hEl := HRI.out.elen
    have hS := priority_any true H6.out.wld i cu (by omega)
    rw [hlk, ← HCU.out, hpe, HCU.out] at hS
    have H6' : Hid (Duo w6 A U6 ps' R' (srt D) ps' (rowE R) D nw) := by
      have := H6.out
      rw [if_pos rfl, hlk, hR'] at this
      exact this
    have HS := Lib.hid hS
    have HINV := Lib.hid hinv
    have HLEN : Hid (ps'.length = n0) := by unfold Hid; rw [hps, List.length_set]; exact HN0.out
    clear hm hi0 hi1 hf hps hlk hpok hp' hs1 hs2 hs3 hinv hpe hR' hEl hS H6
    go_wp2_with fail
    refine HS.out.mono ?_
    intro e w7 hp7
    obtain ⟨rfl, U7, hd7, hf7⟩ := H6'.out.wpost hp7
    have HP : Hid (DoPost w A U n0 now (.returned (.bool true)) w7) := ⟨U7, ps', R', D, nw, rfl, hd7, HINV.out, HLEN.out, HNW.out.1, HNW.out.2, HF6.out.trans hf7⟩
    clear hp7 hd7 hf7
    go_wp2
    go_ret
    exact HP.out
  · have hyb : (y == 0) = false := by simpa using hy
    have hps := act_err HACT.out hy
    have HP : Hid (DoPost w A U n0 now (.returned (.bool true)) w6) := by
      have := H6.out
      rw [if_neg hy, hps] at this
      exact ⟨U6, ps, R, D, nw, rfl, this, HRI.out, HN0.out, HNW.out.1, HNW.out.2, HF6.out⟩
    have hyy : (y == y) = true := by simp
    clear hps hy
    go_wp2
    go_ret
    exact HP.out

set_option maxRecDepth 100000 in
set_option maxHeartbeats 8000000 in
theorem do10_any {w : World} {A : Ad} {U : Vs} {ps : List Pr} {R : Nat → List Int} {D : List (Int × Int)} {now : Int} (h : Duo w A U ps R (srt D) ps (rowE R) D now) (hri : RInv ps R D) (kd i n by' : Int) (h0 : 0 ≤ now) (h1 : now ≤ 900) (hk : wrap64 ((IntKind.u64.wrap kd).tmod 12) = 10) :
    Calls Tryz.prog 10 #[.pointer (some ⟨A.x, 0, none⟩), .pointer (some ⟨A.d, 0, none⟩), .agg #[.int .i64 kd, .int .i64 i, .int .i64 n, .int .i64 by']] w (DoPost w A U ps.length now) := by
  obtain ⟨s, hs, hs0, hs3⟩ := mod_u by' 3 (by omega) (by omega)
  obtain ⟨nw, hnw⟩ : ∃ nw, wrap64 (now + s) = nw := ⟨_, rfl⟩
  have hnws : nw = now + s := by rw [← hnw]; unfold wrap64; omega
  have hnw0 : 0 ≤ nw := by omega
  have hnw1 : nw ≤ 1000 := by omega
  have HNW : Hid (now ≤ nw ∧ nw ≤ now + 2) := by unfold Hid; omega
  clear hnws
  have hba := (Below.refl w.heap.size w).alloc (Nat.le_refl _) (.cells #[.int .i64 kd, .int .i64 i, .int .i64 n, .int .i64 by'] 32)
  obtain ⟨ob, hob⟩ : ∃ ob, w.heap.size = ob := ⟨_, rfl⟩
  obtain ⟨W0, hW0⟩ : ∃ W0, W0 = w.alloc (.cells #[.int .i64 kd, .int .i64 i, .int .i64 n, .int .i64 by'] 32) := ⟨_, rfl⟩
  have o0 : W0.cell? ⟨ob, 0, none⟩ = some (.int .i64 kd) := by rw [hW0, ← hob]; simp
  have o1 : W0.cell? ⟨ob, 1, none⟩ = some (.int .i64 i) := by rw [hW0, ← hob]; simp
  have o2 : W0.cell? ⟨ob, 2, none⟩ = some (.int .i64 n) := by rw [hW0, ← hob]; simp
  have o3 : W0.cell? ⟨ob, 3, none⟩ = some (.int .i64 by') := by rw [hW0, ← hob]; simp
  have hwl : ob < W0.heap.size := by rw [hW0, ← hob]; simp
  have HOB : Hid (¬ iP A U ob) := fun hm => by have := h.lt hm; omega
  rw [← hW0] at hba
  have HF0 : Hid (Fr w W0 A U U) := Fr.below A U hba
  have H0 := Lib.hid (h.below hba)
  obtain ⟨n0, hn0⟩ : ∃ n0, ps.length = n0 := ⟨_, rfl⟩
  rw [hn0]
  have HN0 := Lib.hid hn0
  have HRI := Lib.hid hri
  obtain ⟨h1w, f1w⟩ := H0.out.tick nw
  have hfd : ∀ W : World, Fr W W.drew A U U := fun W => Fr.below A U (Below.refl _ _).drew
  have HF1 : Hid (Fr w (W0.setCell ⟨A.x, 3, none⟩ (.int .i64 nw)).drew A U U) := (HF0.out.trans f1w).trans (hfd _)
  have H1 : Hid (Duo (W0.setCell ⟨A.x, 3, none⟩ (.int .i64 nw)).drew A U ps R (srt D) ps (rowE R) D nw) := h1w.below (Below.refl _ _).drew
  have HO1 : Hid (OpAt (W0.setCell ⟨A.x, 3, none⟩ (.int .i64 nw)).drew ob kd i n by') := ((OpAt.mk o0 o1 o2 o3 hwl).fr f1w (fun hm => HOB.out (iM_iP hm))).below (Below.refl _ _).drew
  have c3 := H0.out.wld.c3
  have hxl := H0.out.wld.xl
  have hfz := H0.out.wld.fz 3
  have HHK := Lib.hid hk
  have HHS := Lib.hid hs
  have HHN := Lib.hid hnw
  clear hs hnw
  clear h hba hri hn0 h1w f1w hfd hk
  go_enter Tryz.func10, Tryz.ntmps10
  go_wp2_with fail
  rw [← hW0]
  clear hW0 hob
  go_still_tail 13, (by kernel_rfl)
  change wpList _ _ _ _ _ W0.drew
  go_wp2
  rw [HHS.out, HHN.out]
  obtain ⟨W1, hW1⟩ : ∃ W1, W1 = (W0.setCell ⟨A.x, 3, none⟩ (.int .i64 nw)).drew := ⟨_, rfl⟩
  rw [← hW1] at HF1 H1 HO1 ⊢
  clear hW1 o0 o1 o2 o3 c3 hxl hfz hs0 hs3 hwl H0 HF0
  obtain ⟨o0, o1, o2, o3, hol⟩ := HO1.out
  go_quiet (fail)
  rw [HHK.out]
  have HB2 : Hid (Below W1.heap.size W1 (W1.drewN nq)) := below_drewN (Below.refl _ _) nq
  obtain ⟨W2, hW2⟩ : ∃ W2, W2 = W1.drewN nq := ⟨_, rfl⟩
  rw [← hW2] at HB2 ⊢
  clear hW2 o0 o1 o2 o3 hol
  have H2 := Lib.hid (H1.out.below HB2.out)
  have HF2 : Hid (Fr w W2 A U U) := HF1.out.trans (Fr.below A U HB2.out)
  have HO2 := Lib.hid (HO1.out.below HB2.out)
  obtain ⟨o0, o1, o2, o3, hol⟩ := HO2.out
  clear H1 HF1 HO1 HB2
  obtain ⟨⟨ps', y⟩, hact⟩ : ∃ o, act (chargeF n) (tickB n) ps i = o := ⟨_, rfl⟩
  obtain ⟨z, hz⟩ : ∃ z, chargeR ps i n = z := ⟨_, rfl⟩
  have HACT := Lib.hid hact
  have HZ := Lib.hid hz
  have hok' : ∀ p, p ∈ ps' → p.Ok := by
    have := act_ok (keeps_charge n) HRI.out.ok i (may := tickB n)
    rw [hact] at this
    exact this
  have HOK := Lib.hid hok'
  have HA : Hid (∀ (W : World) (V : Nat → Value) (v : Value), Dsp W A.d A.t A.g A.c A.l A.m V v ps R (srt D) → Calls Tryz.prog 38 #[.pointer (some ⟨A.d, 0, none⟩), .int .i64 i, .int .i64 n] W (DPost W A.d A.t A.g A.c A.l A.m V v ps' R (srt D) (.int .i64 z))) := fun W V v hd => by
    have := dcharge_any hd i n
    rw [hact, hz] at this
    exact this
  have d0 := H2.out.wld.c0
  have hxl2 := H2.out.wld.xl
  clear hact hz hok'
  go_wp2_with fail
  go_region_held (fun w' => w'.cell? ⟨A.x, 0, none⟩ = some (.pointer (some ⟨A.t2, 0, none⟩)) ∧ w'.cell? ⟨ob, 2, none⟩ = some (.int .i64 n)) (first | (exact ⟨d0, o2⟩) | (exact ⟨f0, q2⟩) | (exact ⟨g0, r2⟩))
    (first
      | (go_at_call 38; refine (HA.out _ _ _ (H2.out.below (Below.refl _ _).drew).dsp).mono ?_; intro e w5 hp5; obtain ⟨rfl, U5, -, -, hd5, hf5⟩ := (H2.out.below (Below.refl _ _).drew).dpost hp5; have f0 := hd5.wld.c0; have q2 := ((HO2.out.below (Below.refl _ _).drew).fr hf5 (fun hm => HOB.out (iM_iP hm))).c2)
      | (go_at_call 43; refine (charge_is i n HACT.out HZ.out hd5.wld.T hd5.wld.ok).mono ?_; rintro e w6 ⟨rfl, hT6, hA6⟩; obtain ⟨-, U6, hd6, hf6⟩ := hd5.wpost (r := .bool true) ⟨rfl, _, _, hd5.wld.tab hT6 HOK.out hA6, hA6.kept.mono (fun i _ e => .inr e), fun b hb => .inl hb, fun b hb => .inl hb⟩; have g0 := hd6.wld.c0; have r2 := ((((HO2.out.below (Below.refl _ _).drew).fr hf5 (fun hm => HOB.out (iM_iP hm)))).fr hf6 (fun hm => by rcases hf5.m ob hm with h5 | h5; exact HOB.out (iM_iP h5); have := HO2.out.lt; simp at h5; omega)).c2))
  have HP : Hid (DoPost w A U n0 now (.returned (.bool true)) w6) := by
    have hinv : RInv ps' R D := by
      by_cases hy : y = 0
      · subst hy
        obtain ⟨hm, hi0, hi1, p', hf, hps⟩ := act_get HACT.out
        unfold chargeF at hf
        obtain ⟨-, hp'⟩ := some_ite hf
        have hpok : p'.Ok := HOK.out p' (by rw [hps]; exact List.mem_of_getElem? (show (ps.set i.toNat p')[i.toNat]? = some p' by rw [List.getElem?_set, if_pos rfl, if_pos (by omega)]))
        rw [hps]
        exact HRI.out.still hi0 hi1 hpok (by rw [← hp']; rfl) (by rw [← hp']; rfl) (by rw [← hp']; rfl) (by rw [← hp']; rfl)
      · rw [act_err HACT.out hy]
        exact HRI.out
    have hlen : ps'.length = n0 := by
      have := act_length (chargeF n) (tickB n) ps i
      rw [HACT.out] at this
      exact this.trans HN0.out
    exact ⟨U6, ps', R, D, nw, rfl, hd6, hinv, hlen, HNW.out.1, HNW.out.2, (HF2.out.trans (Fr.below A U (Below.refl _ _).drew)).trans (hf5.trans hf6)⟩
  have hzz : (z == z) = true := by simp
  clear hp5 hd5 hf5 hT6 hA6 hd6 hf6
  go_wp2
  go_ret
  exact HP.out

end Go.Proofs.YtgnjenmicojgnaaGreat
