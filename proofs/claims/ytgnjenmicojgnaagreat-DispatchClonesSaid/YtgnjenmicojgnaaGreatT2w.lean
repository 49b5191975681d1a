/-
  What settle of a World does.
-/
import Derived.Test.YtgnjenmicojgnaaGreatT1w
import Derived.Deep.RegionWith
namespace Go.Proofs.YtgnjenmicojgnaaGreat
set_option linter.unusedVariables false
set_option linter.unusedSimpArgs false
open Go.RowKit

theorem insW_length (f : Int → Bool) (E : List (Int × Int)) (q : Int × Int) : (insW f E q).length = E.length + 1 := by
  rw [insW_kW]
  have := kW_le f E
  simp
  omega
theorem setE_length (fr : Bool) (p : Pr) (i : Int) (E : List (Int × Int)) : (setE fr p i E).length ≤ E.length + 1 := by
  have := rmQ_length E i
  unfold setE
  split
  · split
    · rw [insW_length]; omega
    · omega
  · omega

set_option maxRecDepth 100000 in
set_option maxHeartbeats 8000000 in
theorem settle_any' {w : World} {x t g c : Nat} {vE vD : Value} {ps : List Pr} {E D : List (Int × Int)} {now : Int} (fr : Bool) {n : Nat} {da : Option Addr} {dc : Nat} (h : Wld w x t g c vE (.slice da n dc) ps E D now) (hn : D.length = n) (i : Int) (hE : E.length ≤ 100) (hD : D.length ≤ 100) :
    Calls Tryz.prog 47 #[.pointer (some ⟨x, 0, none⟩), .int .i64 i, .bool fr] w (WPost w x t g c vE (.slice da n dc) ps (setE fr (lookP ps i) i E) (setD fr (lookP ps i) i D) now (.tuple #[])) := by
  have c0 := h.c0
  have c1 := h.c1
  have hxl := h.xl
  have H := Lib.hid h
  obtain ⟨p, hp⟩ : ∃ p, lookP ps i = p := ⟨_, rfl⟩
  obtain ⟨st, hst⟩ : ∃ st, stateR p = st := ⟨_, rfl⟩
  obtain ⟨tu, hun⟩ : ∃ tu, untilR p = tu := ⟨_, rfl⟩
  obtain ⟨ub, hub⟩ : ∃ ub, untilB p = ub := ⟨_, rfl⟩
  obtain ⟨cu, hcu⟩ : ∃ cu : Int, curR p = cu := ⟨_, rfl⟩
  obtain ⟨E', hE'⟩ : ∃ E', setE fr p i E = E' := ⟨_, rfl⟩
  obtain ⟨D', hD'⟩ : ∃ D', setD fr p i D = D' := ⟨_, rfl⟩
  rw [hp, hE', hD']
  unfold setE at hE'
  unfold setD at hD'
  rw [hst, hcu] at hE'
  rw [hub, hun] at hD'
  rw [← hp] at hst hun hub hcu
  have hn100 : n ≤ 100 := by omega
  have HN := Lib.hid hn
  have HST := Lib.hid hst
  have HUN := Lib.hid hun
  have HUB := Lib.hid hub
  have HCU := Lib.hid hcu
  have HE' := Lib.hid hE'
  have HD1 : Hid (ub = false → rmQ D i = D') := fun h => by rw [h] at hD'; simpa using hD'
  have HD2 : Hid (ub = true → fr = false → (i, tu) ∈ D → D = D') := fun h1 h2 h3 => by rw [if_pos h1, if_pos ⟨h2, h3⟩] at hD'; exact hD'
  have HD3 : Hid (ub = true → ¬ (fr = false ∧ (i, tu) ∈ D) → rmQ D i ++ [(i, tu)] = D') := fun h1 h2 => by rw [if_pos h1, if_neg h2] at hD'; exact hD'
  clear h hp hn hst hun hub hcu hE' hD'
  go_enter Tryz.func47, Tryz.ntmps47
  go_wp2_with fail
  refine (without_any vE E i w H.out.E (by omega)).mono ?_
  rintro e w1 ⟨u1, a, rfl, ho1, hf1, ha1, hb1⟩
  have H1 := Lib.hid (H.out.below hb1)
  have HO1 := Lib.hid ho1
  have HF1 := Lib.hid hf1
  have HB1 := Lib.hid hb1
  have HA := Lib.hid ha1
  obtain ⟨ua1, un1, uc1, rfl⟩ : ∃ a n c, u1 = .slice a n c := by obtain ⟨a, c, h⟩ := ho1.sl; exact ⟨a, _, c, h⟩
  have d0 := H1.out.c0
  have hxl1 := H1.out.xl
  clear ho1 hf1 ha1 hb1 c0 c1
  go_wp2_with fail
  refine (state_is i HST.out H1.out.T).mono ?_
  rintro e w2 ⟨rfl, hb2⟩
  have H2 := Lib.hid (H1.out.below hb2)
  have HB2 := Lib.hid hb2
  have HB12 : Hid (Below w.heap.size w w2) := HB1.out.trans (hb2.mono HB1.out.size)
  have e0 := H2.out.c0
  have e1 := H2.out.c1
  have hxl2 := H2.out.xl
  have hfz2 := H2.out.fz 1
  clear hb2 d0
  by_cases hst1 : st = 1
  · have hstb : (st == 1) = true := by simpa using hst1
    subst hst1
    by_cases hin : i ∉ E.map Prod.fst
    · have ha0 : a < 0 := HA.out.2 hin
      have hE2 : insW (fun y => decide (cu ≤ y)) (rmQ E i) (i, cu) = E' := by
        have := HE'.out
        rw [if_pos rfl, if_pos (.inl hin)] at this
        exact this
      have HE2 := Lib.hid hE2
      clear hE2 hin
      have HBE : Hid (∀ W, Below w2.heap.size w2 W → Calls Tryz.prog 42 #[vE, .int .i64 i, .int .i64 cu] W (NewE W E')) := fun W hb => by
        have := behind_any vE E i cu W (H2.out.below hb).E hE
        rw [HE2.out] at this
        exact this
      have HCC : Hid (∀ W, Below w2.heap.size w2 W → Calls Tryz.prog 15 #[.pointer (some ⟨t, 0, none⟩), .int .i64 i] W fun e w' => e = .returned (.int .i64 cu) ∧ Below W.heap.size W w') := fun W hb => cur_is i HCU.out (H2.out.below hb).T
      have HB2d : Hid (∀ W, Below w2.heap.size w2 W → W.cell? ⟨x, 0, none⟩ = some (.pointer (some ⟨t, 0, none⟩)) ∧ W.cell? ⟨x, 1, none⟩ = some vE ∧ W.frozen? ⟨x, 1, none⟩ = false ∧ x < W.heap.size) := fun W hb => ⟨(H2.out.below hb).c0, (H2.out.below hb).c1, (H2.out.below hb).fz 1, (H2.out.below hb).xl⟩
      go_wp2_with fail
      go_region_with (first
        | (go_at_call 15; refine (HCC.out _ (by first | exact (Below.refl _ _).drew | exact Below.refl _ _)).mono ?_; rintro e w3 ⟨rfl, hb3⟩; have HB3 : Hid (Below w2.heap.size w2 w3) := (Below.refl _ _).drew.trans (hb3.mono (Nat.le_refl _)); obtain ⟨f0, f1, f2, f3⟩ := HB2d.out w3 HB3.out; clear hb3)
        | (go_at_call 42; refine (HBE.out w3 HB3.out).mono ?_; rintro e w4 ⟨u4, rfl, ho4, hf4, hb4⟩; obtain ⟨ua4, un4, uc4, rfl⟩ : ∃ a n c, u4 = .slice a n c := (by obtain ⟨a, c, h⟩ := ho4.sl; exact ⟨a, _, c, h⟩); have HB4 : Hid (Below w2.heap.size w2 w4) := HB3.out.trans (hb4.mono HB3.out.size); obtain ⟨g0, g1, g2, g3⟩ := HB2d.out w4 HB4.out; have HO4 := Lib.hid ho4; have HF4 := Lib.hid hf4; clear ho4 hf4 hb4))
      all_goals
        have HS := Lib.hid (H.out.setE (HB12.out.trans (HB4.out.mono HB12.out.size)) HO4.out (fun b hb => by have h1 := HF4.out b hb; have h2 := HB12.out.size; have h3 := HB3.out.size; omega))
        have HF3 : Hid (∀ b, (Value.slice ua4 un4 uc4).ownBlock = some b → vE.ownBlock = some b ∨ w.heap.size ≤ b) := fun b hb => .inr (by have h1 := HF4.out b hb; have h2 := HB12.out.size; have h3 := HB3.out.size; omega)
        have g0' := HS.out.1.c0
        have hxl3 := HS.out.1.xl
        clear e0 e1 HBE HCC HB2d
        go_wp2_with fail
        refine (until_is i HUN.out HUB.out HS.out.1.T).mono ?_
        rintro e w6 ⟨rfl, hb6⟩
        have HS6 : Hid (Wld w6 x t g c (.slice ua4 un4 uc4) (.slice da n dc) ps E' D now ∧ Kept w w6 (fun i => i = x ∨ i = g)) := ⟨HS.out.1.below hb6, HS.out.2.trans (Kept.of_below hb6) (fun _ _ h => h)⟩
        have k2 := HS6.out.1.c2
        have hxl6 := HS6.out.1.xl
        clear hb6 HS
        have HEND : Hid (∀ (w7 : World) (u7 : Value), Below w6.heap.size w6 w7 → OwnP 99 w7 u7 D' → (∀ b, u7.ownBlock = some b → w6.heap.size ≤ b) → WPost w x t g c vE (.slice da n dc) ps E' D' now (.tuple #[]) (.returned (.tuple #[])) (w7.setCell ⟨x, 2, none⟩ u7)) := fun w7 u7 hb7 ho7 hf7 => by
          obtain ⟨hw, hk⟩ := HS6.out.1.setD hb7 ho7 hf7
          exact ⟨rfl, _, _, hw, HS6.out.2.trans hk (fun _ _ h => h), HF3.out, fun b hb => .inr (Nat.le_trans HS6.out.2.size (hf7 b hb))⟩
        cases ub with
        | false =>
          have hdd : rmQ D i = D' := HD1.out rfl
          have HDD := Lib.hid hdd
          clear hdd
          go_wp2_with fail
          refine (drop20_any (.slice da n dc) D i w6 HS6.out.1.D (by omega)).mono ?_
          rintro e w7 ⟨u7, rfl, ho7, hf7, hb7⟩
          obtain ⟨ua7, un7, uc7, rfl⟩ : ∃ a n c, u7 = .slice a n c := by obtain ⟨a, c, h⟩ := ho7.sl; exact ⟨a, _, c, h⟩
          have HP := Lib.hid (HEND.out w7 _ hb7 (by rw [← HDD.out]; exact ho7) hf7)
          have l2 := (HS6.out.1.below hb7).c2
          have hfz7 := (HS6.out.1.below hb7).fz 2
          have hxl7 := (HS6.out.1.below hb7).xl
          clear ho7 hf7 hb7 k2 HEND
          go_wp2
          go_end0
          exact HP.out
        | true =>
          go_wp2_with fail
          go_loop [10] (fun s10 => ∃ k : Nat, k ≤ n ∧ s10 = .int .i64 k ∧ (fr = false → ∀ j, j < k → D[j]? ≠ some (i, tu))) (fun s => n - (intOf s).toNat)
          case atStart => exact ⟨0, by omega, rfl, fun _ j hj => by omega⟩
          case round =>
            obtain ⟨k, hk, rfl, hall⟩ := hrel
            have HALL := Lib.hid hall
            clear hall
            by_cases hkn : k < n
            · have hknb : decide ((k : Int) < (n : Int)) = true := by simp; omega
              obtain ⟨q, hq⟩ : ∃ q, D[k]? = some q := ⟨_, List.getElem?_eq_getElem (by have := HN.out; omega)⟩
              obtain ⟨dg, dc', hv, hgl6, r0, r1⟩ := HS6.out.1.D.at hq
              injection hv with e1 e2 e3
              subst e1 e3
              obtain ⟨qi, qa⟩ := q
              have HQ := Lib.hid hq
              clear hq e2
              by_cases hqi : qi = i
              · have hqib : (qi == i) = true := by simpa using hqi
                by_cases hqa : qa = tu
                · have hqab : (qa == tu) = true := by simpa using hqa
                  cases fr with
                  | true =>
                    clear hqi hqa
                    go_wp2_with fail
                    go_round
                    case rel => exact ⟨k + 1, by omega, by go_num, fun h => by cases h⟩
                    case measure => simp [intOf]; omega
                  | false =>
                    have HP : Hid (WPost w x t g c vE (.slice (some ⟨dg, 0, none⟩) n dc) ps E' D' now (.tuple #[]) (.returned (.tuple #[])) w6) := by
                      have hd := HD2.out (by simp) (by simp) (by have := List.mem_of_getElem? HQ.out; rwa [hqi, hqa] at this)
                      rw [← hd]
                      exact ⟨rfl, _, _, HS6.out.1, HS6.out.2, HF3.out, fun b hb => .inl hb⟩
                    clear hqi hqa
                    go_wp2_with fail
                    go_end0
                    exact HP.out
                · have hqab : (qa == tu) = false := by simpa using hqa
                  have HALL2 : Hid (fr = false → ∀ j, j < k + 1 → D[j]? ≠ some (i, tu)) := fun hf j hj => by
                    by_cases e : j = k
                    · subst e
                      rw [HQ.out]
                      intro h
                      injection h with h
                      injection h with h1 h2
                      exact hqa h2
                    · exact HALL.out hf j (by omega)
                  clear hqi hqa
                  go_wp2_with fail
                  go_round
                  case rel => exact ⟨k + 1, by omega, by go_num, HALL2.out⟩
                  case measure => simp [intOf]; omega
              · have hqib : (qi == i) = false := by simpa using hqi
                have HALL2 : Hid (fr = false → ∀ j, j < k + 1 → D[j]? ≠ some (i, tu)) := fun hf j hj => by
                  by_cases e : j = k
                  · subst e
                    rw [HQ.out]
                    intro h
                    injection h with h
                    injection h with h1 h2
                    exact hqi h1
                  · exact HALL.out hf j (by omega)
                clear hqi
                go_wp2_with fail
                go_round
                case rel => exact ⟨k + 1, by omega, by go_num, HALL2.out⟩
                case measure => simp [intOf]; omega
            · obtain rfl : k = n := by omega
              have hknb : decide ((k : Int) < (k : Int)) = false := by simp
              have HDD : Hid (rmQ D i ++ [(i, tu)] = D') := HD3.out (by simp) (by
                rintro ⟨h1, h2⟩
                obtain ⟨j, hj, he⟩ := List.mem_iff_getElem.1 h2
                exact HALL.out h1 j (by have := HN.out; omega) (by rw [List.getElem?_eq_getElem hj, he]))
              go_wp2_with fail
              refine (set20_any (.slice da k dc) D i tu w6 HS6.out.1.D (by omega)).mono ?_
              rintro e w7 ⟨u7, rfl, ho7, hf7, hb7⟩
              obtain ⟨ua7, un7, uc7, rfl⟩ : ∃ a n c, u7 = .slice a n c := by obtain ⟨a, c, h⟩ := ho7.sl; exact ⟨a, _, c, h⟩
              have HP := Lib.hid (HEND.out w7 _ hb7 (by rw [← HDD.out]; exact ho7) hf7)
              have l2 := (HS6.out.1.below hb7).c2
              have hfz7 := (HS6.out.1.below hb7).fz 2
              have hxl7 := (HS6.out.1.below hb7).xl
              clear ho7 hf7 hb7 k2 HEND
              go_wp2
              go_end0
              exact HP.out
    · have ha0 : ¬ a < 0 := fun ha => hin (HA.out.1 ha)
      cases fr with
      | true =>
        have hE2 : insW (fun y => decide (cu ≤ y)) (rmQ E i) (i, cu) = E' := by
          have := HE'.out
          rw [if_pos rfl, if_pos (.inr rfl)] at this
          exact this
        have HE2 := Lib.hid hE2
        clear hE2 hin
        have HBE : Hid (∀ W, Below w2.heap.size w2 W → Calls Tryz.prog 42 #[vE, .int .i64 i, .int .i64 cu] W (NewE W E')) := fun W hb => by
          have := behind_any vE E i cu W (H2.out.below hb).E hE
          rw [HE2.out] at this
          exact this
        have HCC : Hid (∀ W, Below w2.heap.size w2 W → Calls Tryz.prog 15 #[.pointer (some ⟨t, 0, none⟩), .int .i64 i] W fun e w' => e = .returned (.int .i64 cu) ∧ Below W.heap.size W w') := fun W hb => cur_is i HCU.out (H2.out.below hb).T
        have HB2d : Hid (∀ W, Below w2.heap.size w2 W → W.cell? ⟨x, 0, none⟩ = some (.pointer (some ⟨t, 0, none⟩)) ∧ W.cell? ⟨x, 1, none⟩ = some vE ∧ W.frozen? ⟨x, 1, none⟩ = false ∧ x < W.heap.size) := fun W hb => ⟨(H2.out.below hb).c0, (H2.out.below hb).c1, (H2.out.below hb).fz 1, (H2.out.below hb).xl⟩
        go_wp2_with fail
        go_region_with (first
          | (go_at_call 15; refine (HCC.out _ (by first | exact (Below.refl _ _).drew | exact Below.refl _ _)).mono ?_; rintro e w3 ⟨rfl, hb3⟩; have HB3 : Hid (Below w2.heap.size w2 w3) := (Below.refl _ _).drew.trans (hb3.mono (Nat.le_refl _)); obtain ⟨f0, f1, f2, f3⟩ := HB2d.out w3 HB3.out; clear hb3)
          | (go_at_call 42; refine (HBE.out w3 HB3.out).mono ?_; rintro e w4 ⟨u4, rfl, ho4, hf4, hb4⟩; obtain ⟨ua4, un4, uc4, rfl⟩ : ∃ a n c, u4 = .slice a n c := (by obtain ⟨a, c, h⟩ := ho4.sl; exact ⟨a, _, c, h⟩); have HB4 : Hid (Below w2.heap.size w2 w4) := HB3.out.trans (hb4.mono HB3.out.size); obtain ⟨g0, g1, g2, g3⟩ := HB2d.out w4 HB4.out; have HO4 := Lib.hid ho4; have HF4 := Lib.hid hf4; clear ho4 hf4 hb4))
        all_goals
          have HS := Lib.hid (H.out.setE (HB12.out.trans (HB4.out.mono HB12.out.size)) HO4.out (fun b hb => by have h1 := HF4.out b hb; have h2 := HB12.out.size; have h3 := HB3.out.size; omega))
          have HF3 : Hid (∀ b, (Value.slice ua4 un4 uc4).ownBlock = some b → vE.ownBlock = some b ∨ w.heap.size ≤ b) := fun b hb => .inr (by have h1 := HF4.out b hb; have h2 := HB12.out.size; have h3 := HB3.out.size; omega)
          have g0' := HS.out.1.c0
          have hxl3 := HS.out.1.xl
          clear e0 e1 HBE HCC HB2d
          go_wp2_with fail
          refine (until_is i HUN.out HUB.out HS.out.1.T).mono ?_
          rintro e w6 ⟨rfl, hb6⟩
          have HS6 : Hid (Wld w6 x t g c (.slice ua4 un4 uc4) (.slice da n dc) ps E' D now ∧ Kept w w6 (fun i => i = x ∨ i = g)) := ⟨HS.out.1.below hb6, HS.out.2.trans (Kept.of_below hb6) (fun _ _ h => h)⟩
          have k2 := HS6.out.1.c2
          have hxl6 := HS6.out.1.xl
          clear hb6 HS
          have HEND : Hid (∀ (w7 : World) (u7 : Value), Below w6.heap.size w6 w7 → OwnP 99 w7 u7 D' → (∀ b, u7.ownBlock = some b → w6.heap.size ≤ b) → WPost w x t g c vE (.slice da n dc) ps E' D' now (.tuple #[]) (.returned (.tuple #[])) (w7.setCell ⟨x, 2, none⟩ u7)) := fun w7 u7 hb7 ho7 hf7 => by
            obtain ⟨hw, hk⟩ := HS6.out.1.setD hb7 ho7 hf7
            exact ⟨rfl, _, _, hw, HS6.out.2.trans hk (fun _ _ h => h), HF3.out, fun b hb => .inr (Nat.le_trans HS6.out.2.size (hf7 b hb))⟩
          cases ub with
          | false =>
            have hdd : rmQ D i = D' := HD1.out rfl
            have HDD := Lib.hid hdd
            clear hdd
            go_wp2_with fail
            refine (drop20_any (.slice da n dc) D i w6 HS6.out.1.D (by omega)).mono ?_
            rintro e w7 ⟨u7, rfl, ho7, hf7, hb7⟩
            obtain ⟨ua7, un7, uc7, rfl⟩ : ∃ a n c, u7 = .slice a n c := by obtain ⟨a, c, h⟩ := ho7.sl; exact ⟨a, _, c, h⟩
            have HP := Lib.hid (HEND.out w7 _ hb7 (by rw [← HDD.out]; exact ho7) hf7)
            have l2 := (HS6.out.1.below hb7).c2
            have hfz7 := (HS6.out.1.below hb7).fz 2
            have hxl7 := (HS6.out.1.below hb7).xl
            clear ho7 hf7 hb7 k2 HEND
            go_wp2
            go_end0
            exact HP.out
          | true =>
            go_wp2_with fail
            go_loop [10] (fun s10 => ∃ k : Nat, k ≤ n ∧ s10 = .int .i64 k ∧ (true = false → ∀ j, j < k → D[j]? ≠ some (i, tu))) (fun s => n - (intOf s).toNat)
            case atStart => exact ⟨0, by omega, rfl, fun _ j hj => by omega⟩
            case round =>
              obtain ⟨k, hk, rfl, hall⟩ := hrel
              have HALL := Lib.hid hall
              clear hall
              by_cases hkn : k < n
              · have hknb : decide ((k : Int) < (n : Int)) = true := by simp; omega
                obtain ⟨q, hq⟩ : ∃ q, D[k]? = some q := ⟨_, List.getElem?_eq_getElem (by have := HN.out; omega)⟩
                obtain ⟨dg, dc', hv, hgl6, r0, r1⟩ := HS6.out.1.D.at hq
                injection hv with e1 e2 e3
                subst e1 e3
                obtain ⟨qi, qa⟩ := q
                have HQ := Lib.hid hq
                clear hq e2
                by_cases hqi : qi = i
                · have hqib : (qi == i) = true := by simpa using hqi
                  by_cases hqa : qa = tu
                  · have hqab : (qa == tu) = true := by simpa using hqa
                    clear hqi hqa
                    go_wp2_with fail
                    go_round
                    case rel => exact ⟨k + 1, by omega, by go_num, fun h => by cases h⟩
                    case measure => simp [intOf]; omega
                  · have hqab : (qa == tu) = false := by simpa using hqa
                    have HALL2 : Hid (true = false → ∀ j, j < k + 1 → D[j]? ≠ some (i, tu)) := fun hf j hj => by
                      by_cases e : j = k
                      · subst e
                        rw [HQ.out]
                        intro h
                        injection h with h
                        injection h with h1 h2
                        exact hqa h2
                      · exact HALL.out hf j (by omega)
                    clear hqi hqa
                    go_wp2_with fail
                    go_round
                    case rel => exact ⟨k + 1, by omega, by go_num, HALL2.out⟩
                    case measure => simp [intOf]; omega
                · have hqib : (qi == i) = false := by simpa using hqi
                  have HALL2 : Hid (true = false → ∀ j, j < k + 1 → D[j]? ≠ some (i, tu)) := fun hf j hj => by
                    by_cases e : j = k
                    · subst e
                      rw [HQ.out]
                      intro h
                      injection h with h
                      injection h with h1 h2
                      exact hqi h1
                    · exact HALL.out hf j (by omega)
                  clear hqi
                  go_wp2_with fail
                  go_round
                  case rel => exact ⟨k + 1, by omega, by go_num, HALL2.out⟩
                  case measure => simp [intOf]; omega
              · obtain rfl : k = n := by omega
                have hknb : decide ((k : Int) < (k : Int)) = false := by simp
                have HDD : Hid (rmQ D i ++ [(i, tu)] = D') := HD3.out (by simp) (by
                  rintro ⟨h1, h2⟩
                  obtain ⟨j, hj, he⟩ := List.mem_iff_getElem.1 h2
                  exact HALL.out h1 j (by have := HN.out; omega) (by rw [List.getElem?_eq_getElem hj, he]))
                go_wp2_with fail
                refine (set20_any (.slice da k dc) D i tu w6 HS6.out.1.D (by omega)).mono ?_
                rintro e w7 ⟨u7, rfl, ho7, hf7, hb7⟩
                obtain ⟨ua7, un7, uc7, rfl⟩ : ∃ a n c, u7 = .slice a n c := by obtain ⟨a, c, h⟩ := ho7.sl; exact ⟨a, _, c, h⟩
                have HP := Lib.hid (HEND.out w7 _ hb7 (by rw [← HDD.out]; exact ho7) hf7)
                have l2 := (HS6.out.1.below hb7).c2
                have hfz7 := (HS6.out.1.below hb7).fz 2
                have hxl7 := (HS6.out.1.below hb7).xl
                clear ho7 hf7 hb7 k2 HEND
                go_wp2
                go_end0
                exact HP.out
      | false =>
        have hE2 : E = E' := by
          have := HE'.out
          rw [if_pos rfl, if_neg (by rintro (h | h); exact hin h; cases h)] at this
          exact this
        subst hE2
        clear hin
        have HS : Hid (Wld w2 x t g c vE (.slice da n dc) ps E D now ∧ Kept w w2 (fun i => i = x ∨ i = g)) := ⟨H2.out, Kept.of_below HB12.out⟩
        have HF3 : Hid (∀ b, vE.ownBlock = some b → vE.ownBlock = some b ∨ w.heap.size ≤ b) := fun b hb => .inl hb
        go_wp2_with fail
        refine (until_is i HUN.out HUB.out HS.out.1.T).mono ?_
        rintro e w6 ⟨rfl, hb6⟩
        have HS6 : Hid (Wld w6 x t g c vE (.slice da n dc) ps E D now ∧ Kept w w6 (fun i => i = x ∨ i = g)) := ⟨HS.out.1.below hb6, HS.out.2.trans (Kept.of_below hb6) (fun _ _ h => h)⟩
        have k2 := HS6.out.1.c2
        have hxl6 := HS6.out.1.xl
        clear hb6 HS
        have HEND : Hid (∀ (w7 : World) (u7 : Value), Below w6.heap.size w6 w7 → OwnP 99 w7 u7 D' → (∀ b, u7.ownBlock = some b → w6.heap.size ≤ b) → WPost w x t g c vE (.slice da n dc) ps E D' now (.tuple #[]) (.returned (.tuple #[])) (w7.setCell ⟨x, 2, none⟩ u7)) := fun w7 u7 hb7 ho7 hf7 => by
          obtain ⟨hw, hk⟩ := HS6.out.1.setD hb7 ho7 hf7
          exact ⟨rfl, _, _, hw, HS6.out.2.trans hk (fun _ _ h => h), HF3.out, fun b hb => .inr (Nat.le_trans HS6.out.2.size (hf7 b hb))⟩
        cases ub with
        | false =>
          have hdd : rmQ D i = D' := HD1.out rfl
          have HDD := Lib.hid hdd
          clear hdd
          go_wp2_with fail
          refine (drop20_any (.slice da n dc) D i w6 HS6.out.1.D (by omega)).mono ?_
          rintro e w7 ⟨u7, rfl, ho7, hf7, hb7⟩
          obtain ⟨ua7, un7, uc7, rfl⟩ : ∃ a n c, u7 = .slice a n c := by obtain ⟨a, c, h⟩ := ho7.sl; exact ⟨a, _, c, h⟩
          have HP := Lib.hid (HEND.out w7 _ hb7 (by rw [← HDD.out]; exact ho7) hf7)
          have l2 := (HS6.out.1.below hb7).c2
          have hfz7 := (HS6.out.1.below hb7).fz 2
          have hxl7 := (HS6.out.1.below hb7).xl
          clear ho7 hf7 hb7 k2 HEND
          go_wp2
          go_end0
          exact HP.out
        | true =>
          go_wp2_with fail
          go_loop [10] (fun s10 => ∃ k : Nat, k ≤ n ∧ s10 = .int .i64 k ∧ (∀ j, j < k → D[j]? ≠ some (i, tu))) (fun s => n - (intOf s).toNat)
          case atStart => exact ⟨0, by omega, rfl, fun j hj => by omega⟩
          case round =>
            obtain ⟨k, hk, rfl, hall⟩ := hrel
            have HALL := Lib.hid hall
            clear hall
            by_cases hkn : k < n
            · have hknb : decide ((k : Int) < (n : Int)) = true := by simp; omega
              obtain ⟨q, hq⟩ : ∃ q, D[k]? = some q := ⟨_, List.getElem?_eq_getElem (by have := HN.out; omega)⟩
              obtain ⟨dg, dc', hv, hgl6, r0, r1⟩ := HS6.out.1.D.at hq
              injection hv with e1 e2 e3
              subst e1 e3
              obtain ⟨qi, qa⟩ := q
              have HQ := Lib.hid hq
              clear hq e2
              by_cases hqi : qi = i
              · have hqib : (qi == i) = true := by simpa using hqi
                by_cases hqa : qa = tu
                · have hqab : (qa == tu) = true := by simpa using hqa
                  have HP : Hid (WPost w x t g c vE (.slice (some ⟨dg, 0, none⟩) n dc) ps E D' now (.tuple #[]) (.returned (.tuple #[])) w6) := by
                    have hd := HD2.out (by simp) (by simp) (by have := List.mem_of_getElem? HQ.out; rwa [hqi, hqa] at this)
                    rw [← hd]
                    exact ⟨rfl, _, _, HS6.out.1, HS6.out.2, HF3.out, fun b hb => .inl hb⟩
                  clear hqi hqa
                  go_wp2_with fail
                  go_end0
                  exact HP.out
                · have hqab : (qa == tu) = false := by simpa using hqa
                  have HALL2 : Hid (∀ j, j < k + 1 → D[j]? ≠ some (i, tu)) := fun j hj => by
                    by_cases e : j = k
                    · subst e
                      rw [HQ.out]
                      intro h
                      injection h with h
                      injection h with h1 h2
                      exact hqa h2
                    · exact HALL.out j (by omega)
                  clear hqi hqa
                  go_wp2_with fail
                  go_round
                  case rel => exact ⟨k + 1, by omega, by go_num, HALL2.out⟩
                  case measure => simp [intOf]; omega
              · have hqib : (qi == i) = false := by simpa using hqi
                have HALL2 : Hid (∀ j, j < k + 1 → D[j]? ≠ some (i, tu)) := fun j hj => by
                  by_cases e : j = k
                  · subst e
                    rw [HQ.out]
                    intro h
                    injection h with h
                    injection h with h1 h2
                    exact hqi h1
                  · exact HALL.out j (by omega)
                clear hqi
                go_wp2_with fail
                go_round
                case rel => exact ⟨k + 1, by omega, by go_num, HALL2.out⟩
                case measure => simp [intOf]; omega
            · obtain rfl : k = n := by omega
              have hknb : decide ((k : Int) < (k : Int)) = false := by simp
              have HDD : Hid (rmQ D i ++ [(i, tu)] = D') := HD3.out (by simp) (by
                rintro ⟨h1, h2⟩
                obtain ⟨j, hj, he⟩ := List.mem_iff_getElem.1 h2
                exact HALL.out j (by have := HN.out; omega) (by rw [List.getElem?_eq_getElem hj, he]))
              go_wp2_with fail
              refine (set20_any (.slice da k dc) D i tu w6 HS6.out.1.D (by omega)).mono ?_
              rintro e w7 ⟨u7, rfl, ho7, hf7, hb7⟩
              obtain ⟨ua7, un7, uc7, rfl⟩ : ∃ a n c, u7 = .slice a n c := by obtain ⟨a, c, h⟩ := ho7.sl; exact ⟨a, _, c, h⟩
              have HP := Lib.hid (HEND.out w7 _ hb7 (by rw [← HDD.out]; exact ho7) hf7)
              have l2 := (HS6.out.1.below hb7).c2
              have hfz7 := (HS6.out.1.below hb7).fz 2
              have hxl7 := (HS6.out.1.below hb7).xl
              clear ho7 hf7 hb7 k2 HEND
              go_wp2
              go_end0
              exact HP.out
  · have hstb : (st == 1) = false := by simpa using hst1
    have hE2 : rmQ E i = E' := by
      have := HE'.out
      rw [if_neg hst1] at this
      exact this
    have HE2 := Lib.hid hE2
    clear hE2
    have HS := Lib.hid (H.out.setE (u := .slice ua1 un1 uc1) (E' := E') HB12.out (by rw [← HE2.out]; exact HO1.out.below HB2.out) HF1.out)
    have HF3 : Hid (∀ b, (Value.slice ua1 un1 uc1).ownBlock = some b → vE.ownBlock = some b ∨ w.heap.size ≤ b) := fun b hb => .inr (HF1.out b hb)
    go_wp2_with fail
    refine (until_is i HUN.out HUB.out HS.out.1.T).mono ?_
    rintro e w6 ⟨rfl, hb6⟩
    have HS6 : Hid (Wld w6 x t g c (.slice ua1 un1 uc1) (.slice da n dc) ps E' D now ∧ Kept w w6 (fun i => i = x ∨ i = g)) := ⟨HS.out.1.below hb6, HS.out.2.trans (Kept.of_below hb6) (fun _ _ h => h)⟩
    have k2 := HS6.out.1.c2
    have hxl6 := HS6.out.1.xl
    clear hb6 HS
    have HEND : Hid (∀ (w7 : World) (u7 : Value), Below w6.heap.size w6 w7 → OwnP 99 w7 u7 D' → (∀ b, u7.ownBlock = some b → w6.heap.size ≤ b) → WPost w x t g c vE (.slice da n dc) ps E' D' now (.tuple #[]) (.returned (.tuple #[])) (w7.setCell ⟨x, 2, none⟩ u7)) := fun w7 u7 hb7 ho7 hf7 => by
      obtain ⟨hw, hk⟩ := HS6.out.1.setD hb7 ho7 hf7
      exact ⟨rfl, _, _, hw, HS6.out.2.trans hk (fun _ _ h => h), HF3.out, fun b hb => .inr (Nat.le_trans HS6.out.2.size (hf7 b hb))⟩
    cases ub with
    | false =>
      have hdd : rmQ D i = D' := HD1.out rfl
      have HDD := Lib.hid hdd
      clear hdd
      go_wp2_with fail
      refine (drop20_any (.slice da n dc) D i w6 HS6.out.1.D (by omega)).mono ?_
      rintro e w7 ⟨u7, rfl, ho7, hf7, hb7⟩
      obtain ⟨ua7, un7, uc7, rfl⟩ : ∃ a n c, u7 = .slice a n c := by obtain ⟨a, c, h⟩ := ho7.sl; exact ⟨a, _, c, h⟩
      have HP := Lib.hid (HEND.out w7 _ hb7 (by rw [← HDD.out]; exact ho7) hf7)
      have l2 := (HS6.out.1.below hb7).c2
      have hfz7 := (HS6.out.1.below hb7).fz 2
      have hxl7 := (HS6.out.1.below hb7).xl
      clear ho7 hf7 hb7 k2 HEND
      go_wp2
      go_end0
      exact HP.out
    | true =>
      go_wp2_with fail
      go_loop [10] (fun s10 => ∃ k : Nat, k ≤ n ∧ s10 = .int .i64 k ∧ (fr = false → ∀ j, j < k → D[j]? ≠ some (i, tu))) (fun s => n - (intOf s).toNat)
      case atStart => exact ⟨0, by omega, rfl, fun _ j hj => by omega⟩
      case round =>
        obtain ⟨k, hk, rfl, hall⟩ := hrel
        have HALL := Lib.hid hall
        clear hall
        by_cases hkn : k < n
        · have hknb : decide ((k : Int) < (n : Int)) = true := by simp; omega
          obtain ⟨q, hq⟩ : ∃ q, D[k]? = some q := ⟨_, List.getElem?_eq_getElem (by have := HN.out; omega)⟩
          obtain ⟨dg, dc', hv, hgl6, r0, r1⟩ := HS6.out.1.D.at hq
          injection hv with e1 e2 e3
          subst e1 e3
          obtain ⟨qi, qa⟩ := q
          have HQ := Lib.hid hq
          clear hq e2
          by_cases hqi : qi = i
          · have hqib : (qi == i) = true := by simpa using hqi
            by_cases hqa : qa = tu
            · have hqab : (qa == tu) = true := by simpa using hqa
              cases fr with
              | true =>
                clear hqi hqa
                go_wp2_with fail
                go_round
                case rel => exact ⟨k + 1, by omega, by go_num, fun h => by cases h⟩
                case measure => simp [intOf]; omega
              | false =>
                have HP : Hid (WPost w x t g c vE (.slice (some ⟨dg, 0, none⟩) n dc) ps E' D' now (.tuple #[]) (.returned (.tuple #[])) w6) := by
                  have hd := HD2.out (by simp) (by simp) (by have := List.mem_of_getElem? HQ.out; rwa [hqi, hqa] at this)
                  rw [← hd]
                  exact ⟨rfl, _, _, HS6.out.1, HS6.out.2, HF3.out, fun b hb => .inl hb⟩
                clear hqi hqa
                go_wp2_with fail
                go_end0
                exact HP.out
            · have hqab : (qa == tu) = false := by simpa using hqa
              have HALL2 : Hid (fr = false → ∀ j, j < k + 1 → D[j]? ≠ some (i, tu)) := fun hf j hj => by
                by_cases e : j = k
                · subst e
                  rw [HQ.out]
                  intro h
                  injection h with h
                  injection h with h1 h2
                  exact hqa h2
                · exact HALL.out hf j (by omega)
              clear hqi hqa
              go_wp2_with fail
              go_round
              case rel => exact ⟨k + 1, by omega, by go_num, HALL2.out⟩
              case measure => simp [intOf]; omega
          · have hqib : (qi == i) = false := by simpa using hqi
            have HALL2 : Hid (fr = false → ∀ j, j < k + 1 → D[j]? ≠ some (i, tu)) := fun hf j hj => by
              by_cases e : j = k
              · subst e
                rw [HQ.out]
                intro h
                injection h with h
                injection h with h1 h2
                exact hqi h1
              · exact HALL.out hf j (by omega)
            clear hqi
            go_wp2_with fail
            go_round
            case rel => exact ⟨k + 1, by omega, by go_num, HALL2.out⟩
            case measure => simp [intOf]; omega
        · obtain rfl : k = n := by omega
          have hknb : decide ((k : Int) < (k : Int)) = false := by simp
          have HDD : Hid (rmQ D i ++ [(i, tu)] = D') := HD3.out (by simp) (by
            rintro ⟨h1, h2⟩
            obtain ⟨j, hj, he⟩ := List.mem_iff_getElem.1 h2
            exact HALL.out h1 j (by have := HN.out; omega) (by rw [List.getElem?_eq_getElem hj, he]))
          go_wp2_with fail
          refine (set20_any (.slice da k dc) D i tu w6 HS6.out.1.D (by omega)).mono ?_
          rintro e w7 ⟨u7, rfl, ho7, hf7, hb7⟩
          obtain ⟨ua7, un7, uc7, rfl⟩ : ∃ a n c, u7 = .slice a n c := by obtain ⟨a, c, h⟩ := ho7.sl; exact ⟨a, _, c, h⟩
          have HP := Lib.hid (HEND.out w7 _ hb7 (by rw [← HDD.out]; exact ho7) hf7)
          have l2 := (HS6.out.1.below hb7).c2
          have hfz7 := (HS6.out.1.below hb7).fz 2
          have hxl7 := (HS6.out.1.below hb7).xl
          clear ho7 hf7 hb7 k2 HEND
          go_wp2
          go_end0
          exact HP.out

theorem settle_any {w : World} {x t g c : Nat} {vE vD : Value} {ps : List Pr} {E D : List (Int × Int)} {now : Int} (fr : Bool) (h : Wld w x t g c vE vD ps E D now) (i : Int) (hE : E.length ≤ 100) (hD : D.length ≤ 100) :
    Calls Tryz.prog 47 #[.pointer (some ⟨x, 0, none⟩), .int .i64 i, .bool fr] w (WPost w x t g c vE vD ps (setE fr (lookP ps i) i E) (setD fr (lookP ps i) i D) now (.tuple #[])) := by
  obtain ⟨da, dc, hds⟩ := h.D.sl
  subst hds
  exact settle_any' (vD := vE) fr h rfl i hE hD

end Go.Proofs.YtgnjenmicojgnaaGreat
