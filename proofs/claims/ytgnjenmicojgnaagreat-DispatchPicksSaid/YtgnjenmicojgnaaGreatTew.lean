/-
  DispatchPicks' walk.
-/
import Derived.Test.YtgnjenmicojgnaaGreatTdw
namespace Go.Proofs.YtgnjenmicojgnaaGreat
set_option linter.unusedVariables false
set_option linter.unusedSimpArgs false
open Go.RowKit

/-- How many of the first j processes are ready. -/
def rdyN (ps : List Pr) (j : Nat) : Nat := ((List.range j).filter (fun i : Nat => decide (stateR (lookP ps (i : Int)) = 1))).length
theorem rdyN_succ (ps : List Pr) (j : Nat) : rdyN ps (j + 1) = rdyN ps j + if stateR (lookP ps (j : Int)) = 1 then 1 else 0 := by
  unfold rdyN
  rw [List.range_succ, List.filter_append, List.length_append]
  congr 1
  by_cases h : stateR (lookP ps (j : Int)) = 1
  · rw [if_pos h, List.filter_cons_of_pos (by simpa using h)]; rfl
  · rw [if_neg h, List.filter_cons_of_neg (by simpa using h)]; rfl
theorem rdyN_le (ps : List Pr) (j : Nat) : rdyN ps j ≤ j := by
  unfold rdyN
  have := List.length_filter_le (fun i : Nat => decide (stateR (lookP ps (i : Int)) = 1)) (List.range j)
  rwa [List.length_range] at this

section
variable {ps : List Pr} {R : Nat → List Int} {D : List (Int × Int)}
theorem RInv.end_ (h : RInv ps R D) : ((rowE R).map Prod.fst).Nodup := by
  have : ∀ n, ((rowN R n).map Prod.fst).Nodup := by
    intro n
    induction n with
    | zero => simp [rowN]
    | succ n ih =>
      rw [rowN, List.map_append, List.map_map, List.nodup_append]
      have e : (Prod.fst ∘ fun i : Int => (i, (n : Int))) = id := rfl
      rw [e, List.map_id]
      refine ⟨h.nd n, ih, fun a ha b hb => ?_⟩
      rintro rfl
      obtain ⟨x, hx, rfl⟩ := List.mem_map.1 hb
      obtain ⟨q, hq, hm, -⟩ := mem_rowN.1 hx
      have := h.one ha hm
      omega
  exact this 64

/-- The row has just those that are ready. -/
theorem RInv.count (h : RInv ps R D) : (allR R).length = rdyN ps ps.length := by
  rw [← rowE_ids]
  unfold rdyN
  have hp : ((rowE R).map Prod.fst).Perm (((List.range ps.length).filter (fun i : Nat => decide (stateR (lookP ps (i : Int)) = 1))).map Int.ofNat) := by
    rw [List.perm_ext_iff_of_nodup h.end_]
    · intro a
      rw [h.ids_mem, List.mem_map]
      constructor
      · rintro ⟨p, hp⟩
        obtain ⟨h0, h1, h2, -⟩ := (h.mem p a).1 hp
        refine ⟨a.toNat, ?_, by simp; omega⟩
        rw [List.mem_filter, List.mem_range]
        refine ⟨by omega, ?_⟩
        rw [show ((a.toNat : Nat) : Int) = a by omega]
        simpa using h2
      · rintro ⟨i, hi, rfl⟩
        rw [List.mem_filter, List.mem_range] at hi
        have hc := (cur_ok h.ok (i : Int)).1
        exact ⟨(curR (lookP ps (i : Int))).toNat, (h.mem _ _).2 ⟨by simp, by simp; exact hi.1, by simpa using hi.2, by simp; omega⟩⟩
    · refine List.Nodup.sublist ((List.filter_sublist).map _) ?_
      rw [List.nodup_iff_pairwise_ne, List.pairwise_map]
      exact (List.nodup_range (n := ps.length)).imp (fun hne e => hne (by have e : ((_ : Nat) : Int) = (_ : Nat) := e; omega))
  rw [hp.length_eq, List.length_map]

theorem sorted_rowN (R : Nat → List Int) : ∀ n, (rowN R n).Pairwise (fun a b => b.2 ≤ a.2)
  | 0 => List.Pairwise.nil
  | n + 1 => by
    rw [rowN, List.pairwise_append]
    refine ⟨?_, sorted_rowN R n, fun a ha b hb => ?_⟩
    · rw [List.pairwise_map]
      exact List.pairwise_of_forall (fun _ _ => Int.le_refl _)
    · obtain ⟨i, -, rfl⟩ := List.mem_map.1 ha
      obtain ⟨p, hp, -, e⟩ := mem_rowN.1 hb
      rw [e]
      simp
      omega

/-- Whoever is first is ready, and none that is ready has a higher priority. -/
theorem RInv.top (h : RInv ps R D) {x : Int} {b : Bool} (hx : first R = x) (hb : some1 R = b) :
    (b = true → stateR (lookP ps x) = 1 ∧ ∀ j : Int, 0 ≤ j → j < ps.length → stateR (lookP ps j) = 1 → curR (lookP ps j) ≤ curR (lookP ps x)) ∧ (b = false → ∀ j : Int, 0 ≤ j → j < ps.length → stateR (lookP ps j) ≠ 1) := by
  unfold first at hx
  unfold some1 at hb
  rw [← rowE_ids] at hx hb
  have hin : ∀ j : Int, 0 ≤ j → j < ps.length → stateR (lookP ps j) = 1 → (j, curR (lookP ps j)) ∈ rowE R := fun j h0 h1 h2 => by
    have hc := cur_ok h.ok j
    have hm := (h.mem (curR (lookP ps j)).toNat j).2 ⟨h0, h1, h2, by omega⟩
    exact mem_rowN.2 ⟨_, by omega, hm, by simp; omega⟩
  cases hr : rowE R with
  | nil =>
    rw [hr] at hx hb hin
    refine ⟨fun hbt => ?_, fun _ j h0 h1 h2 => ?_⟩
    · rw [hbt] at hb; simp at hb
    · have := hin j h0 h1 h2
      simp at this
  | cons p r =>
    obtain ⟨pi, pp⟩ := p
    have hs := sorted_rowN R 64
    rw [show rowN R 64 = (pi, pp) :: r from hr, List.pairwise_cons] at hs
    have hm : (pi, pp) ∈ rowE R := by rw [hr]; exact List.mem_cons_self ..
    rw [hr] at hx hb hin
    have hx : pi = x := by simpa using hx
    subst hx
    obtain ⟨q, hq, hqm, hqe⟩ := mem_rowN.1 hm
    obtain ⟨k0, k1, k2, k3⟩ := (h.mem q pi).1 hqm
    refine ⟨fun _ => ⟨k2, fun j h0 h1 h2 => ?_⟩, fun hbf => ?_⟩
    · have hqe : pp = (q : Int) := hqe
      rcases List.mem_cons.1 (hin j h0 h1 h2) with e | e
      · injection e with e1 e2
        rw [e2, k3]
        omega
      · have h5 : curR (lookP ps j) ≤ pp := hs.1 _ e
        rw [k3]
        omega
    · rw [hbf] at hb; simp at hb
end

set_option maxRecDepth 100000 in
set_option maxHeartbeats 4000000 in
theorem picks_any (B : Option Addr) (n cc : Nat) (l : List At) (B2 : Option Addr) (n2 cc2 : Nat) (ops : List OpV) (w : World) (hn : l.length = n) (hB : AtRow w B l) (hn2 : ops.length = n2) (hB2 : Ops w B2 ops) :
    Calls Tryz.prog 3 #[.slice B n cc, .slice B2 n2 cc2] w fun e w' => e = .returned (.bool true) ∧ Below w.heap.size w w' := by
  have HF := Lib.hid (fix_any B n cc l w hn hB)
  have HN2 := Lib.hid hn2
  have HB2 := Lib.hid hB2
  clear hn hB hn2 hB2
  go_enter Tryz.func3, Tryz.ntmps3
  go_wp2_with fail
  refine HF.out.mono ?_
  rintro e w1 ⟨A1, c1, rfl, hA1, hb1⟩
  have HBG := Lib.hid (begin_any A1 (fixL l).length c1 (fixL l) w1 rfl hA1 (by have := fixL_len l; omega) (fixL_ok l))
  have HB1 := Lib.hid hb1
  obtain ⟨fl, hfl⟩ : ∃ fl, fixL l = fl := ⟨_, rfl⟩
  obtain ⟨fn, hfn⟩ : ∃ fn, fl.length = fn := ⟨_, rfl⟩
  have HOK : Hid (newOk fl = true) := by rw [← hfl]; exact fixL_ok l
  rw [hfl, hfn] at HBG ⊢
  have HFN := Lib.hid hfn
  clear hA1 hb1 HF hfl hfn
  go_wp2_with fail
  refine HBG.out.mono ?_
  rintro e w2 ⟨A, U, rfl, hd, hlow, hb2⟩
  have HD := Lib.hid hd
  have HLOW := Lib.hid hlow
  have HB2' : Hid (Below w.heap.size w w2) := HB1.out.trans (hb2.mono HB1.out.size)
  clear hd hlow hb2 HBG
  go_wp2_with fail
  refine (told_any20 w2).mono ?_
  rintro e w3 ⟨rfl, hb3⟩
  have HG : Hid (Going w A fn 0 w3) := ⟨U, fl.map prOf, r0, [], 0, HD.out.below hb3, rinv_new HOK.out, by rw [List.length_map]; exact HFN.out, by omega, by omega, fun i hi => Nat.le_trans HB1.out.size (HLOW.out i hi), HB2'.out.trans (hb3.mono HB2'.out.size)⟩
  clear hb3 HD HLOW HB2'
  go_wp2_with fail
  go_loopw [7] (fun s7 wr => ∃ k : Nat, k ≤ n2 ∧ k ≤ 80 ∧ s7 = .int .i64 k ∧ Going w A fn k wr) (fun i _ => n2 - (intOf i).toNat)
  case atStart => exact ⟨0, by omega, by omega, rfl, HG.out⟩
  case round =>
    clear HG
    obtain ⟨k, hk, hk80, rfl, hg⟩ := hrel
    obtain ⟨U, ps, R, D, now, hd, hri, hpl, hnow0, hnow1, hlow, hbel⟩ := hg
    have HD := Lib.hid hd
    have HRI := Lib.hid hri
    have HLOW := Lib.hid hlow
    have HBEL := Lib.hid hbel
    have HPL := Lib.hid hpl
    clear hd hri hpl hlow hbel
    by_cases hlt : k < n2 ∧ k < 80
    · obtain ⟨hlt2, hlt8⟩ := hlt
      have hl8 : (k : Int) < 80 := by omega
      have hl2 : (k : Int) < (n2 : Int) := by omega
      have hk0 : (0 : Int) ≤ (k : Int) := by omega
      obtain ⟨ob, oo, rfl, hobl, hoc⟩ := HB2.out (by have := HN2.out; omega)
      obtain ⟨o, ho⟩ : ∃ o, ops[k]? = some o := ⟨_, List.getElem?_eq_getElem (by have := HN2.out; omega)⟩
      obtain ⟨kd, oi, on, oby⟩ := o
      obtain ⟨c0, c1, c2, c3⟩ := hoc k _ ho
      have e0 := (HBEL.out.cell (p := ⟨ob, oo + k * 4, none⟩) hobl).trans c0
      have e1 := (HBEL.out.cell (p := ⟨ob, oo + k * 4 + 1, none⟩) hobl).trans c1
      have e2 := (HBEL.out.cell (p := ⟨ob, oo + k * 4 + 2, none⟩) hobl).trans c2
      have e3 := (HBEL.out.cell (p := ⟨ob, oo + k * 4 + 3, none⟩) hobl).trans c3
      have hobr : ob < wr.heap.size := by have := HBEL.out.size; omega
      have HDO := Lib.hid (do_any HD.out HRI.out kd oi on oby hnow0 (by omega))
      clear hoc ho c0 c1 c2 c3
      go_wp2_with fail
      refine HDO.out.mono ?_
      intro e w4 hp
      rw [HPL.out] at hp
      obtain ⟨rfl, hg⟩ := Going.step hnow0 hnow1 HLOW.out HBEL.out hp
      have HG := Lib.hid hg
      clear hp hg HDO e0 e1 e2 e3 HD HRI HLOW HBEL HPL
      obtain ⟨U5, ps5, R5, D5, now5, hd5, hri5, hpl5, h05, h15, hlow5, hbel5⟩ := HG.out
      have H5 := Lib.hid hd5
      have HR5 := Lib.hid hri5
      have HL5 := Lib.hid hpl5
      obtain ⟨x, hx⟩ : ∃ x, first R5 = x := ⟨_, rfl⟩
      obtain ⟨b, hb⟩ : ∃ b, some1 R5 = b := ⟨_, rfl⟩
      have HTOP := Lib.hid (hri5.top hx hb)
      have HX := Lib.hid hx
      have HBB := Lib.hid hb
      have hps16 := hri5.len
      clear hd5 hri5 h05 h15 hlow5 hbel5 hx hb
      go_wp2_with fail
      refine (dtable_any H5.out.dsp).mono ?_
      rintro e w5 ⟨t', g', c', rfl, hT', -, -, hb5⟩
      have HT5 := Lib.hid hT'
      have HB5 := Lib.hid hb5
      clear hT' hb5
      go_wp2_with fail
      refine (pick_any (H5.out.below HB5.out).dsp HX.out HBB.out).mono ?_
      rintro e w6 ⟨rfl, hb6⟩
      have HT6 := Lib.hid (HT5.out.below hb6)
      have HB6 : Hid (Below w4.heap.size w4 w6) := HB5.out.trans (hb6.mono HB5.out.size)
      clear hb6 HT5 HB5
      rw [hpl5] at hps16
      clear hpl5
      cases b with
      | true =>
        obtain ⟨htop1, htop2⟩ := HTOP.out.1 rfl
        have HT1 := Lib.hid htop1
        have HT2 := Lib.hid htop2
        obtain ⟨cx, hcx⟩ : ∃ cx, curR (lookP ps5 x) = cx := ⟨_, rfl⟩
        have HCX := Lib.hid hcx
        clear htop1 htop2 hcx HTOP
        go_wp2_with fail
        refine (state_is x HT1.out HT6.out).mono ?_
        rintro e w7 ⟨rfl, hb7⟩
        have HT7 := Lib.hid (HT6.out.below hb7)
        have HB7 : Hid (Below w4.heap.size w4 w7) := HB6.out.trans (hb7.mono HB6.out.size)
        clear hb7 HT6 HB6
        go_wp2_with fail
        obtain ⟨W7, hW7⟩ : ∃ W7, W7 = w7 := ⟨_, rfl⟩
        rw [← hW7]
        have HW7 : Hid (Below w7.heap.size w7 W7) := by rw [hW7]; exact Below.refl _ _
        clear hW7
        go_loopw [11, 12] (fun s11 s12 wx => ∃ j : Nat, j ≤ fn ∧ s12 = .int .i64 j ∧ s11 = .int .i64 (rdyN ps5 j : Nat) ∧ Below w7.heap.size w7 wx) (fun _ i _ => fn - (intOf i).toNat)
        case atStart => exact ⟨0, by omega, rfl, rfl, HW7.out⟩
        case round =>
          clear HW7
          obtain ⟨j, hj, rfl, rfl, hbx⟩ := hrel
          have HBX := Lib.hid hbx
          have HTX := Lib.hid (HT7.out.below hbx)
          clear hbx
          by_cases hjn : j < fn
          · have hjn' : (j : Int) < (fn : Int) := by omega
            obtain ⟨st, hst⟩ : ∃ st, stateR (lookP ps5 (j : Int)) = st := ⟨_, rfl⟩
            obtain ⟨rn, hrn⟩ : ∃ rn, rdyN ps5 j = rn := ⟨_, rfl⟩
            obtain ⟨rm, hrm⟩ : ∃ rm, rdyN ps5 (j + 1) = rm := ⟨_, rfl⟩
            have hrs := rdyN_succ ps5 j
            have hrl := rdyN_le ps5 j
            rw [hst, hrn, hrm] at hrs
            rw [hrn] at hrl ⊢
            have HST := Lib.hid hst
            have HRM := Lib.hid hrm
            by_cases hs1 : st = 1
            · have hsb : (st != 1) = false := by simp [hs1]
              rw [if_pos hs1] at hrs
              have HRS := Lib.hid hrs
              obtain ⟨cj, hcj⟩ : ∃ cj, curR (lookP ps5 (j : Int)) = cj := ⟨_, rfl⟩
              have hle : cj ≤ cx := by
                have := HT2.out (j : Int) (by omega) (by rw [HL5.out]; omega) (hst.trans hs1)
                rw [hcj, HCX.out] at this
                exact this
              have hleb : decide (cx < cj) = false := by simp; omega
              have HCJ := Lib.hid hcj
              clear hst hrn hrm hrs hcj
              go_wp2_with fail
              refine (tlen_is HTX.out (HL5.out)).mono ?_
              rintro e w8 ⟨rfl, rfl⟩
              go_wp2_with fail
              refine (state_is (j : Int) HST.out HTX.out).mono ?_
              rintro e w8 ⟨rfl, hb8⟩
              have HB8 : Hid (Below w7.heap.size w7 w8) := HBX.out.trans (hb8.mono HBX.out.size)
              have HT8 := Lib.hid (HTX.out.below hb8)
              clear hb8
              go_wp2_with fail
              refine (cur_is (j : Int) HCJ.out HT8.out).mono ?_
              rintro e w10 ⟨rfl, hb10⟩
              have HB10 : Hid (Below w7.heap.size w7 w10) := HB8.out.trans (hb10.mono HB8.out.size)
              have HT10 := Lib.hid (HT8.out.below hb10)
              clear hb10
              go_wp2_with fail
              refine (cur_is x HCX.out HT10.out).mono ?_
              rintro e w11 ⟨rfl, hb11⟩
              have HB11 : Hid (Below w7.heap.size w7 w11) := HB10.out.trans (hb11.mono HB10.out.size)
              clear hb11
              go_wp2_with fail
              go_roundw
              case rel => exact ⟨j + 1, by omega, by go_num, by rw [HRM.out, HRS.out]; rfl, HB11.out⟩
              case measure => simp [intOf]; omega
            · have hsb : (st != 1) = true := by simpa using hs1
              rw [if_neg hs1] at hrs
              have HRS := Lib.hid hrs
              clear hst hrn hrm hrs
              go_wp2_with fail
              refine (tlen_is HTX.out (HL5.out)).mono ?_
              rintro e w8 ⟨rfl, rfl⟩
              go_wp2_with fail
              refine (state_is (j : Int) HST.out HTX.out).mono ?_
              rintro e w8 ⟨rfl, hb8⟩
              have HB8 : Hid (Below w7.heap.size w7 w8) := HBX.out.trans (hb8.mono HBX.out.size)
              clear hb8
              go_wp2_with fail
              go_roundw
              case rel => exact ⟨j + 1, by omega, by go_num, by rw [HRM.out, HRS.out]; rfl, HB8.out⟩
              case measure => simp [intOf]; omega
          · obtain rfl : j = fn := by omega
            have hjn' : ¬ (j : Int) < (j : Int) := by omega
            have HD7 := Lib.hid (((H5.out.below HB7.out).below HBX.out).dsp)
            have HB8 : Hid (Below w4.heap.size w4 wr) := HB7.out.trans (HBX.out.mono HB7.out.size)
            have hct := HR5.out.count
            rw [HL5.out] at hct
            obtain ⟨rn, hrn⟩ : ∃ rn, rdyN ps5 j = rn := ⟨_, rfl⟩
            rw [hrn] at hct ⊢
            have HCT := Lib.hid hct
            have HRL := Lib.hid HR5.out.rlen2
            clear hrn hct
            go_wp2_with fail
            refine (tlen_is HTX.out (HL5.out)).mono ?_
            rintro e w8 ⟨rfl, rfl⟩
            go_wp2_with fail
            refine (ready_any HD7.out HRL.out).mono ?_
            rintro e w9 ⟨u, rfl, ho, -, hb9⟩
            obtain ⟨ua, uc, hu⟩ := ho.sl
            rw [HCT.out] at hu
            subst hu
            have HG9 : Hid (Going w A j (k + 1) w9) := by
              obtain ⟨U9, ps9, R9, D9, now9, hd9, hri9, hl9, h09, h19, hlow9, hbel9⟩ := HG.out
              have hb49 : Below w4.heap.size w4 w9 := HB8.out.trans (hb9.mono HB8.out.size)
              exact ⟨U9, ps9, R9, D9, now9, hd9.below hb49, hri9, hl9, h09, h19, hlow9, hbel9.trans (hb49.mono hbel9.size)⟩
            clear ho hb9
            go_wp2_with fail
            go_roundw
            case rel => exact ⟨k + 1, by omega, by omega, by go_num, HG9.out⟩
            case measure => simp [intOf]; omega
      | false =>
        have HNO := Lib.hid (HTOP.out.2 rfl)
        clear HTOP
        obtain ⟨w7, hw7⟩ : ∃ w7, w7 = w6 := ⟨_, rfl⟩
        rw [← hw7] at HT6 HB6 ⊢
        have HT7 := HT6
        have HB7 := HB6
        clear hw7 HT6 HB6
        go_wp2_with fail
        obtain ⟨W7, hW7⟩ : ∃ W7, W7 = w7 := ⟨_, rfl⟩
        rw [← hW7]
        have HW7 : Hid (Below w7.heap.size w7 W7) := by rw [hW7]; exact Below.refl _ _
        clear hW7
        go_loopw [11, 12] (fun s11 s12 wx => ∃ j : Nat, j ≤ fn ∧ s12 = .int .i64 j ∧ s11 = .int .i64 (rdyN ps5 j : Nat) ∧ Below w7.heap.size w7 wx) (fun _ i _ => fn - (intOf i).toNat)
        case atStart => exact ⟨0, by omega, rfl, rfl, HW7.out⟩
        case round =>
          clear HW7
          obtain ⟨j, hj, rfl, rfl, hbx⟩ := hrel
          have HBX := Lib.hid hbx
          have HTX := Lib.hid (HT7.out.below hbx)
          clear hbx
          by_cases hjn : j < fn
          · have hjn' : (j : Int) < (fn : Int) := by omega
            obtain ⟨st, hst⟩ : ∃ st, stateR (lookP ps5 (j : Int)) = st := ⟨_, rfl⟩
            obtain ⟨rn, hrn⟩ : ∃ rn, rdyN ps5 j = rn := ⟨_, rfl⟩
            obtain ⟨rm, hrm⟩ : ∃ rm, rdyN ps5 (j + 1) = rm := ⟨_, rfl⟩
            have hrs := rdyN_succ ps5 j
            have hrl := rdyN_le ps5 j
            rw [hst, hrn, hrm] at hrs
            rw [hrn] at hrl ⊢
            have HST := Lib.hid hst
            have HRM := Lib.hid hrm
            by_cases hs1 : st = 1
            · have hsb : (st != 1) = false := by simp [hs1]
              rw [if_pos hs1] at hrs
              have HRS := Lib.hid hrs
              exact absurd (hst.trans hs1) (HNO.out (j : Int) (by omega) (by rw [HL5.out]; omega))
            · have hsb : (st != 1) = true := by simpa using hs1
              rw [if_neg hs1] at hrs
              have HRS := Lib.hid hrs
              clear hst hrn hrm hrs
              go_wp2_with fail
              refine (tlen_is HTX.out (HL5.out)).mono ?_
              rintro e w8 ⟨rfl, rfl⟩
              go_wp2_with fail
              refine (state_is (j : Int) HST.out HTX.out).mono ?_
              rintro e w8 ⟨rfl, hb8⟩
              have HB8 : Hid (Below w7.heap.size w7 w8) := HBX.out.trans (hb8.mono HBX.out.size)
              clear hb8
              go_wp2_with fail
              go_roundw
              case rel => exact ⟨j + 1, by omega, by go_num, by rw [HRM.out, HRS.out]; rfl, HB8.out⟩
              case measure => simp [intOf]; omega
          · obtain rfl : j = fn := by omega
            have hjn' : ¬ (j : Int) < (j : Int) := by omega
            have HD7 := Lib.hid (((H5.out.below HB7.out).below HBX.out).dsp)
            have HB8 : Hid (Below w4.heap.size w4 wr) := HB7.out.trans (HBX.out.mono HB7.out.size)
            have hct := HR5.out.count
            rw [HL5.out] at hct
            obtain ⟨rn, hrn⟩ : ∃ rn, rdyN ps5 j = rn := ⟨_, rfl⟩
            rw [hrn] at hct ⊢
            have HCT := Lib.hid hct
            have HRL := Lib.hid HR5.out.rlen2
            clear hrn hct
            go_wp2_with fail
            refine (tlen_is HTX.out (HL5.out)).mono ?_
            rintro e w8 ⟨rfl, rfl⟩
            go_wp2_with fail
            refine (ready_any HD7.out HRL.out).mono ?_
            rintro e w9 ⟨u, rfl, ho, -, hb9⟩
            obtain ⟨ua, uc, hu⟩ := ho.sl
            rw [HCT.out] at hu
            subst hu
            have HG9 : Hid (Going w A j (k + 1) w9) := by
              obtain ⟨U9, ps9, R9, D9, now9, hd9, hri9, hl9, h09, h19, hlow9, hbel9⟩ := HG.out
              have hb49 : Below w4.heap.size w4 w9 := HB8.out.trans (hb9.mono HB8.out.size)
              exact ⟨U9, ps9, R9, D9, now9, hd9.below hb49, hri9, hl9, h09, h19, hlow9, hbel9.trans (hb49.mono hbel9.size)⟩
            clear ho hb9
            go_wp2_with fail
            go_roundw
            case rel => exact ⟨k + 1, by omega, by omega, by go_num, HG9.out⟩
            case measure => simp [intOf]; omega
    · by_cases hl2 : k < n2
      · have hl2' : (k : Int) < (n2 : Int) := by omega
        have hl8 : ¬ (k : Int) < 80 := by omega
        have hl8b : decide ((k : Int) < 80) = false := by simpa using hl8
        clear hlt
        go_wp2_with fail
        go_ret
        exact ⟨rfl, HBEL.out⟩
      · have hl2' : ¬ (k : Int) < (n2 : Int) := by omega
        have hl2b : decide ((k : Int) < (n2 : Int)) = false := by simpa using hl2'
        clear hlt
        go_wp2_with fail
        go_ret
        exact ⟨rfl, HBEL.out⟩

end Go.Proofs.YtgnjenmicojgnaaGreat
