/-
  What Begin makes of attributes; DispatchActs' walk.
-/
import Derived.Test.YtgnjenmicojgnaaGreatTbw
import Derived.Test.YtgnjenmicojgnaaGreatTcw
import Derived.Test.YtgnjenmicojgnaaGreatK4w
namespace Go.Proofs.YtgnjenmicojgnaaGreat
set_option linter.unusedVariables false
set_option linter.unusedSimpArgs false
open Go.RowKit

theorem rinv_new {l : List At} (hok : newOk l = true) : RInv (l.map prOf) r0 [] := by
  have hp : ∀ i, (lookP (l.map prOf) i).st = 0 ∧ (lookP (l.map prOf) i).held = false := fun i => by
    unfold lookP
    split
    · exact ⟨rfl, rfl⟩
    · rw [List.getElem?_map]
      cases l[i.toNat]? with
      | none => exact ⟨rfl, rfl⟩
      | some a => exact ⟨rfl, rfl⟩
  unfold newOk at hok
  rw [Bool.and_eq_true] at hok
  refine ⟨by have := hok.1; simp at this ⊢; omega, fun p hp => ?_, fun p => by simp [r0], fun p i => ?_, by simp, fun i a => ?_⟩
  · obtain ⟨a, ha, rfl⟩ := List.mem_map.1 hp
    exact ok_fresh (List.all_eq_true.1 hok.2 a ha)
  · constructor
    · intro h; simp [r0] at h
    · rintro ⟨_, _, h, _⟩
      obtain ⟨h1, h2⟩ := hp i
      unfold stateR at h
      rw [h2, h1] at h
      simp at h
  · constructor
    · intro h; simp at h
    · rintro ⟨_, _, h, _⟩
      obtain ⟨h1, h2⟩ := hp i
      simp [untilB, h1] at h

theorem tab_nil' {w : World} {t g c : Nat} {ps : List Pr} (h : Tab w t g c ps) (hz : ps.length = 0) (g' : Nat) : Tab w t g' c ps := by
  refine ⟨?_, fun hn => absurd hz hn, h.len⟩
  have := h.hdr
  unfold slc at this ⊢
  rw [if_pos hz] at this ⊢
  exact this

def BegPost (w : World) (l : List At) (e : Ending) (w' : World) : Prop :=
  ∃ A U, e = .returned (.tuple #[.pointer (some ⟨A.d, 0, none⟩), .pointer (some ⟨A.x, 0, none⟩)]) ∧ Duo w' A U (l.map prOf) r0 (srt []) (l.map prOf) (rowE r0) [] 0 ∧ (∀ i, iP A U i → w.heap.size ≤ i) ∧ Below w.heap.size w w'

set_option maxRecDepth 100000 in
set_option maxHeartbeats 2000000 in
theorem begin_any (B : Option Addr) (n cc : Nat) (l : List At) (w : World) (hn : l.length = n) (hB : AtRow w B l) (hm : n ≤ 140737488355328) (hok : newOk l = true) :
    Calls Tryz.prog 7 #[.slice B n cc] w (BegPost w l) := by
  have HN := Lib.hid (fun (W : World) (hb : Below w.heap.size w W) => new_any B n cc l W hn (hB.below hb) hm)
  have HD := Lib.hid (dnew_any B n cc l w hn hB hm hok)
  have HOK := Lib.hid hok
  clear hn hB hok
  go_enter Tryz.func7, Tryz.ntmps7
  go_wp2_with fail
  refine HD.out.mono ?_
  rintro e w1 ⟨d, t, g, c, l', m, rfl, hD, hlow, hb1⟩
  have HDD := Lib.hid hD
  have HLOW := Lib.hid hlow
  have HB1 := Lib.hid hb1
  clear hD hlow hb1 HD
  go_wp2_with fail
  refine (HN.out w1 HB1.out).mono ?_
  rintro e w2 ⟨hp, hb2⟩
  rcases hp with ⟨-, t2, g2, c2, rfl, hT, ht, hg⟩ | ⟨hno, -⟩
  rotate_left
  · exact absurd (HOK.out.symm.trans hno) (by simp)
  have HB2 := Lib.hid hb2
  have HT := Lib.hid hT
  have HTT := Lib.hid ht
  have HG := Lib.hid hg
  clear hT ht hg hb2 HN
  have HP : Hid (∀ w3, w3 = w2.alloc (.cells #[.pointer (some ⟨t2, 0, none⟩), .slice none 0 0, .slice none 0 0, .int .i64 0] 48) → BegPost w l (.returned (.tuple #[.pointer (some ⟨d, 0, none⟩), .pointer (some ⟨w2.heap.size, 0, none⟩)])) w3) := by
    rintro w3 hw3
    have hba : Below w2.heap.size w2 w3 := by rw [hw3]; exact (Below.refl _ _).alloc (Nat.le_refl _) _
    have hsz : w3.heap.size = w2.heap.size + 1 := by rw [hw3]; simp
    have hs1 := HB1.out.size
    have hs2 := HB2.out.size
    have htl := HT.out.lt
    have ht := HTT.out
    obtain ⟨g', hT', hg1, hg2⟩ : ∃ g', Tab w2 t2 g' c2 (l.map prOf) ∧ g' < w2.heap.size ∧ w1.heap.size ≤ g' := by
      by_cases hz : l.length = 0
      · exact ⟨t2, tab_nil' HT.out (by simpa using hz) t2, htl, ht⟩
      · exact ⟨g2, HT.out, HT.out.glt (by simpa using hz), HG.out hz⟩
    have hD3 := (HDD.out.below HB2.out).below hba
    refine ⟨⟨d, t, g, c, l', m, w2.heap.size, t2, g', c2⟩, ⟨v0, .slice none 0 0, .slice none 0 0, .slice none 0 0⟩, rfl, ⟨hD3, ⟨?_, by show g' < w3.heap.size; rw [hsz]; omega, hT'.below hba, ?_, by show w2.heap.size ≠ g'; omega, OwnP.nil 88 _, OwnP.nil 99 _, fun b hb => by simp [Value.ownBlock] at hb, fun b hb => by simp [Value.ownBlock] at hb⟩, fun i hi hw => ?_⟩, fun i hi => ?_, ?_⟩
    · show w3.heap[w2.heap.size]? = _
      rw [hw3]
      exact heap_alloc_new w2 _
    · exact (rinv_new HOK.out).ok
    · have h1 : i < w1.heap.size := HDD.out.lt hi
      rcases hw with h | h | h | h | h
      · have h : i = w2.heap.size := h; omega
      · have h : i = t2 := h; omega
      · have h : i = g' := h; omega
      · simp [Value.ownBlock] at h
      · simp [Value.ownBlock] at h
    · rcases hi with hi | h | h | h | h | h
      · exact HLOW.out i hi
      · have h : i = w2.heap.size := h; omega
      · have h : i = t2 := h; omega
      · have h : i = g' := h; omega
      · simp [Value.ownBlock] at h
      · simp [Value.ownBlock] at h
    · exact HB1.out.trans ((HB2.out.trans (hba.mono hs2)).mono hs1)
  clear HDD HLOW HT HTT HG
  go_wp2_with fail
  go_ret2
  exact HP.out _ rfl

/-- A row of operations that came in. -/
structure OpV where
  kd : Int
  i : Int
  n : Int
  b : Int
def Ops (w : World) (B : Option Addr) (l : List OpV) : Prop := l.length ≠ 0 → ∃ b o, B = some ⟨b, o, none⟩ ∧ b < w.heap.size ∧ ∀ k x, l[k]? = some x →
  w.cell? ⟨b, o + k * 4, none⟩ = some (.int .i64 x.kd) ∧ w.cell? ⟨b, o + k * 4 + 1, none⟩ = some (.int .i64 x.i) ∧ w.cell? ⟨b, o + k * 4 + 2, none⟩ = some (.int .i64 x.n) ∧ w.cell? ⟨b, o + k * 4 + 3, none⟩ = some (.int .i64 x.b)

/-- The state of the loops over operations. -/
def Going (w : World) (A : Ad) (n0 : Nat) (k : Nat) (wr : World) : Prop :=
  ∃ U ps R D now, Duo wr A U ps R (srt D) ps (rowE R) D now ∧ RInv ps R D ∧ ps.length = n0 ∧ 0 ≤ now ∧ now ≤ 2 * k ∧ (∀ i, iP A U i → w.heap.size ≤ i) ∧ Below w.heap.size w wr

theorem Going.step {w : World} {A : Ad} {n0 k : Nat} {wr w1 : World} {U : Vs} {now : Int} {e : Ending} (h0 : 0 ≤ now) (h1 : now ≤ 2 * k) (hlow : ∀ i, iP A U i → w.heap.size ≤ i) (hb : Below w.heap.size w wr) (hp : DoPost wr A U n0 now e w1) : e = .returned (.bool true) ∧ Going w A n0 (k + 1) w1 := by
  obtain ⟨U', ps', R', D', nw, he, hd, hri, hl, h2, h3, hf⟩ := hp
  refine ⟨he, U', ps', R', D', nw, hd, hri, hl, by omega, by omega, fun i hi => ?_, ?_⟩
  · rcases hf.p i hi with h5 | h5
    · exact hlow i h5
    · exact Nat.le_trans hb.size h5
  · exact hb.trans (hf.k.below hb.size (fun i hi => hlow i (iM_iP hi)))

set_option maxRecDepth 100000 in
set_option maxHeartbeats 4000000 in
theorem acts_any (B : Option Addr) (n cc : Nat) (l : List At) (B2 : Option Addr) (n2 cc2 : Nat) (ops : List OpV) (w : World) (hn : l.length = n) (hB : AtRow w B l) (hn2 : ops.length = n2) (hB2 : Ops w B2 ops) :
    Calls Tryz.prog 4 #[.slice B n cc, .slice B2 n2 cc2] w fun e w' => e = .returned (.bool true) ∧ Below w.heap.size w w' := by
  have HF := Lib.hid (fix_any B n cc l w hn hB)
  have HN2 := Lib.hid hn2
  have HB2 := Lib.hid hB2
  clear hn hB hn2 hB2
  go_enter Tryz.func4, Tryz.ntmps4
  go_wp2_with fail
  refine HF.out.mono ?_
  rintro e w1 ⟨A1, c1, rfl, hA1, hb1⟩
  have HBG := Lib.hid (begin_any A1 (fixL l).length c1 (fixL l) w1 rfl hA1 (by have := fixL_len l; omega) (fixL_ok l))
  have HB1 := Lib.hid hb1
  obtain ⟨fl, hfl⟩ : ∃ fl, fixL l = fl := ⟨_, rfl⟩
  obtain ⟨fn, hfn⟩ : ∃ fn, fl.length = fn := ⟨_, rfl⟩
  have HOK : Hid (newOk fl = true) := by rw [← hfl]; exact fixL_ok l
  rw [hfl, hfn] at HBG ⊢
  have HFN := Lib.hid hfn
  clear hA1 hb1 HF hfl hfn
  go_wp2_with fail
  refine HBG.out.mono ?_
  rintro e w2 ⟨A, U, rfl, hd, hlow, hb2⟩
  have HD := Lib.hid hd
  have HLOW := Lib.hid hlow
  have HB2' : Hid (Below w.heap.size w w2) := HB1.out.trans (hb2.mono HB1.out.size)
  clear hd hlow hb2 HBG
  go_wp2_with fail
  refine (told_any20 w2).mono ?_
  rintro e w3 ⟨rfl, hb3⟩
  have HG : Hid (Going w A fn 0 w3) := ⟨U, fl.map prOf, r0, [], 0, HD.out.below hb3, rinv_new HOK.out, by rw [List.length_map]; exact HFN.out, by omega, by omega, fun i hi => Nat.le_trans HB1.out.size (HLOW.out i hi), HB2'.out.trans (hb3.mono HB2'.out.size)⟩
  clear hb3 HD HLOW HB2'
  go_wp2_with fail
  go_loopw [7] (fun s7 wr => ∃ k : Nat, k ≤ n2 ∧ k ≤ 80 ∧ s7 = .int .i64 k ∧ Going w A fn k wr) (fun i _ => n2 - (intOf i).toNat)
  case atStart => exact ⟨0, by omega, by omega, rfl, HG.out⟩
  case round =>
    clear HG
    obtain ⟨k, hk, hk80, rfl, hg⟩ := hrel
    obtain ⟨U, ps, R, D, now, hd, hri, hpl, hnow0, hnow1, hlow, hbel⟩ := hg
    have HD := Lib.hid hd
    have HRI := Lib.hid hri
    have HLOW := Lib.hid hlow
    have HBEL := Lib.hid hbel
    have HPL := Lib.hid hpl
    clear hd hri hpl hlow hbel
    by_cases hlt : k < n2 ∧ k < 80
    · obtain ⟨hlt2, hlt8⟩ := hlt
      have hl8 : (k : Int) < 80 := by omega
      have hl2 : (k : Int) < (n2 : Int) := by omega
      have hk0 : (0 : Int) ≤ (k : Int) := by omega
      obtain ⟨ob, oo, rfl, hobl, hoc⟩ := HB2.out (by have := HN2.out; omega)
      obtain ⟨o, ho⟩ : ∃ o, ops[k]? = some o := ⟨_, List.getElem?_eq_getElem (by have := HN2.out; omega)⟩
      obtain ⟨kd, oi, on, oby⟩ := o
      obtain ⟨c0, c1, c2, c3⟩ := hoc k _ ho
      have e0 := (HBEL.out.cell (p := ⟨ob, oo + k * 4, none⟩) hobl).trans c0
      have e1 := (HBEL.out.cell (p := ⟨ob, oo + k * 4 + 1, none⟩) hobl).trans c1
      have e2 := (HBEL.out.cell (p := ⟨ob, oo + k * 4 + 2, none⟩) hobl).trans c2
      have e3 := (HBEL.out.cell (p := ⟨ob, oo + k * 4 + 3, none⟩) hobl).trans c3
      have hobr : ob < wr.heap.size := by have := HBEL.out.size; omega
      have HDO := Lib.hid (do_any HD.out HRI.out kd oi on oby hnow0 (by omega))
      clear hoc ho c0 c1 c2 c3
      go_wp2_with fail
      refine HDO.out.mono ?_
      intro e w4 hp
      rw [HPL.out] at hp
      obtain ⟨rfl, hg⟩ := Going.step hnow0 hnow1 HLOW.out HBEL.out hp
      have HG := Lib.hid hg
      have HS : Hid (Calls Tryz.prog 17 #[.pointer (some ⟨A.d, 0, none⟩), .pointer (some ⟨A.x, 0, none⟩)] w4 fun e w' => e = .returned (.bool true) ∧ Below w4.heap.size w4 w') := by
        obtain ⟨U5, ps5, R5, D5, now5, hd5, hri5, -⟩ := hg
        exact seen_duo hd5 hri5
      clear hp hg HDO e0 e1 e2 e3 HD HRI HLOW HBEL HPL
      go_wp2_with fail
      refine HS.out.mono ?_
      rintro e w5 ⟨rfl, hb5⟩
      have HG5 : Hid (Going w A fn (k + 1) w5) := by
        obtain ⟨U5, ps5, R5, D5, now5, hd5, hri5, hl5, h05, h15, hlow5, hbel5⟩ := HG.out
        exact ⟨U5, ps5, R5, D5, now5, hd5.below hb5, hri5, hl5, h05, h15, hlow5, hbel5.trans (hb5.mono hbel5.size)⟩
      clear hb5 HG HS
      go_wp2_with fail
      go_roundw
      case rel => exact ⟨k + 1, by omega, by omega, by go_num, HG5.out⟩
      case measure => simp [intOf]; omega
    · have HS := Lib.hid (seen_duo HD.out HRI.out)
      by_cases hl2 : k < n2
      · have hl2' : (k : Int) < (n2 : Int) := by omega
        have hl8 : ¬ (k : Int) < 80 := by omega
        have hl8b : decide ((k : Int) < 80) = false := by simpa using hl8
        clear hlt
        go_wp2_with fail
        refine HS.out.mono ?_
        rintro e w5 ⟨rfl, hb5⟩
        have HB5 := Lib.hid hb5
        clear hb5
        go_wp2
        go_ret
        exact ⟨rfl, HBEL.out.trans (HB5.out.mono HBEL.out.size)⟩
      · have hl2' : ¬ (k : Int) < (n2 : Int) := by omega
        have hl2b : decide ((k : Int) < (n2 : Int)) = false := by simpa using hl2'
        clear hlt
        go_wp2_with fail
        refine HS.out.mono ?_
        rintro e w5 ⟨rfl, hb5⟩
        have HB5 := Lib.hid hb5
        clear hb5
        go_wp2
        go_ret
        exact ⟨rfl, HBEL.out.trans (HB5.out.mono HBEL.out.size)⟩

end Go.Proofs.YtgnjenmicojgnaaGreat
