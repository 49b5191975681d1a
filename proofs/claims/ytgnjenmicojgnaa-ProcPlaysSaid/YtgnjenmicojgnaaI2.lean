/-
  What ProcPlays answers of attributes and a list of acts: true.
-/
import Derived.Test.YtgnjenmicojgnaaI0
namespace Go.Proofs.Ytgnjenmicojgnaa
set_option linter.unusedVariables false
set_option linter.unusedSimpArgs false
open Go.RowKit

def CloneTwo (w : World) (n t g c : Nat) (b : Addr) (ps : List Pr) (rs : List Rf) (e : Ending) (w' : World) : Prop :=
  ∃ t2 g2 c2, e = .returned (.pointer (some ⟨t2, 0, none⟩)) ∧ Two w' n t2 g2 c2 b ps rs t g c b ps rs ∧ w.heap.size ≤ g2 ∧ Below w.heap.size w w'

theorem clone_two {w : World} {n t g c : Nat} {b : Addr} {ps : List Pr} {rs : List Rf} (h : Both w t g c b n ps rs) :
    Calls Try.prog 26 #[.pointer (some ⟨t, 0, none⟩)] w (CloneTwo w n t g c b ps rs) := by
  refine (clone_any t g c ps w h.T).mono ?_
  rintro e w' ⟨t2, g2, c2, rfl, hT, ht, hg, hb⟩
  have h1 := h.T.lt
  have h2 := h.gl
  have hpl : ps.length = n := h.rel.1.trans h.len
  have hR := h.R.below hb
  by_cases hz : n = 0
  · refine ⟨t2, t2, c2, rfl, ⟨⟨tab_nil hT (by omega) t2, hR, h.rel, h.ok, h.len, fun hn => absurd hz hn, hT.lt⟩, h.below hb, by omega, by omega, by omega, fun hn => absurd hz hn, fun hn => absurd hz hn⟩, ht, hb⟩
  · have hg' := hg (by omega)
    have hbl : b.block < w.heap.size := by
      obtain ⟨bb, oo, e, hbl, _⟩ := h.R (by have := h.len; omega)
      injection e with e
      subst e
      exact hbl
    refine ⟨t2, g2, c2, rfl, ⟨⟨hT, hR, h.rel, h.ok, h.len, fun _ => by omega, hT.glt (by omega)⟩, h.below hb, by omega, by omega, by omega, fun hn => h.ne hn, fun _ => by omega⟩, hg', hb⟩

theorem same_clone {w : World} {n t g c : Nat} {A : Addr} {ps : List Pr} {rs : List Rf} {t2 g2 c2 : Nat} {A2 : Addr} {rs2 : List Rf} (h : Two w n t g c A ps rs t2 g2 c2 A2 ps rs2) :
    Calls Try.prog 24 #[.pointer (some ⟨t, 0, none⟩), .pointer (some ⟨t2, 0, none⟩)] w fun e w' => e = .returned (.bool true) ∧ Below w.heap.size w w' :=
  same_is (same_self ps) h.b1.T h.b2.T

/-- A table whose own document's slice isn't looked at any more, beside one with it. -/
structure Old (w : World) (n t g c : Nat) (A : Addr) (ps : List Pr) (rs : List Rf) (t2 g2 c2 : Nat) (qs : List Pr) : Prop where
  b1 : Both w t g c A n ps rs
  T : Tab w t2 g2 c2 qs
  ok : ∀ p, p ∈ qs → p.Ok
  n1 : t ≠ g2
  n3 : g ≠ g2
  n4 : n ≠ 0 → A.block ≠ g2
  gl : g2 < w.heap.size

theorem Old.step {w w' : World} {n t g c : Nat} {A : Addr} {ps : List Pr} {rs : List Rf} {t2 g2 c2 : Nat} {qs qs' : List Pr} (h : Old w n t g c A ps rs t2 g2 c2 qs) (hT : Tab w' t2 g2 c2 qs') (hok : ∀ p, p ∈ qs' → p.Ok) (ha : Apart w.heap.size w w' g2) : Old w' n t g c A ps rs t2 g2 c2 qs' :=
  ⟨h.b1.apart ha h.n1 h.n3 h.n4, hT, hok, h.n1, h.n3, h.n4, Nat.lt_of_lt_of_le h.gl ha.size⟩

theorem Two.old {w : World} {n t g c : Nat} {A : Addr} {ps : List Pr} {rs : List Rf} {t2 g2 c2 : Nat} {A2 : Addr} {ps2 : List Pr} {rs2 : List Rf} (h : Two w n t g c A ps rs t2 g2 c2 A2 ps2 rs2) : Old w n t g c A ps rs t2 g2 c2 ps2 :=
  ⟨h.b1, h.b2.T, h.b2.ok, h.n1, h.n3, h.n4, h.b2.gl⟩

def OldPost (w : World) (n t g c : Nat) (A : Addr) (ps : List Pr) (rs : List Rf) (t2 g2 c2 : Nat) (w' : World) : Prop :=
  (∃ qs, Old w' n t g c A ps rs t2 g2 c2 qs) ∧ Apart w.heap.size w w' g2

theorem stop_old {w : World} {n t g c : Nat} {A : Addr} {ps : List Pr} {rs : List Rf} {t2 g2 c2 : Nat} {qs : List Pr} (h : Old w n t g c A ps rs t2 g2 c2 qs) (k : Int) :
    Calls Try.prog 33 #[.pointer (some ⟨t2, 0, none⟩), .int .i64 k] w fun e w' => (∃ x, e = .returned (.int .i64 x)) ∧ OldPost w n t g c A ps rs t2 g2 c2 w' := by
  refine (stop_any t2 g2 c2 qs k w h.T h.ok).mono ?_
  rintro e w' ⟨rfl, hT, ha⟩
  exact ⟨⟨_, rfl⟩, ⟨_, h.step hT (act_ok keeps_stop h.ok k) ha⟩, ha⟩

theorem start_old {w : World} {n t g c : Nat} {A : Addr} {ps : List Pr} {rs : List Rf} {t2 g2 c2 : Nat} {qs : List Pr} (h : Old w n t g c A ps rs t2 g2 c2 qs) (k x : Int) :
    Calls Try.prog 13 #[.pointer (some ⟨t2, 0, none⟩), .int .i64 k, .int .i64 x] w fun e w' => (∃ x, e = .returned (.int .i64 x)) ∧ OldPost w n t g c A ps rs t2 g2 c2 w' := by
  refine (start_any t2 g2 c2 qs k x w h.T h.ok).mono ?_
  rintro e w' ⟨rfl, hT, ha⟩
  exact ⟨⟨_, rfl⟩, ⟨_, h.step hT (act_ok (keeps_start x) h.ok k) ha⟩, ha⟩

set_option maxRecDepth 100000 in
set_option maxHeartbeats 4000000 in
theorem plays_any (A : Option Addr) (n cc : Nat) (l : List At) (A1 : Option Addr) (n1 cc1 : Nat) (la : List ActV) (w : World)
    (hn : l.length = n) (hA : AtRow w A l) (hn1 : la.length = n1) (hA1 : Acts w A1 la) :
    Calls Try.prog 8 #[.slice A n cc, .slice A1 n1 cc1] w fun e w' => e = .returned (.bool true) ∧ Below w.heap.size w w' := by
  have HN := Lib.hid hn
  have HA := Lib.hid hA
  have HN1 := Lib.hid hn1
  have HA1 := Lib.hid hA1
  clear hn hA hn1 hA1
  go_enter Try.func8, Try.ntmps8
  go_wp2_with fail
  refine (speaks_any w).mono ?_
  rintro e w1 ⟨rfl, hb1⟩
  have HB1 := Lib.hid hb1
  clear hb1
  by_cases hl0 : 20 < n
  · go_wp2_with fail
    refine (speaks_any w1).mono ?_
    rintro e w2 ⟨rfl, hb2⟩
    have HB2 := Lib.hid hb2
    clear hb2
    go_wp2
    go_ret
    exact ⟨rfl, HB1.out.trans (HB2.out.mono HB1.out.size)⟩
  by_cases hl1 : 60 < n1
  · go_wp2_with fail
    refine (speaks_any w1).mono ?_
    rintro e w2 ⟨rfl, hb2⟩
    have HB2 := Lib.hid hb2
    clear hb2
    go_wp2
    go_ret
    exact ⟨rfl, HB1.out.trans (HB2.out.mono HB1.out.size)⟩
  go_wp2_with fail
  refine (made_both HN.out (HA.out.below HB1.out) (by omega)).mono ?_
  rintro e w2 ⟨hp, hb2⟩
  have HB2 : Hid (Below w.heap.size w w2) := HB1.out.trans (hb2.mono HB1.out.size)
  have HS1 := Lib.hid HB1.out.size
  clear hb2
  rcases hp with ⟨hok, t, g, c, b, c', rfl, hB, ht, hg, hbb⟩ | ⟨hok, rfl⟩
  rotate_left
  · go_wp2
    go_ret
    exact ⟨rfl, HB2.out⟩
  · have HB := Lib.hid hB
    have HG : Hid (w.heap.size ≤ g) := Nat.le_trans HS1.out hg
    clear hB hok ht hbb hg
    go_wp2_with fail
    go_loopw [5, 6, 40] (fun s5 s6 s40 wr => ∃ (k t g c cA : Nat) (b : Addr) (ps : List Pr) (rs : List Rf), k ≤ n1 ∧ s5 = .pointer (some ⟨t, 0, none⟩) ∧ s6 = .slice (some b) n cA ∧ s40 = .int .i64 k ∧ Both wr t g c b n ps rs ∧ w.heap.size ≤ g ∧ Below w.heap.size w wr) (fun _ _ i _ => n1 - (intOf i).toNat)
    case atStart => exact ⟨0, t, g, c, c', b, _, _, Nat.zero_le _, rfl, rfl, rfl, HB.out, HG.out, HB2.out⟩
    case round =>
      clear HB HG
      obtain ⟨k, t, g, c, cA, b, ps, rs, hk, rfl, rfl, rfl, hB, hg, hbr⟩ := hrel
      have HBr := Lib.hid hB
      have HLr := Lib.hid hbr
      have hbs := hbr.size
      clear hB hbr
      by_cases hlt : k < n1
      · obtain ⟨bb, o, rfl, hbl, hel⟩ := HA1.out (by have := HN1.out; omega)
        obtain ⟨x, hxk⟩ : ∃ x, la[k]? = some x := ⟨_, List.getElem?_eq_getElem (by have := HN1.out; omega)⟩
        obtain ⟨he0, he1, he2, hd1, hd2⟩ := hel k x hxk
        have e0 := (HLr.out.cell (p := ⟨bb, o + k * 3, none⟩) hbl).trans he0
        have e1 := (HLr.out.cell (p := ⟨bb, o + k * 3 + 1, none⟩) hbl).trans he1
        have e2 := (HLr.out.cell (p := ⟨bb, o + k * 3 + 2, none⟩) hbl).trans he2
        obtain ⟨xd, xi, xn⟩ := x
        dsimp only at e0 e1 e2 hd1 hd2
        clear hel hxk he0 he1 he2
        have hbl2 : bb < wr.heap.size := by omega
        by_cases hbig : 128 ≤ xd
        · go_wp2_with fail
          obtain ⟨W0, hW0⟩ : ∃ W0, W0 = wr.alloc (.cells #[.int .u8 xd, .int .i64 xi, .int .i64 xn] 52) := ⟨_, rfl⟩
          rw [← hW0]
          have HC0 : Hid (∀ j, W0.cell? ⟨wr.heap.size, j, none⟩ = (#[.int .u8 xd, .int .i64 xi, .int .i64 xn] : Array Value)[j]?) := by rw [hW0]; intro j; simp
          have hs0 : wr.heap.size < W0.heap.size := by rw [hW0]; simp
          have HL0 : Hid (Below w.heap.size w W0) := by rw [hW0]; exact HLr.out.alloc hbs _
          have HB0 : Hid (Both W0 t g c b n ps rs) := by rw [hW0]; exact HBr.out.below ((Below.refl _ _).alloc (Nat.le_refl _) _)
          have hgr : g < wr.heap.size := HBr.out.gl
          clear hW0 e0 e1 e2 HBr HLr
          generalize wr.heap.size = bx at *
          refine (clone_two HB0.out).mono ?_
          rintro e w3 ⟨t2, g2, c2, rfl, hTw, hg2, hb3⟩
          have HC3 : Hid (∀ j, w3.cell? ⟨bx, j, none⟩ = (#[.int .u8 xd, .int .i64 xi, .int .i64 xn] : Array Value)[j]?) := fun j => (hb3.cell (p := ⟨bx, j, none⟩) hs0).trans (HC0.out j)
          have hs3 : bx < w3.heap.size := by have := hb3.size; omega
          have HL3 : Hid (Below w.heap.size w w3) := HL0.out.trans (hb3.mono HL0.out.size)
          have HTw := Lib.hid hTw
          have hg2 : w.heap.size ≤ g2 := by omega
          clear HC0 HL0 HB0 hb3 hTw
          go_wp2_with fail
          refine (same_clone HTw.out).mono ?_
          rintro e w4 ⟨rfl, hb4⟩
          have HC4 : Hid (∀ j, w4.cell? ⟨bx, j, none⟩ = (#[.int .u8 xd, .int .i64 xi, .int .i64 xn] : Array Value)[j]?) := fun j => (hb4.cell (p := ⟨bx, j, none⟩) hs3).trans (HC3.out j)
          have hs4 : bx < w4.heap.size := by have := hb4.size; omega
          have HL4 : Hid (Below w.heap.size w w4) := HL3.out.trans (hb4.mono HL3.out.size)
          have HO4 := Lib.hid (HTw.out.below hb4).old
          clear HC3 HL3 HTw hb4 hs3
          go_wp2_with fail
          go_loopw [59] (fun s59 wx => ∃ (j : Nat) (qs : List Pr), j ≤ n ∧ s59 = .int .i64 j ∧ Old wx n t2 g2 c2 b ps rs t g c qs ∧ (∀ j, wx.cell? ⟨bx, j, none⟩ = (#[.int .u8 xd, .int .i64 xi, .int .i64 xn] : Array Value)[j]?) ∧ bx < wx.heap.size ∧ Below w.heap.size w wx) (fun i _ => n - (intOf i).toNat)
          case atStart => exact ⟨0, _, Nat.zero_le _, rfl, HO4.out, HC4.out, hs4, HL4.out⟩
          case round =>
            clear HO4 HC4 HL4 hs4
            obtain ⟨j, qs, hj, rfl, hO, hC, hsx, hL⟩ := hrel
            have HOx := Lib.hid hO
            have HCx := Lib.hid hC
            have HLx := Lib.hid hL
            clear hO hC hL
            by_cases hjn : j < n
            · go_wp2_with fail
              refine (stop_old HOx.out j).mono ?_
              rintro e w5 ⟨⟨x5, rfl⟩, ⟨q5, hO5⟩, ha5⟩
              have HO5 := Lib.hid hO5
              have HC5 : Hid (∀ j, w5.cell? ⟨bx, j, none⟩ = (#[.int .u8 xd, .int .i64 xi, .int .i64 xn] : Array Value)[j]?) := fun j => (World.cell?_of_block (w := wr) (a := ⟨bx, j, none⟩) (ha5.block _ (by show bx < _; omega) (by show bx ≠ g; omega))).trans (HCx.out j)
              have hs5 : bx < w5.heap.size := by have := ha5.size; omega
              have HL5 : Hid (Below w.heap.size w w5) := HLx.out.trans ((ha5.mono HLx.out.size).below hg)
              clear hO5 ha5 HCx
              go_wp2_with fail
              refine (start_old HO5.out j 7).mono ?_
              rintro e w6 ⟨⟨x6, rfl⟩, ⟨q6, hO6⟩, ha6⟩
              have HO6 := Lib.hid hO6
              have HC6 : Hid (∀ j, w6.cell? ⟨bx, j, none⟩ = (#[.int .u8 xd, .int .i64 xi, .int .i64 xn] : Array Value)[j]?) := fun j => (World.cell?_of_block (w := w5) (a := ⟨bx, j, none⟩) (ha6.block _ (by show bx < _; omega) (by show bx ≠ g; omega))).trans (HC5.out j)
              have hs6 : bx < w6.heap.size := by have := ha6.size; omega
              have HL6 : Hid (Below w.heap.size w w6) := HL5.out.trans ((ha6.mono HL5.out.size).below hg)
              clear hO6 ha6 HC5
              go_wp2
              go_roundw
              case rel => exact ⟨j + 1, _, by omega, by go_num, HO6.out, HC6.out, hs6, HL6.out⟩
              case measure => simp [intOf]; omega
            · have hcx := HCx.out
              go_wp2_with fail
              refine (do_both HOx.out.b1 ⟨hd1, hd2⟩).mono ?_
              rintro e wt ⟨b', c'', ps', rs', rfl, hB', ha', hbb'⟩
              have HBt := Lib.hid hB'
              have HLt : Hid (Below w.heap.size w wt) := HLx.out.trans ((ha'.mono HLx.out.size).below hg2)
              clear hB' ha' hbb'
              go_wp2_with fail
              refine (told_both HBt.out).mono ?_
              rintro e wv ⟨rfl, hbv⟩
              have HBv := Lib.hid (HBt.out.below hbv)
              have HLv : Hid (Below w.heap.size w wv) := HLt.out.trans (hbv.mono HLt.out.size)
              clear hbv
              go_wp2
              go_roundw
              case rel => exact ⟨k + 1, _, _, _, _, _, _, _, by omega, rfl, rfl, by go_num, HBv.out, hg2, HLv.out⟩
              case measure => simp [intOf]; omega
              
        · have hbig' : ¬ (128 : Int) ≤ xd := hbig
          go_wp2_with fail
          refine (do_both (HBr.out.below ((Below.refl _ _).alloc (Nat.le_refl _) _)) ⟨hd1, hd2⟩).mono ?_
          rintro e wt ⟨b', c'', ps', rs', rfl, hB', ha', hbb'⟩
          have HBt := Lib.hid hB'
          have HLt : Hid (Below w.heap.size w wt) := (HLr.out.alloc hbs _).trans ((ha'.mono (by simp; omega)).below hg)
          clear hB' ha' hbb'
          go_wp2_with fail
          refine (told_both HBt.out).mono ?_
          rintro e wv ⟨rfl, hbv⟩
          have HBv := Lib.hid (HBt.out.below hbv)
          have HLv : Hid (Below w.heap.size w wv) := HLt.out.trans (hbv.mono HLt.out.size)
          clear hbv
          go_wp2
          go_roundw
          case rel => exact ⟨k + 1, _, _, _, _, _, _, _, by omega, rfl, rfl, by go_num, HBv.out, hg, HLv.out⟩
          case measure => simp [intOf]; omega
          
      · go_wp2_with fail
        go_ret
        exact ⟨rfl, HLr.out⟩

end Go.Proofs.Ytgnjenmicojgnaa
