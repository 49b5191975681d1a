/-
  What ProcSame answers of attributes and two lists of acts: true.
-/
import Derived.Test.YtgnjenmicojgnaaI0
namespace Go.Proofs.Ytgnjenmicojgnaa
set_option linter.unusedVariables false
set_option linter.unusedSimpArgs false
open Go.RowKit

set_option maxRecDepth 100000 in
set_option maxHeartbeats 4000000 in
theorem same_law_any (A : Option Addr) (n cc : Nat) (l : List At) (A1 : Option Addr) (n1 cc1 : Nat) (la : List ActV) (A2 : Option Addr) (n2 cc2 : Nat) (lb : List ActV) (w : World)
    (hn : l.length = n) (hA : AtRow w A l) (hn1 : la.length = n1) (hA1 : Acts w A1 la) (hn2 : lb.length = n2) (hA2 : Acts w A2 lb) :
    Calls Try.prog 6 #[.slice A n cc, .slice A1 n1 cc1, .slice A2 n2 cc2] w fun e w' => e = .returned (.bool true) ∧ Below w.heap.size w w' := by
  have HN := Lib.hid hn
  have HA := Lib.hid hA
  have HN1 := Lib.hid hn1
  have HA1 := Lib.hid hA1
  have HN2 := Lib.hid hn2
  have HA2 := Lib.hid hA2
  clear hn hA hn1 hA1 hn2 hA2
  go_enter Try.func6, Try.ntmps6
  go_wp2_with fail
  refine (speaks_any w).mono ?_
  rintro e w1 ⟨rfl, hb1⟩
  have HB1 := Lib.hid hb1
  clear hb1
  by_cases hl0 : 20 < n
  · go_wp2_with fail
    refine (speaks_any w1).mono ?_
    rintro e w2 ⟨rfl, hb2⟩
    have HB2 := Lib.hid hb2
    clear hb2
    go_wp2
    go_ret
    exact ⟨rfl, HB1.out.trans (HB2.out.mono HB1.out.size)⟩
  by_cases hl1 : 40 < n1
  · go_wp2_with fail
    refine (speaks_any w1).mono ?_
    rintro e w2 ⟨rfl, hb2⟩
    have HB2 := Lib.hid hb2
    clear hb2
    go_wp2
    go_ret
    exact ⟨rfl, HB1.out.trans (HB2.out.mono HB1.out.size)⟩
  by_cases hl2 : 40 < n2
  · go_wp2_with fail
    refine (speaks_any w1).mono ?_
    rintro e w2 ⟨rfl, hb2⟩
    have HB2 := Lib.hid hb2
    clear hb2
    go_wp2
    go_ret
    exact ⟨rfl, HB1.out.trans (HB2.out.mono HB1.out.size)⟩
  go_wp2_with fail
  refine (made_both HN.out (HA.out.below HB1.out) (by omega)).mono ?_
  rintro e w2 ⟨hp, hb2⟩
  have HB2 : Hid (Below w.heap.size w w2) := HB1.out.trans (hb2.mono HB1.out.size)
  have HS1 := Lib.hid HB1.out.size
  clear hb2
  rcases hp with ⟨hok, t, g, c, b, c', rfl, hB, ht, hg, hbb⟩ | ⟨hok, rfl⟩
  rotate_left
  · go_wp2_with fail
    refine (made_both HN.out (HA.out.below HB2.out) (by omega)).mono ?_
    rintro e w3 ⟨hp, hb3⟩
    have HB3 : Hid (Below w.heap.size w w3) := HB2.out.trans (hb3.mono HB2.out.size)
    clear hb3
    rcases hp with ⟨hok', _⟩ | ⟨hok', rfl⟩
    · exact absurd (hok.symm.trans hok') (by simp)
    · go_wp2
      go_ret
      exact ⟨rfl, HB3.out⟩
  · have HB := Lib.hid hB
    have HOK := Lib.hid hok
    have hg : w.heap.size ≤ g := Nat.le_trans HS1.out hg
    clear hB hok ht hbb
    go_wp2_with fail
    refine (made_both HN.out (HA.out.below HB2.out) (by omega)).mono ?_
    rintro e w3 ⟨hp, hb3⟩
    rcases hp with ⟨hok', t2, g2, c2, b2, c2', rfl, hC, ht2, hg2, hbb2⟩ | ⟨hok', rfl⟩
    rotate_left
    · exact absurd (HOK.out.symm.trans hok') (by simp)
    have HW : Hid (Two w3 n t g c b (l.map prOf) (l.map rfOf) t2 g2 c2 b2 (l.map prOf) (l.map rfOf)) := by
      have h1 := HB.out.T.lt
      have h2 := HB.out.gl
      refine ⟨HB.out.below hb3, hC, by omega, by omega, by omega, fun hz => ?_, fun hz => by omega⟩
      obtain ⟨bb, oo, e, hbl, _⟩ := HB.out.R (by have := HB.out.len; omega)
      injection e with e
      subst e
      show bb ≠ g2
      omega
    have hg2 : w.heap.size ≤ g2 := by have := HB2.out.size; omega
    have HB3 : Hid (Below w.heap.size w w3) := HB2.out.trans (hb3.mono HB2.out.size)
    clear hb3 hC ht2 hbb2 hok'
    go_wp2_with fail
    go_loopw [8, 60] (fun s8 s60 wr => ∃ (k cA : Nat) (b : Addr) (ps : List Pr) (rs : List Rf), k ≤ n1 ∧ s8 = .slice (some b) n cA ∧ s60 = .int .i64 k ∧ Two wr n t g c b ps rs t2 g2 c2 b2 (l.map prOf) (l.map rfOf) ∧ Below w.heap.size w wr) (fun _ i _ => n1 - (intOf i).toNat)
    case atStart => exact ⟨0, c', b, _, _, Nat.zero_le _, rfl, rfl, HW.out, HB3.out⟩
    case round =>
      obtain ⟨k, cA, b, ps, rs, hk, rfl, rfl, hW, hbr⟩ := hrel
      have HBr := Lib.hid hbr
      have HWr := Lib.hid hW
      have hbs := hbr.size
      clear hW hbr
      by_cases hlt : k < n1
      · obtain ⟨bb, o, rfl, hbl, hel⟩ := HA1.out (by have := HN1.out; omega)
        obtain ⟨x, hxk⟩ : ∃ x, la[k]? = some x := ⟨_, List.getElem?_eq_getElem (by have := HN1.out; omega)⟩
        obtain ⟨he0, he1, he2, hd1, hd2⟩ := hel k x hxk
        have e0 := (HBr.out.cell (p := ⟨bb, o + k * 3, none⟩) hbl).trans he0
        have e1 := (HBr.out.cell (p := ⟨bb, o + k * 3 + 1, none⟩) hbl).trans he1
        have e2 := (HBr.out.cell (p := ⟨bb, o + k * 3 + 2, none⟩) hbl).trans he2
        obtain ⟨xd, xi, xn⟩ := x
        dsimp only at e0 e1 e2 hd1 hd2
        clear hel hxk he0 he1 he2
        have hbl2 : bb < wr.heap.size := by omega
        go_wp2_with fail
        refine (do_two (HWr.out.alloc _) ⟨hd1, hd2⟩).mono ?_
        rintro e ws ⟨b', c'', ps', rs', rfl, hW', ha⟩
        have HWs := Lib.hid hW'
        have HBs : Hid (Below w.heap.size w ws) := (HBr.out.alloc hbs _).trans ((ha.mono (by simp; omega)).below hg)
        clear hW' ha e0 e1 e2
        go_wp2
        go_roundw
        case rel => exact ⟨k + 1, _, _, _, _, by omega, rfl, by go_num, HWs.out, HBs.out⟩
        case measure => simp [intOf]; omega
      · go_wp2_with fail
        clear hlt hk HW HB3
        obtain ⟨w4, rfl⟩ : ∃ w4, w4 = wr := ⟨_, rfl⟩
        go_loopw [11, 76] (fun s11 s76 wx => ∃ (k cB : Nat) (b2 : Addr) (ps2 : List Pr) (rs2 : List Rf), k ≤ n2 ∧ s11 = .slice (some b2) n cB ∧ s76 = .int .i64 k ∧ Two wx n t g c b ps rs t2 g2 c2 b2 ps2 rs2 ∧ Below w.heap.size w wx) (fun _ i _ => n2 - (intOf i).toNat)
        case atStart => exact ⟨0, c2', b2, _, _, Nat.zero_le _, rfl, rfl, HWr.out, HBr.out⟩
        case round =>
          obtain ⟨k, cB, b2, ps2, rs2, hk, rfl, rfl, hW, hbr⟩ := hrel
          have HBx := Lib.hid hbr
          have HWx := Lib.hid hW
          have hbs := hbr.size
          clear hW hbr
          by_cases hlt : k < n2
          · obtain ⟨bb, o, rfl, hbl, hel⟩ := HA2.out (by have := HN2.out; omega)
            obtain ⟨x, hxk⟩ : ∃ x, lb[k]? = some x := ⟨_, List.getElem?_eq_getElem (by have := HN2.out; omega)⟩
            obtain ⟨he0, he1, he2, hd1, hd2⟩ := hel k x hxk
            have e0 := (HBx.out.cell (p := ⟨bb, o + k * 3, none⟩) hbl).trans he0
            have e1 := (HBx.out.cell (p := ⟨bb, o + k * 3 + 1, none⟩) hbl).trans he1
            have e2 := (HBx.out.cell (p := ⟨bb, o + k * 3 + 2, none⟩) hbl).trans he2
            obtain ⟨xd, xi, xn⟩ := x
            dsimp only at e0 e1 e2 hd1 hd2
            clear hel hxk he0 he1 he2
            go_wp2_with fail
            refine (do_two (HWx.out.symm.alloc _) ⟨hd1, hd2⟩).mono ?_
            rintro e ws ⟨b', c'', ps', rs', rfl, hW', ha⟩
            have HWs := Lib.hid hW'.symm
            have HBs : Hid (Below w.heap.size w ws) := (HBx.out.alloc hbs _).trans ((ha.mono (by simp; omega)).below hg2)
            clear hW' ha e0 e1 e2
            go_wp2
            go_roundw
            case rel => exact ⟨k + 1, _, _, _, _, by omega, rfl, by go_num, HWs.out, HBs.out⟩
            case measure => simp [intOf]; omega
          · obtain ⟨x, hx⟩ : ∃ x, rsameL rs rs2 = x := ⟨_, rfl⟩
            have HX := Lib.hid hx
            clear hx
            go_wp2_with fail
            clear hlt hk
            refine (same_two HX.out HWx.out).mono ?_
            rintro e w5 ⟨rfl, hb5⟩
            have HW5 := Lib.hid (HWx.out.below hb5)
            have HB5 : Hid (Below w.heap.size w w5) := HBx.out.trans (hb5.mono HBx.out.size)
            clear hb5
            go_wp2_with fail
            refine (rsame_two (by omega) HX.out HW5.out).mono ?_
            rintro e w6 ⟨rfl, hb6⟩
            have HW6 := Lib.hid (HW5.out.below hb6)
            have HB6 : Hid (Below w.heap.size w w6) := HB5.out.trans (hb6.mono HB5.out.size)
            clear hb6
            go_wp2_with fail
            refine (same_two' HX.out HW6.out).mono ?_
            rintro e w7 ⟨rfl, hb7⟩
            have HW7 := Lib.hid (HW6.out.below hb7)
            have HB7 : Hid (Below w.heap.size w w7) := HB6.out.trans (hb7.mono HB6.out.size)
            clear hb7
            go_wp2_with fail
            refine (same_two HX.out HW7.out).mono ?_
            rintro e w8 ⟨rfl, hb8⟩
            have HW8 := Lib.hid (HW7.out.below hb8)
            have HB8 : Hid (Below w.heap.size w w8) := HB7.out.trans (hb8.mono HB7.out.size)
            clear hb8
            go_wp2_with fail
            refine (same_one HW8.out).mono ?_
            rintro e w9 ⟨rfl, hb9⟩
            have HB9 : Hid (Below w.heap.size w w9) := HB8.out.trans (hb9.mono HB8.out.size)
            clear hb9
            go_wp2
            go_ret
            exact ⟨rfl, HB9.out⟩

end Go.Proofs.Ytgnjenmicojgnaa
