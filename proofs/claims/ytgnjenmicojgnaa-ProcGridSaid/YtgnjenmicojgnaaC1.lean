/-
  What ProcGrid answers of attributes, a start of 16 bits and a list of 16 bit numbers: true.
-/
import Derived.Test.YtgnjenmicojgnaaC0
namespace Go.Proofs.Ytgnjenmicojgnaa
set_option linter.unusedVariables false
set_option linter.unusedSimpArgs false
open Go.RowKit

set_option maxRecDepth 100000 in
set_option maxHeartbeats 2000000 in
theorem grid_any (a : At) (s : Int) (A : Option Addr) (n cc : Nat) (zs : List Int) (w : World) (hs : 0 ≤ s ∧ s ≤ 65535) (hA : Nums w .u16 A n zs 0 65535) :
    Calls Try.prog 3 #[.agg #[.int .i64 a.pri, .int .i64 a.per, .int .i64 a.cap, .int .i64 a.dl, .int .i64 a.off], .int .u16 s, .slice A n cc] w fun e w' => e = .returned (.bool true) ∧ Below w.heap.size w w' := by
  obtain ⟨hs1, hs2⟩ := hs
  have HA := Lib.hid hA
  clear hA
  go_enter Try.func3, Try.ntmps3
  go_wp2_with fail
  obtain ⟨W0, hW0⟩ : ∃ W0, W0 = w.alloc (.cells #[.int .i64 a.pri, .int .i64 a.per, .int .i64 a.cap, .int .i64 a.dl, .int .i64 a.off] 23) := ⟨_, rfl⟩
  rw [← hW0]
  have hB0 : Below w.heap.size w W0 := by rw [hW0]; exact (Below.refl _ _).alloc (Nat.le_refl _) _
  have hz0 : W0.heap.size = w.heap.size + 1 := by rw [hW0]; simp
  have hc0 : ∀ j, W0.cell? ⟨w.heap.size, j, none⟩ = (#[.int .i64 a.pri, .int .i64 a.per, .int .i64 a.cap, .int .i64 a.dl, .int .i64 a.off] : Array Value)[j]? := by rw [hW0]; intro j; simp
  clear hW0
  have HB0 := Lib.hid hB0
  have HZ0 := Lib.hid hz0
  have hw0 : w.heap.size < W0.heap.size := by omega
  clear hB0 hz0
  refine (speaks_any W0).mono ?_
  rintro e w1 ⟨rfl, hb1⟩
  have HB1 := Lib.hid hb1
  clear hb1
  by_cases hlen : 40 < n
  · go_wp2_with fail
    refine (speaks_any w1).mono ?_
    rintro e w2 ⟨rfl, hb2⟩
    have HB2 := Lib.hid hb2
    clear hb2
    go_wp2
    go_ret
    exact ⟨rfl, HB0.out.trans ((HB1.out.trans (HB2.out.mono HB1.out.size)).mono (by omega))⟩
  · have hc1 : ∀ j, w1.cell? ⟨w.heap.size, j, none⟩ = (#[.int .i64 a.pri, .int .i64 a.per, .int .i64 a.cap, .int .i64 a.dl, .int .i64 a.off] : Array Value)[j]? := fun j => (HB1.out.cell (p := ⟨w.heap.size, j, none⟩) hw0).trans (hc0 j)
    go_wp2_with fail
    refine (new_any (some ⟨w1.heap.size, 0, none⟩) 1 1 [a] _ rfl ?_ (by omega)).mono ?_
    · intro _
      refine ⟨w1.heap.size, 0, rfl, by simp, fun k b hk => ?_⟩
      match k, hk with
      | 0, hk =>
        simp at hk
        subst hk
        constructor <;> simp
    rintro e w2 ⟨h, hb2⟩
    have hB2 : Below W0.heap.size W0 w2 := (HB1.out.alloc HB1.out.size _).trans (hb2.mono (by have := HB1.out.size; simp; omega))
    have hc2 : ∀ j, w2.cell? ⟨w.heap.size, j, none⟩ = (#[.int .i64 a.pri, .int .i64 a.per, .int .i64 a.cap, .int .i64 a.dl, .int .i64 a.off] : Array Value)[j]? := fun j => (hB2.cell (p := ⟨w.heap.size, j, none⟩) hw0).trans (hc0 j)
    have HB2 := Lib.hid hB2
    clear hb2 hB2 hc1
    rcases h with ⟨hnew, t, g, c, rfl, hT, ht, hg⟩ | ⟨hnew, rfl⟩
    rotate_left
    · rw [if_neg (by simp)]
      go_wp2
      go_ret
      exact ⟨rfl, HB0.out.trans (HB2.out.mono (by omega))⟩
    · have hmay : a.may = true := by simpa [newOk] using hnew
      have hgB : W0.heap.size ≤ g := by have := hg (by simp); have := HB1.out.size; simp at *; omega
      have HT := Lib.hid hT
      clear hT ht hg hnew
      by_cases hper : a.per = 0
      · have hpb : (a.per == 0) = true := by simpa using hper
        go_wp2
        go_ret
        exact ⟨rfl, HB0.out.trans (HB2.out.mono (by omega))⟩
      · have hpb : (a.per == 0) = false := by simpa using hper
        obtain ⟨p, hact, hinv⟩ := grid_start a s hmay ⟨hs1, hs2⟩
        have HACT := Lib.hid hact
        have HINV := Lib.hid hinv
        have HMAY := Lib.hid hmay
        have HPER := Lib.hid hper
        have hoff := (ok_fresh hmay).off
        have hpr := (ok_fresh hmay).per
        simp only [prOf] at hoff hpr
        obtain ⟨ho1, ho2⟩ := hoff
        obtain ⟨hp1, hp2⟩ := hpr
        clear hact hinv hmay hper
        go_wp2_with fail
        refine (start_is 0 s HACT.out HT.out (one_ok (ok_fresh HMAY.out))).mono ?_
        rintro e w3 ⟨rfl, hT3, hA3⟩
        have hB3 : Below W0.heap.size W0 w3 := HB2.out.trans ((hA3.mono HB2.out.size).below hgB)
        have hc3 : ∀ j, w3.cell? ⟨w.heap.size, j, none⟩ = (#[.int .i64 a.pri, .int .i64 a.per, .int .i64 a.cap, .int .i64 a.dl, .int .i64 a.off] : Array Value)[j]? := fun j => (hB3.cell (p := ⟨w.heap.size, j, none⟩) hw0).trans (hc0 j)
        have HB3 := Lib.hid hB3
        have HT3 := Lib.hid hT3
        clear hT3 hA3 hB3 hc2
        go_wp2_with fail
        go_loopw [9, 10, 55] (fun s9 s10 s55 wr => ∃ (k : Nat) (nw bg : Int) (q : Pr), k ≤ n ∧ s9 = .int .i64 nw ∧ s10 = .int .i64 bg ∧ s55 = .int .i64 k ∧ GInv a k nw bg q ∧ Tab wr t g c [q] ∧ Below W0.heap.size W0 wr) (fun _ _ i _ => n - (intOf i).toNat)
        case atStart => exact ⟨0, s, s + a.off, p, Nat.zero_le _, rfl, rfl, rfl, HINV.out, HT3.out, HB3.out⟩
        case round =>
          obtain ⟨k, nw, bg, q, hk, rfl, rfl, rfl, hg, hTr, hbr⟩ := hrel
          have hcr : ∀ j, wr.cell? ⟨w.heap.size, j, none⟩ = (#[.int .i64 a.pri, .int .i64 a.per, .int .i64 a.cap, .int .i64 a.dl, .int .i64 a.off] : Array Value)[j]? := fun j => (hbr.cell (p := ⟨w.heap.size, j, none⟩) hw0).trans (hc0 j)
          have HBR := Lib.hid hbr
          have HTR := Lib.hid hTr
          have HG := Lib.hid hg
          by_cases hlt : k < n
          · obtain ⟨b, o, rfl, hbl, hel⟩ := HA.out (by omega)
            obtain ⟨he, hx1, hx2⟩ := hel k hlt
            have hex := (HBR.out.cell (p := ⟨b, o + k, none⟩) (by show b < W0.heap.size; omega)).trans ((HB0.out.cell (p := ⟨b, o + k, none⟩) hbl).trans he)
            generalize zs.getD k 0 = x at *
            have hnw1 := hg.now.1
            have hnw2 := hg.now.2
            have hpos := hg.pos
            have hk40 : (k : Int) < 40 := by omega
            clear hel he hbr hTr
            have HSAME := Lib.hid hg.same
            have HOK0 := Lib.hid hg.ok
            have HHELD0 := Lib.hid hg.held
            rcases hg.st with ⟨hst, hbeg, hbn⟩ | ⟨hst, htil, hbn, hbm⟩
            · have hsR : Hid (stateR (lookP [q] 0) = 1) := by rw [look_one]; unfold Hid stateR; rw [hg.held, hst]; rfl
              have HST := Lib.hid hst
              have HBEG := Lib.hid hbeg
              have HOK := HOK0
              have HHELD := HHELD0
              clear hg hst hbeg
              go_wp2_with fail
              refine (state_is 0 (k := 1) hsR.out HTR.out).mono ?_
              rintro e w7 ⟨rfl, hb7⟩
              have HB7 : Hid (Below W0.heap.size W0 w7) := HBR.out.trans (hb7.mono HBR.out.size)
              have HT7 := Lib.hid (HTR.out.below hb7)
              clear hb7 hcr hex
              obtain ⟨p2, hd1, hd2, hg2, hs2⟩ := grid_done (k := k) HSAME.out HOK.out HHELD.out HST.out HBEG.out (nw := nw + x) (by omega) (by omega) (by omega) HPER.out
              have HD1 := Lib.hid hd1
              have HD2 := Lib.hid hd2
              have HG2 := Lib.hid hg2
              have HS2 := Lib.hid hs2
              clear hd1 hd2 hg2 hs2
              go_wp2_with fail
              refine (done_is 0 (nw + x) HD1.out HD2.out HT7.out (one_ok HOK.out)).mono ?_
              rintro e w8 ⟨rfl, hT8, hA8⟩
              have HT8 := Lib.hid hT8
              have hb8 : Below W0.heap.size W0 w8 := HB7.out.trans ((hA8.mono HB7.out.size).below hgB)
              have hc8 : ∀ j, w8.cell? ⟨w.heap.size, j, none⟩ = (#[.int .i64 a.pri, .int .i64 a.per, .int .i64 a.cap, .int .i64 a.dl, .int .i64 a.off] : Array Value)[j]? := fun j => (hb8.cell (p := ⟨w.heap.size, j, none⟩) hw0).trans (hc0 j)
              have HB8 := Lib.hid hb8
              clear hT8 hA8 hb8
              by_cases hle : bg + a.per ≤ nw + x
              · go_wp2_with fail
                refine (state_is 0 (k := 1) (by rw [look_one]; exact HS2.out.2 hle) HT8.out).mono ?_
                rintro e w9 ⟨rfl, hb9⟩
                have HB9 : Hid (Below W0.heap.size W0 w9) := HB8.out.trans (hb9.mono HB8.out.size)
                have HT9 := Lib.hid (HT8.out.below hb9)
                clear hb9 hc8
                go_wp2
                go_roundw
                case rel => exact ⟨k + 1, nw + x, bg + a.per, p2, by omega, rfl, rfl, by go_num, HG2.out, HT9.out, HB9.out⟩
                case measure => simp [intOf]; omega
              · have hst3 : stateR p2 = 3 := by
                  rcases HG2.out.st with ⟨h1, h2, h3⟩ | ⟨h1, _⟩
                  · omega
                  · simp [stateR, HG2.out.held, h1]
                have HST3 := Lib.hid hst3
                clear hst3
                have hnle : nw + x < bg + a.per := by omega
                go_wp2_with fail
                refine (state_is 0 (k := 3) (by rw [look_one]; exact HST3.out) HT8.out).mono ?_
                rintro e w9 ⟨rfl, hb9⟩
                have HB9 : Hid (Below W0.heap.size W0 w9) := HB8.out.trans (hb9.mono HB8.out.size)
                have HT9 := Lib.hid (HT8.out.below hb9)
                clear hb9 hc8
                go_wp2
                go_roundw
                case rel => exact ⟨k + 1, nw + x, bg + a.per, p2, by omega, rfl, rfl, by go_num, HG2.out, HT9.out, HB9.out⟩
                case measure => simp [intOf]; omega
            · have hsR : Hid (stateR (lookP [q] 0) = 3) := by rw [look_one]; unfold Hid stateR; rw [hg.held, hst]; rfl
              have hu1 : Hid (untilR (lookP [q] 0) = bg) := by rw [look_one]; unfold Hid untilR; rw [if_pos (.inl hst), htil]
              have hu2 : Hid (untilB (lookP [q] 0) = true) := by rw [look_one]; unfold Hid untilB; simp [hst]
              obtain ⟨hrel1, q2, hrel2, h21, h22, h23, h24, h25⟩ := grid_release hg (by omega) hst
              have HREL1 := Lib.hid hrel1
              have HREL2 := Lib.hid hrel2
              have HST := Lib.hid h21
              have HBEG := Lib.hid h22
              have HHELD := Lib.hid h23
              have HOK := Lib.hid h24
              have HSAME := Lib.hid h25
              clear hg hst htil hrel1 hrel2 h21 h22 h23 h24 h25
              go_wp2_with fail
              refine (state_is 0 (k := 3) hsR.out HTR.out).mono ?_
              rintro e w4 ⟨rfl, hb4⟩
              have HB4 : Hid (Below W0.heap.size W0 w4) := HBR.out.trans (hb4.mono HBR.out.size)
              have HT4 := Lib.hid (HTR.out.below hb4)
              clear hb4 hcr hex
              go_wp2_with fail
              refine (until_is 0 hu1.out hu2.out HT4.out).mono ?_
              rintro e w5 ⟨rfl, hb5⟩
              have HB5 : Hid (Below W0.heap.size W0 w5) := HB4.out.trans (hb5.mono HB4.out.size)
              have HT5 := Lib.hid (HT4.out.below hb5)
              clear hb5
              go_wp2_with fail
              refine (rele_is 0 (bg - 1) HREL1.out HT5.out (one_ok HOK0.out)).mono ?_
              rintro e w6 ⟨rfl, hT6, hA6⟩
              have HB6 : Hid (Below W0.heap.size W0 w6) := HB5.out.trans ((hA6.mono HB5.out.size).below hgB)
              have HT6 := Lib.hid hT6
              clear hT6 hA6
              go_wp2_with fail
              refine (rele_is 0 bg HREL2.out HT6.out (one_ok HOK0.out)).mono ?_
              rintro e w7 ⟨rfl, hT7, hA7⟩
              have HB7 : Hid (Below W0.heap.size W0 w7) := HB6.out.trans ((hA7.mono HB6.out.size).below hgB)
              have HT7 := Lib.hid hT7
              clear hT7 hA7
              obtain ⟨p2, hd1, hd2, hg2, hs2⟩ := grid_done (k := k) HSAME.out HOK.out HHELD.out HST.out HBEG.out (nw := bg + x) (by omega) (by omega) (by omega) HPER.out
              have HD1 := Lib.hid hd1
              have HD2 := Lib.hid hd2
              have HG2 := Lib.hid hg2
              have HS2 := Lib.hid hs2
              clear hd1 hd2 hg2 hs2
              go_wp2_with fail
              refine (done_is 0 (bg + x) HD1.out HD2.out HT7.out (one_ok HOK.out)).mono ?_
              rintro e w8 ⟨rfl, hT8, hA8⟩
              have HT8 := Lib.hid hT8
              have hb8 : Below W0.heap.size W0 w8 := HB7.out.trans ((hA8.mono HB7.out.size).below hgB)
              have hc8 : ∀ j, w8.cell? ⟨w.heap.size, j, none⟩ = (#[.int .i64 a.pri, .int .i64 a.per, .int .i64 a.cap, .int .i64 a.dl, .int .i64 a.off] : Array Value)[j]? := fun j => (hb8.cell (p := ⟨w.heap.size, j, none⟩) hw0).trans (hc0 j)
              have HB8 := Lib.hid hb8
              clear hT8 hA8 hb8
              by_cases hle : bg + a.per ≤ bg + x
              · go_wp2_with fail
                refine (state_is 0 (k := 1) (by rw [look_one]; exact HS2.out.2 hle) HT8.out).mono ?_
                rintro e w9 ⟨rfl, hb9⟩
                have HB9 : Hid (Below W0.heap.size W0 w9) := HB8.out.trans (hb9.mono HB8.out.size)
                have HT9 := Lib.hid (HT8.out.below hb9)
                clear hb9 hc8
                go_wp2
                go_roundw
                case rel => exact ⟨k + 1, bg + x, bg + a.per, p2, by omega, rfl, rfl, by go_num, HG2.out, HT9.out, HB9.out⟩
                case measure => simp [intOf]; omega
              · have hst3 : stateR p2 = 3 := by
                  rcases HG2.out.st with ⟨h1, h2, h3⟩ | ⟨h1, _⟩
                  · omega
                  · simp [stateR, HG2.out.held, h1]
                have HST3 := Lib.hid hst3
                clear hst3
                have hnle : bg + x < bg + a.per := by omega
                go_wp2_with fail
                refine (state_is 0 (k := 3) (by rw [look_one]; exact HST3.out) HT8.out).mono ?_
                rintro e w9 ⟨rfl, hb9⟩
                have HB9 : Hid (Below W0.heap.size W0 w9) := HB8.out.trans (hb9.mono HB8.out.size)
                have HT9 := Lib.hid (HT8.out.below hb9)
                clear hb9 hc8
                go_wp2
                go_roundw
                case rel => exact ⟨k + 1, bg + x, bg + a.per, p2, by omega, rfl, rfl, by go_num, HG2.out, HT9.out, HB9.out⟩
                case measure => simp [intOf]; omega
          · clear hg hTr hbr hcr
            go_wp2_with fail
            go_ret
            exact ⟨rfl, HB0.out.trans (HBR.out.mono (by omega))⟩

end Go.Proofs.Ytgnjenmicojgnaa
