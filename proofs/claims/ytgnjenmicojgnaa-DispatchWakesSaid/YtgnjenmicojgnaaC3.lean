/-
  What ProcOnce answers of attributes, a start of 16 bits, a list of 8 bit numbers and an 8 bit number: true; and the plain law behind it.
-/
import Derived.Test.YtgnjenmicojgnaaC0
import Derived.Test.YtgnjenmicojgnaaB7
namespace Go.Proofs.Ytgnjenmicojgnaa
set_option linter.unusedVariables false
set_option linter.unusedSimpArgs false
open Go.RowKit

theorem miss_is {t g c : Nat} {ps ps' : List Pr} {ids : List Int} (now : Int) {w : World} (h1 : idsTo now ps ps.length = ids) (h2 : ps.map (markP now) = ps') (hn : 0 ≤ now ∧ now ≤ 1099511627776) (hT : Tab w t g c ps) (hok : ∀ p, p ∈ ps → p.Ok) :
    Calls Try.prog 20 #[.pointer (some ⟨t, 0, none⟩), .int .i64 now] w fun e w' => ∃ A cc, e = .returned (.slice A ids.length cc) ∧ Ints w' A ids ∧ Tab w' t g c ps' ∧ Apart w.heap.size w w' g := by
  subst h1 h2
  refine (missed_any t g c ps now w hT hok hn).mono ?_
  rintro e w' ⟨v, rfl, ho, hT', hA, -⟩
  obtain ⟨A, cc, rfl, hi⟩ := ints_of_own ho
  exact ⟨A, cc, rfl, hi, hT', hA⟩

theorem equal_is {A A' : Option Addr} {c c' : Nat} {xs ys : List Int} {b : Bool} {w : World} {n m : Nat} (h : decide (xs = ys) = b) (hx : Ints w A xs) (hy : Ints w A' ys) (hm : xs.length ≤ 140737488355328) (hn : xs.length = n) (hm' : ys.length = m) :
    Calls Try.prog 21 #[.slice A n c, .slice A' m c'] w fun e w' => e = .returned (.bool b) ∧ Below w.heap.size w w' := by
  subst h hn hm'
  exact equal_any A A' c c' xs ys w hx hy hm

theorem ids_one (now : Int) (p : Pr) : idsTo now [p] [p].length = if missB now p = true then [0] else [] := by
  unfold idsTo
  cases h : missB now p <;> simp [isMiss, h, List.range, List.range.loop, List.filter]

/-- ProcOnce's loop: behind k rounds. -/
structure OInv (a : At) (k : Nat) (nw bg : Int) (was : Bool) (p : Pr) : Prop where
  same : Same5 p a
  ok : p.Ok
  held : p.held = false
  st : p.st = 1
  beg : p.beg = bg
  missed : p.missed = was
  pos : 0 ≤ bg ∧ bg ≤ nw
  now : nw ≤ 1200000 + k * 255

theorem once_now (a : At) (s : Int) (ha : a.may = true) (hs : 0 ≤ s ∧ s ≤ 65535) (h0 : a.off = 0) : ∃ p, act (startF s) (tickB s) [prOf a] 0 = ([p], 0) ∧ OInv a 0 s s false p := by
  have hok := ok_fresh ha
  have hk := keeps_start s (tick_in (by omega) (by omega)) (prOf a) (startP s (prOf a)) hok (by simp [startF, prOf])
  refine ⟨startP s (prOf a), act_one _ _ _ _ (tick_in (by omega) (by omega)) (by simp [startF, prOf]), ?_⟩
  have e : startP s (prOf a) = ⟨a.pri, a.per, a.cap, a.dl, a.off, 1, false, a.pri, 0, 0, s, 0, false⟩ := by simp [startP, prOf, h0]
  rw [e] at hk ⊢
  exact ⟨⟨rfl, rfl, rfl, rfl, rfl⟩, hk, rfl, rfl, rfl, rfl, by omega, by omega⟩

theorem once_later (a : At) (s : Int) (ha : a.may = true) (hs : 0 ≤ s ∧ s ≤ 65535) (h0 : 0 < a.off) :
    ∃ p p', act (startF s) (tickB s) [prOf a] 0 = ([p], 0) ∧ p.Ok ∧ (∀ now, idsTo now [p] [p].length = [] ∧ [p].map (markP now) = [p]) ∧ act (releF (s + a.off)) (tickB (s + a.off)) [p] 0 = ([p'], 0) ∧ OInv a 0 (s + a.off) (s + a.off) false p' := by
  have hok := ok_fresh ha
  have hof := hok.off
  simp only [prOf] at hof
  have hk := keeps_start s (tick_in (by omega) (by omega)) (prOf a) (startP s (prOf a)) hok (by simp [startF, prOf])
  have e : startP s (prOf a) = ⟨a.pri, a.per, a.cap, a.dl, a.off, 3, false, a.pri, 0, s + a.off, 0, 0, false⟩ := by
    have : ¬ a.off = 0 := by omega
    simp [startP, prOf, this]
  have h1 := act_one (startF s) (tickB s) (prOf a) (startP s (prOf a)) (tick_in (by omega) (by omega)) (by simp [startF, prOf])
  rw [e] at hk h1
  have htk : tickB (s + a.off) = true := tick_in (by omega) (by omega)
  have hr : releF (s + a.off) ⟨a.pri, a.per, a.cap, a.dl, a.off, 3, false, a.pri, 0, s + a.off, 0, 0, false⟩ = some ⟨a.pri, a.per, a.cap, a.dl, a.off, 1, false, a.pri, 0, s + a.off, s + a.off, 0, false⟩ := by simp [releF, atP]
  have hko := keeps_rele (s + a.off) htk _ _ hk hr
  refine ⟨_, _, h1, hk, fun now => ?_, act_one _ _ _ _ htk hr, ⟨⟨rfl, rfl, rfl, rfl, rfl⟩, hko, rfl, rfl, rfl, rfl, by omega, by omega⟩⟩
  have hm : missB now ⟨a.pri, a.per, a.cap, a.dl, a.off, 3, false, a.pri, 0, s + a.off, 0, 0, false⟩ = false := by simp [missB, Pr.busyB]
  rw [ids_one, hm]
  refine ⟨rfl, ?_⟩
  simp [markP, hm]

theorem once_end {a : At} {k : Nat} {nw bg : Int} {was : Bool} {p : Pr} (h : OInv a k nw bg was p) (hk : k < 40) :
    ∃ p' x, act (doneF bg) (tickB bg) [p] 0 = ([p'], 0) ∧ doneR [p] 0 bg = x ∧ p'.Ok ∧ ∀ now, idsTo now [p'] [p'].length = [] := by
  obtain ⟨h1, h2, h3, h4, h5, h6, ⟨h7, h8⟩, h9⟩ := h
  have hp := h2.per
  have htk : tickB bg = true := tick_in h7 (by omega)
  have hd : doneF bg p = some (doneP bg p) := by simp [doneF, h4, h3]
  refine ⟨_, _, act_one _ _ _ _ htk hd, rfl, keeps_done bg htk p _ h2 hd, fun now => ?_⟩
  have hm : missB now (doneP bg p) = false := by
    unfold doneP
    split
    · simp [missB, Pr.busyB, sleepP]
    split
    · omega
    · simp [missB, Pr.busyB, restP]
  rw [ids_one, hm]
  rfl

theorem once_step {a : At} {k : Nat} {nw bg x : Int} {was : Bool} {p : Pr} (h : OInv a k nw bg was p) (hk : k < 40) (hx : 0 ≤ x ∧ x ≤ 255) (hdl : 0 < a.dl) {m : Bool} (hm : m = (decide (bg + a.dl ≤ nw + x) && !was)) :
    idsTo (nw + x) [p] [p].length = (if m = true then [0] else []) ∧ ∃ p', [p].map (markP (nw + x)) = [p'] ∧ OInv a (k + 1) (nw + x) bg (was || m) p' := by
  obtain ⟨h1, h2, h3, h4, h5, h6, ⟨h7, h8⟩, h9⟩ := h
  have e : missB (nw + x) p = m := by
    rw [hm]
    unfold missB Pr.busyB
    rw [h1.dl, h4, h5, h6]
    cases was <;> simp [hdl]
  rw [ids_one, e]
  have hok := mark_ok (nw + x) h2
  refine ⟨rfl, _, rfl, ?_⟩
  unfold markP at hok ⊢
  rw [e] at hok ⊢
  cases m with
  | true => exact ⟨⟨h1.pri, h1.per, h1.cap, h1.dl, h1.off⟩, hok, h3, h4, h5, by simp, by omega, by omega⟩
  | false => exact ⟨h1, h2, h3, h4, h5, by simpa using h6, by omega, by omega⟩

set_option maxRecDepth 100000 in
set_option maxHeartbeats 4000000 in
theorem once_any (a : At) (s dn : Int) (A : Option Addr) (n cc : Nat) (zs : List Int) (w : World) (hs : 0 ≤ s ∧ s ≤ 65535) (hdn : 0 ≤ dn ∧ dn ≤ 255) (hA : Nums w .u8 A n zs 0 255) :
    Calls Try.prog 5 #[.agg #[.int .i64 a.pri, .int .i64 a.per, .int .i64 a.cap, .int .i64 a.dl, .int .i64 a.off], .int .u16 s, .slice A n cc, .int .u8 dn] w fun e w' => e = .returned (.bool true) ∧ Below w.heap.size w w' := by
  obtain ⟨hs1, hs2⟩ := hs
  obtain ⟨hdn1, hdn2⟩ := hdn
  have HA := Lib.hid hA
  clear hA
  go_enter Try.func5, Try.ntmps5
  go_wp2_with fail
  obtain ⟨W0, hW0⟩ : ∃ W0, W0 = w.alloc (.cells #[.int .i64 a.pri, .int .i64 a.per, .int .i64 a.cap, .int .i64 a.dl, .int .i64 a.off] 23) := ⟨_, rfl⟩
  rw [← hW0]
  have hB0 : Below w.heap.size w W0 := by rw [hW0]; exact (Below.refl _ _).alloc (Nat.le_refl _) _
  have hz0 : W0.heap.size = w.heap.size + 1 := by rw [hW0]; simp
  have hc0 : ∀ j, W0.cell? ⟨w.heap.size, j, none⟩ = (#[.int .i64 a.pri, .int .i64 a.per, .int .i64 a.cap, .int .i64 a.dl, .int .i64 a.off] : Array Value)[j]? := by rw [hW0]; intro j; simp
  clear hW0
  have HB0 := Lib.hid hB0
  have HZ0 := Lib.hid hz0
  have hw0 : w.heap.size < W0.heap.size := by omega
  clear hB0 hz0
  refine (speaks_any W0).mono ?_
  rintro e w1 ⟨rfl, hb1⟩
  have HB1 := Lib.hid hb1
  clear hb1
  by_cases hlen : 40 < n
  · go_wp2_with fail
    refine (speaks_any w1).mono ?_
    rintro e w2 ⟨rfl, hb2⟩
    have HB2 := Lib.hid hb2
    clear hb2
    go_wp2
    go_ret
    exact ⟨rfl, HB0.out.trans ((HB1.out.trans (HB2.out.mono HB1.out.size)).mono (by omega))⟩
  · have hc1 : ∀ j, w1.cell? ⟨w.heap.size, j, none⟩ = (#[.int .i64 a.pri, .int .i64 a.per, .int .i64 a.cap, .int .i64 a.dl, .int .i64 a.off] : Array Value)[j]? := fun j => (HB1.out.cell (p := ⟨w.heap.size, j, none⟩) hw0).trans (hc0 j)
    go_wp2_with fail
    refine (new_any (some ⟨w1.heap.size, 0, none⟩) 1 1 [a] _ rfl ?_ (by omega)).mono ?_
    · intro _
      refine ⟨w1.heap.size, 0, rfl, by simp, fun k b hk => ?_⟩
      match k, hk with
      | 0, hk =>
        simp at hk
        subst hk
        constructor <;> simp
    rintro e w2 ⟨h, hb2⟩
    have hB2 : Below W0.heap.size W0 w2 := (HB1.out.alloc HB1.out.size _).trans (hb2.mono (by have := HB1.out.size; simp; omega))
    have hc2 : ∀ j, w2.cell? ⟨w.heap.size, j, none⟩ = (#[.int .i64 a.pri, .int .i64 a.per, .int .i64 a.cap, .int .i64 a.dl, .int .i64 a.off] : Array Value)[j]? := fun j => (hB2.cell (p := ⟨w.heap.size, j, none⟩) hw0).trans (hc0 j)
    have HB2 := Lib.hid hB2
    clear hb2 hB2 hc1
    rcases h with ⟨hnew, t, g, c, rfl, hT, ht, hg⟩ | ⟨hnew, rfl⟩
    rotate_left
    · rw [if_neg (by simp)]
      go_wp2
      go_ret
      exact ⟨rfl, HB0.out.trans (HB2.out.mono (by omega))⟩
    · have hmay : a.may = true := by simpa [newOk] using hnew
      have hgB : W0.heap.size ≤ g := by have := hg (by simp); have := HB1.out.size; simp at *; omega
      have htB : W0.heap.size ≤ t := by have := HB1.out.size; simp at ht; omega
      have HT : Hid (Tab w2 t g c [prOf a]) := Lib.hid hT
      have hao := ok_fresh hmay
      obtain ⟨hpr1, hpr2⟩ : 1 ≤ a.pri ∧ a.pri ≤ 63 := hao.pri
      obtain ⟨hpe1, hpe2⟩ : 0 ≤ a.per ∧ a.per ≤ 1048576 := hao.per
      obtain ⟨hca1, hca2⟩ : 0 ≤ a.cap ∧ a.cap ≤ 1048576 := hao.cap
      obtain ⟨hdl1, hdl2⟩ : 0 ≤ a.dl ∧ a.dl ≤ 1048576 := hao.dl
      obtain ⟨hof1, hof2⟩ : 0 ≤ a.off ∧ a.off ≤ 1048576 := hao.off
      have HMAY := Lib.hid hmay
      clear hT ht hg hnew hao hmay
      by_cases hdl : a.dl = 0
      · have hdb : (a.dl == 0) = true := by simpa using hdl
        clear hdl
        go_wp2
        go_ret
        exact ⟨rfl, HB0.out.trans (HB2.out.mono (by omega))⟩
      · have hdb : (a.dl == 0) = false := by simpa using hdl
        have hdp : 0 < a.dl := by omega
        clear hdl
        by_cases hoff : 0 < a.off
        · obtain ⟨p, p', hact, hpo, hids, hrel0, hinv⟩ := once_later a s HMAY.out ⟨hs1, hs2⟩ hoff
          have HACT := Lib.hid hact
          have HPO := Lib.hid hpo
          have HIDS := Lib.hid hids
          have HREL0 := Lib.hid hrel0
          have HINV := Lib.hid hinv
          clear hact hpo hids hrel0 hinv
          go_wp2_with fail
          refine (start_is 0 s HACT.out HT.out (one_ok (ok_fresh HMAY.out))).mono ?_
          rintro e w3 ⟨rfl, hT3, hA3⟩
          have HT3 := Lib.hid hT3
          have hb3 : Below W0.heap.size W0 w3 := HB2.out.trans ((hA3.mono HB2.out.size).below hgB)
          have hc3 : ∀ j, w3.cell? ⟨w.heap.size, j, none⟩ = (#[.int .i64 a.pri, .int .i64 a.per, .int .i64 a.cap, .int .i64 a.dl, .int .i64 a.off] : Array Value)[j]? := fun j => (hb3.cell (p := ⟨w.heap.size, j, none⟩) hw0).trans (hc0 j)
          have HB3 := Lib.hid hb3
          clear hT3 hA3 hb3 hc2
          go_wp2_with fail
          refine (miss_is (ids := []) (s + a.off + a.dl) (HIDS.out _).1 (HIDS.out _).2 (by omega) HT3.out (one_ok HPO.out)).mono ?_
          rintro e w6 ⟨A6, cc6, rfl, hi6, hT6, hA6⟩
          have HT6 := Lib.hid hT6
          have HI6 := Lib.hid hi6
          have hb6 : Below W0.heap.size W0 w6 := HB3.out.trans ((hA6.mono HB3.out.size).below hgB)
          have hc6 : ∀ j, w6.cell? ⟨w.heap.size, j, none⟩ = (#[.int .i64 a.pri, .int .i64 a.per, .int .i64 a.cap, .int .i64 a.dl, .int .i64 a.off] : Array Value)[j]? := fun j => (hb6.cell (p := ⟨w.heap.size, j, none⟩) hw0).trans (hc0 j)
          have HB6 := Lib.hid hb6
          clear hT6 hA6 hb6 hi6 hc3
          go_wp2_with fail
          refine (rele_is 0 (s + a.off) HREL0.out HT6.out (one_ok HPO.out)).mono ?_
          rintro e w7 ⟨rfl, hT7, hA7⟩
          have HT7 := Lib.hid hT7
          have hb7 : Below W0.heap.size W0 w7 := HB6.out.trans ((hA7.mono HB6.out.size).below hgB)
          have hc7 : ∀ j, w7.cell? ⟨w.heap.size, j, none⟩ = (#[.int .i64 a.pri, .int .i64 a.per, .int .i64 a.cap, .int .i64 a.dl, .int .i64 a.off] : Array Value)[j]? := fun j => (hb7.cell (p := ⟨w.heap.size, j, none⟩) hw0).trans (hc0 j)
          have HB7 := Lib.hid hb7
          clear hT7 hA7 hb7 hc6
          go_wp2_with fail
          go_loopw [11, 13, 79] (fun s11 s13 s79 wr => ∃ (k : Nat) (nw : Int) (was : Bool) (q : Pr), k ≤ n ∧ s11 = .int .i64 nw ∧ s13 = .bool was ∧ s79 = .int .i64 k ∧ OInv a k nw (s + a.off) was q ∧ Tab wr t g c [q] ∧ Below W0.heap.size W0 wr) (fun _ _ i _ => n - (intOf i).toNat)
          case atStart => exact ⟨0, _, false, _, Nat.zero_le _, rfl, rfl, rfl, HINV.out, HT7.out, HB7.out⟩
          case round =>
            obtain ⟨k, nw, was, q, hk, rfl, rfl, rfl, hu, hTr, hbr⟩ := hrel
            have hcr : ∀ j, wr.cell? ⟨w.heap.size, j, none⟩ = (#[.int .i64 a.pri, .int .i64 a.per, .int .i64 a.cap, .int .i64 a.dl, .int .i64 a.off] : Array Value)[j]? := fun j => (hbr.cell (p := ⟨w.heap.size, j, none⟩) hw0).trans (hc0 j)
            have HBr := Lib.hid hbr
            have HTr := Lib.hid hTr
            have HU := Lib.hid hu
            clear hc7
            by_cases hlt : k < n
            · obtain ⟨b, o, rfl, hbl, hel⟩ := HA.out (by omega)
              obtain ⟨he, hx1, hx2⟩ := hel k hlt
              have hex := (HBr.out.cell (p := ⟨b, o + k, none⟩) (by show b < W0.heap.size; omega)).trans ((HB0.out.cell (p := ⟨b, o + k, none⟩) hbl).trans he)
              generalize zs.getD k 0 = x at *
              obtain ⟨hp1, hp2⟩ := hu.pos
              have hnw := hu.now
              have hk40 : (k : Int) < 40 := by omega
              clear hel he hbr hTr hu
              by_cases hkd : (k : Int) = dn
              · have hkb : ((k : Int) == dn) = true := by simpa using hkd
                obtain ⟨q2, y, hd1, hd2, hd3, hd4⟩ := once_end HU.out (by omega)
                have HD1 := Lib.hid hd1
                have HD2 := Lib.hid hd2
                have HD3 := Lib.hid hd3
                have HD4 := Lib.hid hd4
                clear hkd hd1 hd2 hd3 hd4
                go_wp2_with fail
                refine (done_is 0 (s + a.off) HD1.out HD2.out HTr.out (one_ok HU.out.ok)).mono ?_
                rintro e w4 ⟨rfl, hT4, hA4⟩
                have HT4 := Lib.hid hT4
                have hb4 : Below W0.heap.size W0 w4 := HBr.out.trans ((hA4.mono HBr.out.size).below hgB)
                have hc4 : ∀ j, w4.cell? ⟨w.heap.size, j, none⟩ = (#[.int .i64 a.pri, .int .i64 a.per, .int .i64 a.cap, .int .i64 a.dl, .int .i64 a.off] : Array Value)[j]? := fun j => (hb4.cell (p := ⟨w.heap.size, j, none⟩) hw0).trans (hc0 j)
                have HB4 := Lib.hid hb4
                clear hT4 hA4 hb4 hcr
                go_wp2_with fail
                refine (miss_is (ids := []) (s + a.off + a.dl + a.per) (HD4.out _) rfl (by omega) HT4.out (one_ok HD3.out)).mono ?_
                rintro e w5 ⟨A5, cc5, rfl, hi5, hT5, hA5⟩
                have HT5 := Lib.hid hT5
                have HI5 := Lib.hid hi5
                have hb5 : Below W0.heap.size W0 w5 := HB4.out.trans ((hA5.mono HB4.out.size).below hgB)
                have hc5 : ∀ j, w5.cell? ⟨w.heap.size, j, none⟩ = (#[.int .i64 a.pri, .int .i64 a.per, .int .i64 a.cap, .int .i64 a.dl, .int .i64 a.off] : Array Value)[j]? := fun j => (hb5.cell (p := ⟨w.heap.size, j, none⟩) hw0).trans (hc0 j)
                have HB5 := Lib.hid hb5
                clear hT5 hA5 hb5 hi5 hc4
                go_wp2
                go_ret
                exact ⟨rfl, HB0.out.trans (HB5.out.mono (by omega))⟩
              · have hkb : ((k : Int) == dn) = false := by simpa using hkd
                clear hkd
                have hcs : (was = true ∧ nw + x < s + a.off + a.dl) ∨ (was = true ∧ s + a.off + a.dl ≤ nw + x) ∨ (was = false ∧ nw + x < s + a.off + a.dl) ∨ (was = false ∧ s + a.off + a.dl ≤ nw + x) := by
                  cases was <;> simp <;> omega
                rcases hcs with ⟨rfl, hlt2⟩ | ⟨rfl, hge⟩ | ⟨rfl, hlt2⟩ | ⟨rfl, hge⟩
                · obtain ⟨hi1, q2, hi2, hi3⟩ := once_step (m := false) HU.out (by omega) ⟨hx1, hx2⟩ (by omega) (by simp)
                  have HI1 := Lib.hid hi1
                  have HI2 := Lib.hid hi2
                  have HI3 := Lib.hid hi3
                  clear hi1 hi2 hi3
                  go_wp2_with fail
                  refine (miss_is (ids := []) (nw + x) HI1.out HI2.out (by omega) HTr.out (one_ok HU.out.ok)).mono ?_
                  rintro e w4 ⟨A4, cc4, rfl, hi4, hT4, hA4⟩
                  have HT4 := Lib.hid hT4
                  have HI4 := Lib.hid hi4
                  have hb4 : Below W0.heap.size W0 w4 := HBr.out.trans ((hA4.mono HBr.out.size).below hgB)
                  have hc4 : ∀ j, w4.cell? ⟨w.heap.size, j, none⟩ = (#[.int .i64 a.pri, .int .i64 a.per, .int .i64 a.cap, .int .i64 a.dl, .int .i64 a.off] : Array Value)[j]? := fun j => (hb4.cell (p := ⟨w.heap.size, j, none⟩) hw0).trans (hc0 j)
                  have HB4 := Lib.hid hb4
                  clear hT4 hA4 hb4 hi4 hcr
                  go_wp2_with fail
                  refine (equal_is (xs := []) (ys := [0]) (b := false) (by decide) (HI4.out.below ((Below.refl _ _).alloc (Nat.le_refl _) _)) (fun _ => ⟨w4.heap.size, 0, rfl, by simp, fun i z hz => ?_⟩) (by simp) rfl rfl).mono ?_
                  · match i, hz with
                    | 0, hz =>
                      simp at hz
                      subst hz
                      simp
                  rintro e w5 ⟨rfl, hb5⟩
                  have hb4 : Below w4.heap.size w4 w5 := ((Below.refl _ _).alloc (Nat.le_refl _) _).trans (hb5.mono (by simp))
                  have HT5 := Lib.hid (HT4.out.below hb4)
                  have hB5 : Below W0.heap.size W0 w5 := HB4.out.trans (hb4.mono HB4.out.size)
                  have HB5 := Lib.hid hB5
                  clear hb4 hb5 hB5 hc4
                  go_wp2
                  go_roundw
                  case rel => exact ⟨k + 1, nw + x, true, q2, by omega, rfl, rfl, by go_num, HI3.out, HT5.out, HB5.out⟩
                  case measure => simp [intOf]; omega
                · obtain ⟨hi1, q2, hi2, hi3⟩ := once_step (m := false) HU.out (by omega) ⟨hx1, hx2⟩ (by omega) (by simp)
                  have HI1 := Lib.hid hi1
                  have HI2 := Lib.hid hi2
                  have HI3 := Lib.hid hi3
                  clear hi1 hi2 hi3
                  go_wp2_with fail
                  refine (miss_is (ids := []) (nw + x) HI1.out HI2.out (by omega) HTr.out (one_ok HU.out.ok)).mono ?_
                  rintro e w4 ⟨A4, cc4, rfl, hi4, hT4, hA4⟩
                  have HT4 := Lib.hid hT4
                  have HI4 := Lib.hid hi4
                  have hb4 : Below W0.heap.size W0 w4 := HBr.out.trans ((hA4.mono HBr.out.size).below hgB)
                  have hc4 : ∀ j, w4.cell? ⟨w.heap.size, j, none⟩ = (#[.int .i64 a.pri, .int .i64 a.per, .int .i64 a.cap, .int .i64 a.dl, .int .i64 a.off] : Array Value)[j]? := fun j => (hb4.cell (p := ⟨w.heap.size, j, none⟩) hw0).trans (hc0 j)
                  have HB4 := Lib.hid hb4
                  clear hT4 hA4 hb4 hi4 hcr
                  go_wp2_with fail
                  refine (equal_is (xs := []) (ys := [0]) (b := false) (by decide) (HI4.out.below ((Below.refl _ _).alloc (Nat.le_refl _) _)) (fun _ => ⟨w4.heap.size, 0, rfl, by simp, fun i z hz => ?_⟩) (by simp) rfl rfl).mono ?_
                  · match i, hz with
                    | 0, hz =>
                      simp at hz
                      subst hz
                      simp
                  rintro e w5 ⟨rfl, hb5⟩
                  have hb4 : Below w4.heap.size w4 w5 := ((Below.refl _ _).alloc (Nat.le_refl _) _).trans (hb5.mono (by simp))
                  have HT5 := Lib.hid (HT4.out.below hb4)
                  have hB5 : Below W0.heap.size W0 w5 := HB4.out.trans (hb4.mono HB4.out.size)
                  have HB5 := Lib.hid hB5
                  clear hb4 hb5 hB5 hc4
                  go_wp2
                  go_roundw
                  case rel => exact ⟨k + 1, nw + x, true, q2, by omega, rfl, rfl, by go_num, HI3.out, HT5.out, HB5.out⟩
                  case measure => simp [intOf]; omega
                · obtain ⟨hi1, q2, hi2, hi3⟩ := once_step (m := false) HU.out (by omega) ⟨hx1, hx2⟩ (by omega) (by simp; omega)
                  have HI1 := Lib.hid hi1
                  have HI2 := Lib.hid hi2
                  have HI3 := Lib.hid hi3
                  clear hi1 hi2 hi3
                  go_wp2_with fail
                  refine (miss_is (ids := []) (nw + x) HI1.out HI2.out (by omega) HTr.out (one_ok HU.out.ok)).mono ?_
                  rintro e w4 ⟨A4, cc4, rfl, hi4, hT4, hA4⟩
                  have HT4 := Lib.hid hT4
                  have HI4 := Lib.hid hi4
                  have hb4 : Below W0.heap.size W0 w4 := HBr.out.trans ((hA4.mono HBr.out.size).below hgB)
                  have hc4 : ∀ j, w4.cell? ⟨w.heap.size, j, none⟩ = (#[.int .i64 a.pri, .int .i64 a.per, .int .i64 a.cap, .int .i64 a.dl, .int .i64 a.off] : Array Value)[j]? := fun j => (hb4.cell (p := ⟨w.heap.size, j, none⟩) hw0).trans (hc0 j)
                  have HB4 := Lib.hid hb4
                  clear hT4 hA4 hb4 hi4 hcr
                  go_wp2_with fail
                  refine (equal_is (xs := []) (ys := [0]) (b := false) (by decide) (HI4.out.below ((Below.refl _ _).alloc (Nat.le_refl _) _)) (fun _ => ⟨w4.heap.size, 0, rfl, by simp, fun i z hz => ?_⟩) (by simp) rfl rfl).mono ?_
                  · match i, hz with
                    | 0, hz =>
                      simp at hz
                      subst hz
                      simp
                  rintro e w5 ⟨rfl, hb5⟩
                  have hb4 : Below w4.heap.size w4 w5 := ((Below.refl _ _).alloc (Nat.le_refl _) _).trans (hb5.mono (by simp))
                  have HT5 := Lib.hid (HT4.out.below hb4)
                  have hB5 : Below W0.heap.size W0 w5 := HB4.out.trans (hb4.mono HB4.out.size)
                  have HB5 := Lib.hid hB5
                  clear hb4 hb5 hB5 hc4
                  go_wp2
                  go_roundw
                  case rel => exact ⟨k + 1, nw + x, false, q2, by omega, rfl, rfl, by go_num, HI3.out, HT5.out, HB5.out⟩
                  case measure => simp [intOf]; omega
                · obtain ⟨hi1, q2, hi2, hi3⟩ := once_step (m := true) HU.out (by omega) ⟨hx1, hx2⟩ (by omega) (by simp; omega)
                  have HI1 := Lib.hid hi1
                  have HI2 := Lib.hid hi2
                  have HI3 := Lib.hid hi3
                  clear hi1 hi2 hi3
                  go_wp2_with fail
                  refine (miss_is (ids := [0]) (nw + x) HI1.out HI2.out (by omega) HTr.out (one_ok HU.out.ok)).mono ?_
                  rintro e w4 ⟨A4, cc4, rfl, hi4, hT4, hA4⟩
                  have HT4 := Lib.hid hT4
                  have HI4 := Lib.hid hi4
                  have hb4 : Below W0.heap.size W0 w4 := HBr.out.trans ((hA4.mono HBr.out.size).below hgB)
                  have hc4 : ∀ j, w4.cell? ⟨w.heap.size, j, none⟩ = (#[.int .i64 a.pri, .int .i64 a.per, .int .i64 a.cap, .int .i64 a.dl, .int .i64 a.off] : Array Value)[j]? := fun j => (hb4.cell (p := ⟨w.heap.size, j, none⟩) hw0).trans (hc0 j)
                  have HB4 := Lib.hid hb4
                  clear hT4 hA4 hb4 hi4 hcr
                  go_wp2_with fail
                  refine (equal_is (xs := [0]) (ys := [0]) (b := true) (by decide) (HI4.out.below ((Below.refl _ _).alloc (Nat.le_refl _) _)) (fun _ => ⟨w4.heap.size, 0, rfl, by simp, fun i z hz => ?_⟩) (by simp) rfl rfl).mono ?_
                  · match i, hz with
                    | 0, hz =>
                      simp at hz
                      subst hz
                      simp
                  rintro e w5 ⟨rfl, hb5⟩
                  have hb4 : Below w4.heap.size w4 w5 := ((Below.refl _ _).alloc (Nat.le_refl _) _).trans (hb5.mono (by simp))
                  have HT5 := Lib.hid (HT4.out.below hb4)
                  have hB5 : Below W0.heap.size W0 w5 := HB4.out.trans (hb4.mono HB4.out.size)
                  have HB5 := Lib.hid hB5
                  clear hb4 hb5 hB5 hc4
                  go_wp2
                  go_roundw
                  case rel => exact ⟨k + 1, nw + x, true, q2, by omega, rfl, rfl, by go_num, HI3.out, HT5.out, HB5.out⟩
                  case measure => simp [intOf]; omega
            · clear hu hTr hbr
              go_wp2_with fail
              go_ret
              exact ⟨rfl, HB0.out.trans (HBr.out.mono (by omega))⟩
        · have hoz : a.off = 0 := by omega
          have hob : decide (0 < a.off) = false := by simpa using hoff
          obtain ⟨p, hact, hinv⟩ := once_now a s HMAY.out ⟨hs1, hs2⟩ hoz
          have HACT := Lib.hid hact
          have HINV := Lib.hid hinv
          clear hact hinv hoff hoz
          go_wp2_with fail
          refine (start_is 0 s HACT.out HT.out (one_ok (ok_fresh HMAY.out))).mono ?_
          rintro e w3 ⟨rfl, hT3, hA3⟩
          have HT3 := Lib.hid hT3
          have hb3 : Below W0.heap.size W0 w3 := HB2.out.trans ((hA3.mono HB2.out.size).below hgB)
          have hc3 : ∀ j, w3.cell? ⟨w.heap.size, j, none⟩ = (#[.int .i64 a.pri, .int .i64 a.per, .int .i64 a.cap, .int .i64 a.dl, .int .i64 a.off] : Array Value)[j]? := fun j => (hb3.cell (p := ⟨w.heap.size, j, none⟩) hw0).trans (hc0 j)
          have HB3 := Lib.hid hb3
          clear hT3 hA3 hb3 hc2
          go_wp2_with fail
          go_loopw [11, 13, 79] (fun s11 s13 s79 wr => ∃ (k : Nat) (nw : Int) (was : Bool) (q : Pr), k ≤ n ∧ s11 = .int .i64 nw ∧ s13 = .bool was ∧ s79 = .int .i64 k ∧ OInv a k nw (s) was q ∧ Tab wr t g c [q] ∧ Below W0.heap.size W0 wr) (fun _ _ i _ => n - (intOf i).toNat)
          case atStart => exact ⟨0, _, false, _, Nat.zero_le _, rfl, rfl, rfl, HINV.out, HT3.out, HB3.out⟩
          case round =>
            obtain ⟨k, nw, was, q, hk, rfl, rfl, rfl, hu, hTr, hbr⟩ := hrel
            have hcr : ∀ j, wr.cell? ⟨w.heap.size, j, none⟩ = (#[.int .i64 a.pri, .int .i64 a.per, .int .i64 a.cap, .int .i64 a.dl, .int .i64 a.off] : Array Value)[j]? := fun j => (hbr.cell (p := ⟨w.heap.size, j, none⟩) hw0).trans (hc0 j)
            have HBr := Lib.hid hbr
            have HTr := Lib.hid hTr
            have HU := Lib.hid hu
            clear hc3
            by_cases hlt : k < n
            · obtain ⟨b, o, rfl, hbl, hel⟩ := HA.out (by omega)
              obtain ⟨he, hx1, hx2⟩ := hel k hlt
              have hex := (HBr.out.cell (p := ⟨b, o + k, none⟩) (by show b < W0.heap.size; omega)).trans ((HB0.out.cell (p := ⟨b, o + k, none⟩) hbl).trans he)
              generalize zs.getD k 0 = x at *
              obtain ⟨hp1, hp2⟩ := hu.pos
              have hnw := hu.now
              have hk40 : (k : Int) < 40 := by omega
              clear hel he hbr hTr hu
              by_cases hkd : (k : Int) = dn
              · have hkb : ((k : Int) == dn) = true := by simpa using hkd
                obtain ⟨q2, y, hd1, hd2, hd3, hd4⟩ := once_end HU.out (by omega)
                have HD1 := Lib.hid hd1
                have HD2 := Lib.hid hd2
                have HD3 := Lib.hid hd3
                have HD4 := Lib.hid hd4
                clear hkd hd1 hd2 hd3 hd4
                go_wp2_with fail
                refine (done_is 0 (s) HD1.out HD2.out HTr.out (one_ok HU.out.ok)).mono ?_
                rintro e w4 ⟨rfl, hT4, hA4⟩
                have HT4 := Lib.hid hT4
                have hb4 : Below W0.heap.size W0 w4 := HBr.out.trans ((hA4.mono HBr.out.size).below hgB)
                have hc4 : ∀ j, w4.cell? ⟨w.heap.size, j, none⟩ = (#[.int .i64 a.pri, .int .i64 a.per, .int .i64 a.cap, .int .i64 a.dl, .int .i64 a.off] : Array Value)[j]? := fun j => (hb4.cell (p := ⟨w.heap.size, j, none⟩) hw0).trans (hc0 j)
                have HB4 := Lib.hid hb4
                clear hT4 hA4 hb4 hcr
                go_wp2_with fail
                refine (miss_is (ids := []) (s + a.dl + a.per) (HD4.out _) rfl (by omega) HT4.out (one_ok HD3.out)).mono ?_
                rintro e w5 ⟨A5, cc5, rfl, hi5, hT5, hA5⟩
                have HT5 := Lib.hid hT5
                have HI5 := Lib.hid hi5
                have hb5 : Below W0.heap.size W0 w5 := HB4.out.trans ((hA5.mono HB4.out.size).below hgB)
                have hc5 : ∀ j, w5.cell? ⟨w.heap.size, j, none⟩ = (#[.int .i64 a.pri, .int .i64 a.per, .int .i64 a.cap, .int .i64 a.dl, .int .i64 a.off] : Array Value)[j]? := fun j => (hb5.cell (p := ⟨w.heap.size, j, none⟩) hw0).trans (hc0 j)
                have HB5 := Lib.hid hb5
                clear hT5 hA5 hb5 hi5 hc4
                go_wp2
                go_ret
                exact ⟨rfl, HB0.out.trans (HB5.out.mono (by omega))⟩
              · have hkb : ((k : Int) == dn) = false := by simpa using hkd
                clear hkd
                have hcs : (was = true ∧ nw + x < s + a.dl) ∨ (was = true ∧ s + a.dl ≤ nw + x) ∨ (was = false ∧ nw + x < s + a.dl) ∨ (was = false ∧ s + a.dl ≤ nw + x) := by
                  cases was <;> simp <;> omega
                rcases hcs with ⟨rfl, hlt2⟩ | ⟨rfl, hge⟩ | ⟨rfl, hlt2⟩ | ⟨rfl, hge⟩
                · obtain ⟨hi1, q2, hi2, hi3⟩ := once_step (m := false) HU.out (by omega) ⟨hx1, hx2⟩ (by omega) (by simp)
                  have HI1 := Lib.hid hi1
                  have HI2 := Lib.hid hi2
                  have HI3 := Lib.hid hi3
                  clear hi1 hi2 hi3
                  go_wp2_with fail
                  refine (miss_is (ids := []) (nw + x) HI1.out HI2.out (by omega) HTr.out (one_ok HU.out.ok)).mono ?_
                  rintro e w4 ⟨A4, cc4, rfl, hi4, hT4, hA4⟩
                  have HT4 := Lib.hid hT4
                  have HI4 := Lib.hid hi4
                  have hb4 : Below W0.heap.size W0 w4 := HBr.out.trans ((hA4.mono HBr.out.size).below hgB)
                  have hc4 : ∀ j, w4.cell? ⟨w.heap.size, j, none⟩ = (#[.int .i64 a.pri, .int .i64 a.per, .int .i64 a.cap, .int .i64 a.dl, .int .i64 a.off] : Array Value)[j]? := fun j => (hb4.cell (p := ⟨w.heap.size, j, none⟩) hw0).trans (hc0 j)
                  have HB4 := Lib.hid hb4
                  clear hT4 hA4 hb4 hi4 hcr
                  go_wp2_with fail
                  refine (equal_is (xs := []) (ys := [0]) (b := false) (by decide) (HI4.out.below ((Below.refl _ _).alloc (Nat.le_refl _) _)) (fun _ => ⟨w4.heap.size, 0, rfl, by simp, fun i z hz => ?_⟩) (by simp) rfl rfl).mono ?_
                  · match i, hz with
                    | 0, hz =>
                      simp at hz
                      subst hz
                      simp
                  rintro e w5 ⟨rfl, hb5⟩
                  have hb4 : Below w4.heap.size w4 w5 := ((Below.refl _ _).alloc (Nat.le_refl _) _).trans (hb5.mono (by simp))
                  have HT5 := Lib.hid (HT4.out.below hb4)
                  have hB5 : Below W0.heap.size W0 w5 := HB4.out.trans (hb4.mono HB4.out.size)
                  have HB5 := Lib.hid hB5
                  clear hb4 hb5 hB5 hc4
                  go_wp2
                  go_roundw
                  case rel => exact ⟨k + 1, nw + x, true, q2, by omega, rfl, rfl, by go_num, HI3.out, HT5.out, HB5.out⟩
                  case measure => simp [intOf]; omega
                · obtain ⟨hi1, q2, hi2, hi3⟩ := once_step (m := false) HU.out (by omega) ⟨hx1, hx2⟩ (by omega) (by simp)
                  have HI1 := Lib.hid hi1
                  have HI2 := Lib.hid hi2
                  have HI3 := Lib.hid hi3
                  clear hi1 hi2 hi3
                  go_wp2_with fail
                  refine (miss_is (ids := []) (nw + x) HI1.out HI2.out (by omega) HTr.out (one_ok HU.out.ok)).mono ?_
                  rintro e w4 ⟨A4, cc4, rfl, hi4, hT4, hA4⟩
                  have HT4 := Lib.hid hT4
                  have HI4 := Lib.hid hi4
                  have hb4 : Below W0.heap.size W0 w4 := HBr.out.trans ((hA4.mono HBr.out.size).below hgB)
                  have hc4 : ∀ j, w4.cell? ⟨w.heap.size, j, none⟩ = (#[.int .i64 a.pri, .int .i64 a.per, .int .i64 a.cap, .int .i64 a.dl, .int .i64 a.off] : Array Value)[j]? := fun j => (hb4.cell (p := ⟨w.heap.size, j, none⟩) hw0).trans (hc0 j)
                  have HB4 := Lib.hid hb4
                  clear hT4 hA4 hb4 hi4 hcr
                  go_wp2_with fail
                  refine (equal_is (xs := []) (ys := [0]) (b := false) (by decide) (HI4.out.below ((Below.refl _ _).alloc (Nat.le_refl _) _)) (fun _ => ⟨w4.heap.size, 0, rfl, by simp, fun i z hz => ?_⟩) (by simp) rfl rfl).mono ?_
                  · match i, hz with
                    | 0, hz =>
                      simp at hz
                      subst hz
                      simp
                  rintro e w5 ⟨rfl, hb5⟩
                  have hb4 : Below w4.heap.size w4 w5 := ((Below.refl _ _).alloc (Nat.le_refl _) _).trans (hb5.mono (by simp))
                  have HT5 := Lib.hid (HT4.out.below hb4)
                  have hB5 : Below W0.heap.size W0 w5 := HB4.out.trans (hb4.mono HB4.out.size)
                  have HB5 := Lib.hid hB5
                  clear hb4 hb5 hB5 hc4
                  go_wp2
                  go_roundw
                  case rel => exact ⟨k + 1, nw + x, true, q2, by omega, rfl, rfl, by go_num, HI3.out, HT5.out, HB5.out⟩
                  case measure => simp [intOf]; omega
                · obtain ⟨hi1, q2, hi2, hi3⟩ := once_step (m := false) HU.out (by omega) ⟨hx1, hx2⟩ (by omega) (by simp; omega)
                  have HI1 := Lib.hid hi1
                  have HI2 := Lib.hid hi2
                  have HI3 := Lib.hid hi3
                  clear hi1 hi2 hi3
                  go_wp2_with fail
                  refine (miss_is (ids := []) (nw + x) HI1.out HI2.out (by omega) HTr.out (one_ok HU.out.ok)).mono ?_
                  rintro e w4 ⟨A4, cc4, rfl, hi4, hT4, hA4⟩
                  have HT4 := Lib.hid hT4
                  have HI4 := Lib.hid hi4
                  have hb4 : Below W0.heap.size W0 w4 := HBr.out.trans ((hA4.mono HBr.out.size).below hgB)
                  have hc4 : ∀ j, w4.cell? ⟨w.heap.size, j, none⟩ = (#[.int .i64 a.pri, .int .i64 a.per, .int .i64 a.cap, .int .i64 a.dl, .int .i64 a.off] : Array Value)[j]? := fun j => (hb4.cell (p := ⟨w.heap.size, j, none⟩) hw0).trans (hc0 j)
                  have HB4 := Lib.hid hb4
                  clear hT4 hA4 hb4 hi4 hcr
                  go_wp2_with fail
                  refine (equal_is (xs := []) (ys := [0]) (b := false) (by decide) (HI4.out.below ((Below.refl _ _).alloc (Nat.le_refl _) _)) (fun _ => ⟨w4.heap.size, 0, rfl, by simp, fun i z hz => ?_⟩) (by simp) rfl rfl).mono ?_
                  · match i, hz with
                    | 0, hz =>
                      simp at hz
                      subst hz
                      simp
                  rintro e w5 ⟨rfl, hb5⟩
                  have hb4 : Below w4.heap.size w4 w5 := ((Below.refl _ _).alloc (Nat.le_refl _) _).trans (hb5.mono (by simp))
                  have HT5 := Lib.hid (HT4.out.below hb4)
                  have hB5 : Below W0.heap.size W0 w5 := HB4.out.trans (hb4.mono HB4.out.size)
                  have HB5 := Lib.hid hB5
                  clear hb4 hb5 hB5 hc4
                  go_wp2
                  go_roundw
                  case rel => exact ⟨k + 1, nw + x, false, q2, by omega, rfl, rfl, by go_num, HI3.out, HT5.out, HB5.out⟩
                  case measure => simp [intOf]; omega
                · obtain ⟨hi1, q2, hi2, hi3⟩ := once_step (m := true) HU.out (by omega) ⟨hx1, hx2⟩ (by omega) (by simp; omega)
                  have HI1 := Lib.hid hi1
                  have HI2 := Lib.hid hi2
                  have HI3 := Lib.hid hi3
                  clear hi1 hi2 hi3
                  go_wp2_with fail
                  refine (miss_is (ids := [0]) (nw + x) HI1.out HI2.out (by omega) HTr.out (one_ok HU.out.ok)).mono ?_
                  rintro e w4 ⟨A4, cc4, rfl, hi4, hT4, hA4⟩
                  have HT4 := Lib.hid hT4
                  have HI4 := Lib.hid hi4
                  have hb4 : Below W0.heap.size W0 w4 := HBr.out.trans ((hA4.mono HBr.out.size).below hgB)
                  have hc4 : ∀ j, w4.cell? ⟨w.heap.size, j, none⟩ = (#[.int .i64 a.pri, .int .i64 a.per, .int .i64 a.cap, .int .i64 a.dl, .int .i64 a.off] : Array Value)[j]? := fun j => (hb4.cell (p := ⟨w.heap.size, j, none⟩) hw0).trans (hc0 j)
                  have HB4 := Lib.hid hb4
                  clear hT4 hA4 hb4 hi4 hcr
                  go_wp2_with fail
                  refine (equal_is (xs := [0]) (ys := [0]) (b := true) (by decide) (HI4.out.below ((Below.refl _ _).alloc (Nat.le_refl _) _)) (fun _ => ⟨w4.heap.size, 0, rfl, by simp, fun i z hz => ?_⟩) (by simp) rfl rfl).mono ?_
                  · match i, hz with
                    | 0, hz =>
                      simp at hz
                      subst hz
                      simp
                  rintro e w5 ⟨rfl, hb5⟩
                  have hb4 : Below w4.heap.size w4 w5 := ((Below.refl _ _).alloc (Nat.le_refl _) _).trans (hb5.mono (by simp))
                  have HT5 := Lib.hid (HT4.out.below hb4)
                  have hB5 : Below W0.heap.size W0 w5 := HB4.out.trans (hb4.mono HB4.out.size)
                  have HB5 := Lib.hid hB5
                  clear hb4 hb5 hB5 hc4
                  go_wp2
                  go_roundw
                  case rel => exact ⟨k + 1, nw + x, true, q2, by omega, rfl, rfl, by go_num, HI3.out, HT5.out, HB5.out⟩
                  case measure => simp [intOf]; omega
            · clear hu hTr hbr
              go_wp2_with fail
              go_ret
              exact ⟨rfl, HB0.out.trans (HBr.out.mono (by omega))⟩

end Go.Proofs.Ytgnjenmicojgnaa
