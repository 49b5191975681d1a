/-
  What ProcUses answers of attributes and a list of 16 bit numbers: true; and the plain law behind it.
-/
import Derived.Test.YtgnjenmicojgnaaC0
namespace Go.Proofs.Ytgnjenmicojgnaa
set_option linter.unusedVariables false
set_option linter.unusedSimpArgs false
open Go.RowKit

theorem left_is {t g c : Nat} {ps : List Pr} (i : Int) {k : Int} {w : World} (h : leftR ps i = k) (hT : Tab w t g c ps) (hok : ∀ p, p ∈ ps → p.Ok) :
    Calls Try.prog 19 #[.pointer (some ⟨t, 0, none⟩), .int .i64 i] w fun e w' => e = .returned (.int .i64 k) ∧ Below w.heap.size w w' := by
  subst h; exact left_any t g c ps i w hT hok

/-- ProcUses' loop: behind k pieces. -/
structure UInv (a : At) (k : Nat) (sm : Int) (p : Pr) : Prop where
  same : Same5 p a
  ok : p.Ok
  held : p.held = false
  st : p.st = 1
  beg : p.beg = 0
  used : p.used = sm
  sum : 0 ≤ sm ∧ sm ≤ k * 65535

theorem uses_start (a : At) (ha : a.may = true) (h0 : a.off = 0) : ∃ p, act (startF 0) (tickB 0) [prOf a] 0 = ([p], 0) ∧ UInv a 0 0 p := by
  have hok := ok_fresh ha
  have hk := keeps_start 0 (tick_in (by omega) (by omega)) (prOf a) (startP 0 (prOf a)) hok (by simp [startF, prOf])
  refine ⟨startP 0 (prOf a), act_one _ _ _ _ (tick_in (by omega) (by omega)) (by simp [startF, prOf]), ?_⟩
  have e : startP 0 (prOf a) = ⟨a.pri, a.per, a.cap, a.dl, a.off, 1, false, a.pri, 0, 0, 0, 0, false⟩ := by simp [startP, prOf, h0]
  rw [e] at hk ⊢
  exact ⟨⟨rfl, rfl, rfl, rfl, rfl⟩, hk, rfl, rfl, rfl, rfl, by omega, by omega⟩

theorem uses_step {a : At} {k : Nat} {sm x : Int} {p : Pr} (h : UInv a k sm p) (hk : k < 40) (hx : 0 ≤ x ∧ x ≤ 65535) :
    ∃ p', act (chargeF x) (tickB x) [p] 0 = ([p'], 0) ∧ chargeR [p] 0 x = (if 0 < a.cap ∧ a.cap < sm + x then 16 else 0) ∧ UInv a (k + 1) (sm + x) p' ∧ leftR [p'] 0 = (if a.cap = 0 then -1 else max (a.cap - (sm + x)) 0) := by
  obtain ⟨h1, h2, h3, h4, h5, h6, h7, h8⟩ := h
  have htk : tickB x = true := tick_in hx.1 (by omega)
  have hu : usedN x p = sm + x := by unfold usedN; rw [h6, if_neg (by omega)]
  have hc : chargeF x p = some { p with used := sm + x } := by
    unfold chargeF
    rw [if_pos (by simp [h4]), hu]
  have hko := keeps_charge x htk p _ h2 hc
  refine ⟨_, act_one _ _ _ _ htk hc, ?_, ⟨⟨h1.pri, h1.per, h1.cap, h1.dl, h1.off⟩, hko, h3, h4, h5, rfl, by omega, by omega⟩, ?_⟩
  · unfold chargeR overR
    rw [act_one _ _ _ _ htk hc]
    simp only [if_true, Int.toNat_zero, List.getElem?_cons_zero, Option.map_some, Option.getD_some]
    unfold overN
    rw [hu, h1.cap]
    by_cases c1 : 0 < a.cap <;> by_cases c2 : a.cap < sm + x <;> simp [c1, c2]
  · simp only [leftR, Int.lt_irrefl, if_false, Int.toNat_zero, List.getElem?_cons_zero]
    rw [h1.cap]

theorem uses_done {a : At} {k : Nat} {sm : Int} {p : Pr} (h : UInv a k sm p) :
    ∃ p' x, act (doneF 1073741824) (tickB 1073741824) [p] 0 = ([p'], 0) ∧ doneR [p] 0 1073741824 = x ∧ p'.Ok ∧ (0 < a.cap → leftR [p'] 0 = a.cap) ∧ (a.per = 0 → stateR p' = 0) := by
  obtain ⟨h1, h2, h3, h4, h5, h6, h7, h8⟩ := h
  have htk : tickB 1073741824 = true := rfl
  have hd : doneF 1073741824 p = some (doneP 1073741824 p) := by simp [doneF, h4, h3]
  have hper := h2.per
  refine ⟨_, _, act_one _ _ _ _ htk hd, rfl, keeps_done _ htk p _ h2 hd, fun hc => ?_, fun hp => ?_⟩
  · simp only [leftR, Int.lt_irrefl, if_false, Int.toNat_zero, List.getElem?_cons_zero]
    unfold doneP
    have hcap := h1.cap
    split
    · simp [sleepP, hcap]; omega
    split
    · simp [atP, hcap]; omega
    · simp [restP, hcap]; omega
  · unfold doneP
    rw [if_pos (by rw [h1.per]; exact hp)]
    rfl

set_option maxRecDepth 100000 in
set_option maxHeartbeats 2000000 in
theorem uses_any (a : At) (A : Option Addr) (n cc : Nat) (zs : List Int) (w : World) (hA : Nums w .u16 A n zs 0 65535) :
    Calls Try.prog 4 #[.agg #[.int .i64 a.pri, .int .i64 a.per, .int .i64 a.cap, .int .i64 a.dl, .int .i64 a.off], .slice A n cc] w fun e w' => e = .returned (.bool true) ∧ Below w.heap.size w w' := by
  have HA := Lib.hid hA
  clear hA
  go_enter Try.func4, Try.ntmps4
  go_wp2_with fail
  obtain ⟨W0, hW0⟩ : ∃ W0, W0 = w.alloc (.cells #[.int .i64 a.pri, .int .i64 a.per, .int .i64 a.cap, .int .i64 a.dl, .int .i64 a.off] 23) := ⟨_, rfl⟩
  rw [← hW0]
  have hB0 : Below w.heap.size w W0 := by rw [hW0]; exact (Below.refl _ _).alloc (Nat.le_refl _) _
  have hz0 : W0.heap.size = w.heap.size + 1 := by rw [hW0]; simp
  have hc0 : ∀ j, W0.cell? ⟨w.heap.size, j, none⟩ = (#[.int .i64 a.pri, .int .i64 a.per, .int .i64 a.cap, .int .i64 a.dl, .int .i64 a.off] : Array Value)[j]? := by rw [hW0]; intro j; simp
  clear hW0
  have HB0 := Lib.hid hB0
  have HZ0 := Lib.hid hz0
  have hw0 : w.heap.size < W0.heap.size := by omega
  clear hB0 hz0
  refine (speaks_any W0).mono ?_
  rintro e w1 ⟨rfl, hb1⟩
  have HB1 := Lib.hid hb1
  clear hb1
  by_cases hlen : 40 < n
  · go_wp2_with fail
    refine (speaks_any w1).mono ?_
    rintro e w2 ⟨rfl, hb2⟩
    have HB2 := Lib.hid hb2
    clear hb2
    go_wp2
    go_ret
    exact ⟨rfl, HB0.out.trans ((HB1.out.trans (HB2.out.mono HB1.out.size)).mono (by omega))⟩
  · have hc1 : ∀ j, w1.cell? ⟨w.heap.size, j, none⟩ = (#[.int .i64 a.pri, .int .i64 a.per, .int .i64 a.cap, .int .i64 a.dl, .int .i64 a.off] : Array Value)[j]? := fun j => (HB1.out.cell (p := ⟨w.heap.size, j, none⟩) hw0).trans (hc0 j)
    go_wp2_with fail
    refine (new_any (some ⟨w1.heap.size, 0, none⟩) 1 1 [a] _ rfl ?_ (by omega)).mono ?_
    · intro _
      refine ⟨w1.heap.size, 0, rfl, by simp, fun k b hk => ?_⟩
      match k, hk with
      | 0, hk =>
        simp at hk
        subst hk
        constructor <;> simp
    rintro e w2 ⟨h, hb2⟩
    have hB2 : Below W0.heap.size W0 w2 := (HB1.out.alloc HB1.out.size _).trans (hb2.mono (by have := HB1.out.size; simp; omega))
    have hc2 : ∀ j, w2.cell? ⟨w.heap.size, j, none⟩ = (#[.int .i64 a.pri, .int .i64 a.per, .int .i64 a.cap, .int .i64 a.dl, .int .i64 a.off] : Array Value)[j]? := fun j => (hB2.cell (p := ⟨w.heap.size, j, none⟩) hw0).trans (hc0 j)
    have HB2 := Lib.hid hB2
    clear hb2 hB2 hc1
    rcases h with ⟨hnew, t, g, c, rfl, hT, ht, hg⟩ | ⟨hnew, rfl⟩
    rotate_left
    · rw [if_neg (by simp)]
      go_wp2
      go_ret
      exact ⟨rfl, HB0.out.trans (HB2.out.mono (by omega))⟩
    · have hmay : a.may = true := by simpa [newOk] using hnew
      have hgB : W0.heap.size ≤ g := by have := hg (by simp); have := HB1.out.size; simp at *; omega
      have htB : W0.heap.size ≤ t := by have := HB1.out.size; simp at ht; omega
      have HT : Hid (Tab w2 t g c [prOf a]) := Lib.hid hT
      have hao := ok_fresh hmay
      obtain ⟨hpr1, hpr2⟩ : 1 ≤ a.pri ∧ a.pri ≤ 63 := hao.pri
      obtain ⟨hpe1, hpe2⟩ : 0 ≤ a.per ∧ a.per ≤ 1048576 := hao.per
      obtain ⟨hca1, hca2⟩ : 0 ≤ a.cap ∧ a.cap ≤ 1048576 := hao.cap
      obtain ⟨hdl1, hdl2⟩ : 0 ≤ a.dl ∧ a.dl ≤ 1048576 := hao.dl
      obtain ⟨hof1, hof2⟩ : 0 ≤ a.off ∧ a.off ≤ 1048576 := hao.off
      have HMAY := Lib.hid hmay
      clear hT ht hg hnew hao hmay
      by_cases hoff : 0 < a.off
      · go_wp2
        go_ret
        exact ⟨rfl, HB0.out.trans (HB2.out.mono (by omega))⟩
      · obtain ⟨p, hact, hinv⟩ := uses_start a HMAY.out (by omega)
        have HACT := Lib.hid hact
        have HINV := Lib.hid hinv
        clear hact hinv
        go_wp2_with fail
        refine (start_is 0 0 HACT.out HT.out (one_ok (ok_fresh HMAY.out))).mono ?_
        rintro e w3 ⟨rfl, hT3, hA3⟩
        have HT3 := Lib.hid hT3
        have hb3 : Below W0.heap.size W0 w3 := HB2.out.trans ((hA3.mono HB2.out.size).below hgB)
        have hc3 : ∀ j, w3.cell? ⟨w.heap.size, j, none⟩ = (#[.int .i64 a.pri, .int .i64 a.per, .int .i64 a.cap, .int .i64 a.dl, .int .i64 a.off] : Array Value)[j]? := fun j => (hb3.cell (p := ⟨w.heap.size, j, none⟩) hw0).trans (hc0 j)
        have HB3 := Lib.hid hb3
        clear hT3 hA3 hb3 hc2
        go_wp2_with fail
        go_loopw [7, 45] (fun s7 s45 wr => ∃ (k : Nat) (sm : Int) (q : Pr), k ≤ n ∧ s7 = .int .i64 sm ∧ s45 = .int .i64 k ∧ UInv a k sm q ∧ Tab wr t g c [q] ∧ Below W0.heap.size W0 wr) (fun _ i _ => n - (intOf i).toNat)
        case atStart => exact ⟨0, 0, p, Nat.zero_le _, rfl, rfl, HINV.out, HT3.out, HB3.out⟩
        case round =>
          obtain ⟨k, sm, q, hk, rfl, rfl, hu, hTr, hbr⟩ := hrel
          have hcr : ∀ j, wr.cell? ⟨w.heap.size, j, none⟩ = (#[.int .i64 a.pri, .int .i64 a.per, .int .i64 a.cap, .int .i64 a.dl, .int .i64 a.off] : Array Value)[j]? := fun j => (hbr.cell (p := ⟨w.heap.size, j, none⟩) hw0).trans (hc0 j)
          have HBr := Lib.hid hbr
          have HTr := Lib.hid hTr
          have HU := Lib.hid hu
          clear hc3
          by_cases hlt : k < n
          · obtain ⟨b, o, rfl, hbl, hel⟩ := HA.out (by omega)
            obtain ⟨he, hx1, hx2⟩ := hel k hlt
            have hex := (HBr.out.cell (p := ⟨b, o + k, none⟩) (by show b < W0.heap.size; omega)).trans ((HB0.out.cell (p := ⟨b, o + k, none⟩) hbl).trans he)
            generalize zs.getD k 0 = x at *
            obtain ⟨hs1, hs2⟩ := hu.sum
            have hk40 : (k : Int) < 40 := by omega
            obtain ⟨q2, ha1, ha2, ha3, ha4⟩ := uses_step hu (by omega) ⟨hx1, hx2⟩
            have HA1 := Lib.hid ha1
            have HA2 := Lib.hid ha2
            have HA3 := Lib.hid ha3
            have HA4 := Lib.hid ha4
            clear hel he hbr hTr hu ha1 ha2 ha3 ha4
            have hcs : a.cap = 0 ∨ (0 < a.cap ∧ a.cap < sm + x) ∨ (0 < a.cap ∧ sm + x ≤ a.cap) := by omega
            rcases hcs with hcap | ⟨hcap, hov⟩ | ⟨hcap, hov⟩
            · have hx : Hid (chargeR [q] 0 x = 0) := by have := HA2.out; rw [if_neg (by omega)] at this; exact this
              have hl : Hid (leftR [q2] 0 = -1) := by have := HA4.out; rw [if_pos hcap] at this; exact this
              have hcb : (a.cap == 0) = true := by simpa using hcap
              have hcz : decide (0 < a.cap) = false := by simp; omega
              clear hcap
              go_wp2_with fail
              refine (charge_is 0 x HA1.out (hx.out) HTr.out (one_ok HU.out.ok)).mono ?_
              rintro e w5 ⟨rfl, hT5, hA5⟩
              have HT5 := Lib.hid hT5
              have hb5 : Below W0.heap.size W0 w5 := HBr.out.trans ((hA5.mono HBr.out.size).below hgB)
              have hc5 : ∀ j, w5.cell? ⟨w.heap.size, j, none⟩ = (#[.int .i64 a.pri, .int .i64 a.per, .int .i64 a.cap, .int .i64 a.dl, .int .i64 a.off] : Array Value)[j]? := fun j => (hb5.cell (p := ⟨w.heap.size, j, none⟩) hw0).trans (hc0 j)
              have HB5 := Lib.hid hb5
              clear hT5 hA5 hb5 hcr
              go_wp2_with fail
              refine (left_is 0 (k := -1) (hl.out) HT5.out (one_ok HA3.out.ok)).mono ?_
              rintro e w6 ⟨rfl, hb6⟩
              have HT6 := Lib.hid (HT5.out.below hb6)
              have hB6 : Below W0.heap.size W0 w6 := HB5.out.trans (hb6.mono HB5.out.size)
              have hc6 : ∀ j, w6.cell? ⟨w.heap.size, j, none⟩ = (#[.int .i64 a.pri, .int .i64 a.per, .int .i64 a.cap, .int .i64 a.dl, .int .i64 a.off] : Array Value)[j]? := fun j => (hB6.cell (p := ⟨w.heap.size, j, none⟩) hw0).trans (hc0 j)
              have HB6 := Lib.hid hB6
              clear hb6 hB6 hc5
              go_wp2
              all_goals
                go_roundw
                case rel => exact ⟨k + 1, sm + x, q2, by omega, rfl, by go_num, HA3.out, HT6.out, HB6.out⟩
                case measure => simp [intOf]; omega
            · have hx : Hid (chargeR [q] 0 x = 16) := by have := HA2.out; rw [if_pos ⟨hcap, hov⟩] at this; exact this
              have hl : Hid (leftR [q2] 0 = 0) := by have := HA4.out; rw [if_neg (by omega)] at this; show _ = _; omega
              have hcb : (a.cap == 0) = false := by simp; omega
              go_wp2_with fail
              refine (charge_is 0 x HA1.out (hx.out) HTr.out (one_ok HU.out.ok)).mono ?_
              rintro e w5 ⟨rfl, hT5, hA5⟩
              have HT5 := Lib.hid hT5
              have hb5 : Below W0.heap.size W0 w5 := HBr.out.trans ((hA5.mono HBr.out.size).below hgB)
              have hc5 : ∀ j, w5.cell? ⟨w.heap.size, j, none⟩ = (#[.int .i64 a.pri, .int .i64 a.per, .int .i64 a.cap, .int .i64 a.dl, .int .i64 a.off] : Array Value)[j]? := fun j => (hb5.cell (p := ⟨w.heap.size, j, none⟩) hw0).trans (hc0 j)
              have HB5 := Lib.hid hb5
              clear hT5 hA5 hb5 hcr
              go_wp2_with fail
              refine (left_is 0 (k := 0) (hl.out) HT5.out (one_ok HA3.out.ok)).mono ?_
              rintro e w6 ⟨rfl, hb6⟩
              have HT6 := Lib.hid (HT5.out.below hb6)
              have hB6 : Below W0.heap.size W0 w6 := HB5.out.trans (hb6.mono HB5.out.size)
              have hc6 : ∀ j, w6.cell? ⟨w.heap.size, j, none⟩ = (#[.int .i64 a.pri, .int .i64 a.per, .int .i64 a.cap, .int .i64 a.dl, .int .i64 a.off] : Array Value)[j]? := fun j => (hB6.cell (p := ⟨w.heap.size, j, none⟩) hw0).trans (hc0 j)
              have HB6 := Lib.hid hB6
              clear hb6 hB6 hc5
              go_wp2
              all_goals
                go_roundw
                case rel => exact ⟨k + 1, sm + x, q2, by omega, rfl, by go_num, HA3.out, HT6.out, HB6.out⟩
                case measure => simp [intOf]; omega
            · have hx : Hid (chargeR [q] 0 x = 0) := by have := HA2.out; rw [if_neg (by omega)] at this; exact this
              have hl : Hid (leftR [q2] 0 = a.cap - (sm + x)) := by have := HA4.out; rw [if_neg (by omega)] at this; show _ = _; omega
              have hcb : (a.cap == 0) = false := by simp; omega
              go_wp2_with fail
              refine (charge_is 0 x HA1.out (hx.out) HTr.out (one_ok HU.out.ok)).mono ?_
              rintro e w5 ⟨rfl, hT5, hA5⟩
              have HT5 := Lib.hid hT5
              have hb5 : Below W0.heap.size W0 w5 := HBr.out.trans ((hA5.mono HBr.out.size).below hgB)
              have hc5 : ∀ j, w5.cell? ⟨w.heap.size, j, none⟩ = (#[.int .i64 a.pri, .int .i64 a.per, .int .i64 a.cap, .int .i64 a.dl, .int .i64 a.off] : Array Value)[j]? := fun j => (hb5.cell (p := ⟨w.heap.size, j, none⟩) hw0).trans (hc0 j)
              have HB5 := Lib.hid hb5
              clear hT5 hA5 hb5 hcr
              go_wp2_with fail
              refine (left_is 0 (k := a.cap - (sm + x)) (hl.out) HT5.out (one_ok HA3.out.ok)).mono ?_
              rintro e w6 ⟨rfl, hb6⟩
              have HT6 := Lib.hid (HT5.out.below hb6)
              have hB6 : Below W0.heap.size W0 w6 := HB5.out.trans (hb6.mono HB5.out.size)
              have hc6 : ∀ j, w6.cell? ⟨w.heap.size, j, none⟩ = (#[.int .i64 a.pri, .int .i64 a.per, .int .i64 a.cap, .int .i64 a.dl, .int .i64 a.off] : Array Value)[j]? := fun j => (hB6.cell (p := ⟨w.heap.size, j, none⟩) hw0).trans (hc0 j)
              have HB6 := Lib.hid hB6
              clear hb6 hB6 hc5
              go_wp2
              all_goals
                go_roundw
                case rel => exact ⟨k + 1, sm + x, q2, by omega, rfl, by go_num, HA3.out, HT6.out, HB6.out⟩
                case measure => simp [intOf]; omega
          · obtain ⟨q2, x, hd1, hd2, hd3, hd4, hd5⟩ := uses_done hu
            have HD1 := Lib.hid hd1
            have HD2 := Lib.hid hd2
            have HD3 := Lib.hid hd3
            have HD4 := Lib.hid hd4
            have HD5 := Lib.hid hd5
            have HOK := Lib.hid hu.ok
            clear hbr hTr hu hd1 hd2 hd3 hd4 hd5
            go_wp2_with fail
            refine (done_is 0 1073741824 HD1.out HD2.out HTr.out (one_ok HOK.out)).mono ?_
            rintro e w4 ⟨rfl, hT4, hA4⟩
            have HT4 := Lib.hid hT4
            have hb4 : Below W0.heap.size W0 w4 := HBr.out.trans ((hA4.mono HBr.out.size).below hgB)
            have hc4 : ∀ j, w4.cell? ⟨w.heap.size, j, none⟩ = (#[.int .i64 a.pri, .int .i64 a.per, .int .i64 a.cap, .int .i64 a.dl, .int .i64 a.off] : Array Value)[j]? := fun j => (hb4.cell (p := ⟨w.heap.size, j, none⟩) hw0).trans (hc0 j)
            have HB4 := Lib.hid hb4
            clear hT4 hA4 hb4 hcr
            have hxc := fun (x : BW w4) (o : Nat) => x.cell w.heap.size o (by have := HB4.out.size; omega)
            have hcs : (0 < a.cap ∧ 0 < a.per) ∨ (0 < a.cap ∧ a.per = 0) ∨ (decide (0 < a.cap) = false ∧ 0 < a.per) ∨ (decide (0 < a.cap) = false ∧ a.per = 0) := by
              by_cases h1 : 0 < a.cap <;> by_cases h2 : 0 < a.per <;> simp [h1, h2] <;> omega
            rcases hcs with ⟨h1, h2⟩ | ⟨h1, h2⟩ | ⟨h1, h2⟩ | ⟨h1, h2⟩
            · have HL : Hid (leftR [q2] 0 = a.cap) := HD4.out h1
              go_wp2_with fail
              refine wp_region_bw (by kernel_rfl) (by kernel_rfl) ?_
              repeat (go_big_quiet_step ((go_at_call 19; exact Calls.bw (left_is 0 HL.out (HT4.out.below (Subtype.property _)) (one_ok HD3.out)))))
              refine wpQuiet_nil ?_
              rintro w5 ⟨x5, hx5⟩
              have hb5 : Below w4.heap.size w4 w5 := by rw [hx5]; exact x5.property
              clear hx5 x5 hxc
              have HT5 := Lib.hid (HT4.out.below hb5)
              have hB5 : Below W0.heap.size W0 w5 := HB4.out.trans (hb5.mono HB4.out.size)
              have hc5 : ∀ j, w5.cell? ⟨w.heap.size, j, none⟩ = (#[.int .i64 a.pri, .int .i64 a.per, .int .i64 a.cap, .int .i64 a.dl, .int .i64 a.off] : Array Value)[j]? := fun j => (hB5.cell (p := ⟨w.heap.size, j, none⟩) hw0).trans (hc0 j)
              have HB5 := Lib.hid hB5
              clear hb5 hB5 hc4
              go_wp2
              go_ret
              exact ⟨rfl, HB0.out.trans (HB5.out.mono (by omega))⟩
            · have HL : Hid (leftR [q2] 0 = a.cap) := HD4.out h1
              go_wp2_with fail
              refine wp_region_bw (by kernel_rfl) (by kernel_rfl) ?_
              repeat (go_big_quiet_step ((go_at_call 19; exact Calls.bw (left_is 0 HL.out (HT4.out.below (Subtype.property _)) (one_ok HD3.out)))))
              refine wpQuiet_nil ?_
              rintro w5 ⟨x5, hx5⟩
              have hb5 : Below w4.heap.size w4 w5 := by rw [hx5]; exact x5.property
              clear hx5 x5 hxc
              have HT5 := Lib.hid (HT4.out.below hb5)
              have hB5 : Below W0.heap.size W0 w5 := HB4.out.trans (hb5.mono HB4.out.size)
              have hc5 : ∀ j, w5.cell? ⟨w.heap.size, j, none⟩ = (#[.int .i64 a.pri, .int .i64 a.per, .int .i64 a.cap, .int .i64 a.dl, .int .i64 a.off] : Array Value)[j]? := fun j => (hB5.cell (p := ⟨w.heap.size, j, none⟩) hw0).trans (hc0 j)
              have HB5 := Lib.hid hB5
              clear hb5 hB5 hc4
              go_wp2_with fail
              refine (state_is 0 (k := 0) (by rw [look_one]; exact HD5.out h2) HT5.out).mono ?_
              rintro e w6 ⟨rfl, hb6⟩
              have HT6 := Lib.hid (HT5.out.below hb6)
              have hB6 : Below W0.heap.size W0 w6 := HB5.out.trans (hb6.mono HB5.out.size)
              have hc6 : ∀ j, w6.cell? ⟨w.heap.size, j, none⟩ = (#[.int .i64 a.pri, .int .i64 a.per, .int .i64 a.cap, .int .i64 a.dl, .int .i64 a.off] : Array Value)[j]? := fun j => (hB6.cell (p := ⟨w.heap.size, j, none⟩) hw0).trans (hc0 j)
              have HB6 := Lib.hid hB6
              clear hb6 hB6 hc5
              go_wp2
              go_ret
              exact ⟨rfl, HB0.out.trans (HB6.out.mono (by omega))⟩
            · have HL : Hid (leftR [q2] 0 = leftR [q2] 0) := rfl
              go_wp2_with fail
              refine wp_region_bw (by kernel_rfl) (by kernel_rfl) ?_
              repeat (go_big_quiet_step ((go_at_call 19; exact Calls.bw (left_is 0 HL.out (HT4.out.below (Subtype.property _)) (one_ok HD3.out)))))
              refine wpQuiet_nil ?_
              rintro w5 ⟨x5, hx5⟩
              have hb5 : Below w4.heap.size w4 w5 := by rw [hx5]; exact x5.property
              clear hx5 x5 hxc
              have HT5 := Lib.hid (HT4.out.below hb5)
              have hB5 : Below W0.heap.size W0 w5 := HB4.out.trans (hb5.mono HB4.out.size)
              have hc5 : ∀ j, w5.cell? ⟨w.heap.size, j, none⟩ = (#[.int .i64 a.pri, .int .i64 a.per, .int .i64 a.cap, .int .i64 a.dl, .int .i64 a.off] : Array Value)[j]? := fun j => (hB5.cell (p := ⟨w.heap.size, j, none⟩) hw0).trans (hc0 j)
              have HB5 := Lib.hid hB5
              clear hb5 hB5 hc4
              go_wp2
              go_ret
              exact ⟨rfl, HB0.out.trans (HB5.out.mono (by omega))⟩
            · have HL : Hid (leftR [q2] 0 = leftR [q2] 0) := rfl
              go_wp2_with fail
              refine wp_region_bw (by kernel_rfl) (by kernel_rfl) ?_
              repeat (go_big_quiet_step ((go_at_call 19; exact Calls.bw (left_is 0 HL.out (HT4.out.below (Subtype.property _)) (one_ok HD3.out)))))
              refine wpQuiet_nil ?_
              rintro w5 ⟨x5, hx5⟩
              have hb5 : Below w4.heap.size w4 w5 := by rw [hx5]; exact x5.property
              clear hx5 x5 hxc
              have HT5 := Lib.hid (HT4.out.below hb5)
              have hB5 : Below W0.heap.size W0 w5 := HB4.out.trans (hb5.mono HB4.out.size)
              have hc5 : ∀ j, w5.cell? ⟨w.heap.size, j, none⟩ = (#[.int .i64 a.pri, .int .i64 a.per, .int .i64 a.cap, .int .i64 a.dl, .int .i64 a.off] : Array Value)[j]? := fun j => (hB5.cell (p := ⟨w.heap.size, j, none⟩) hw0).trans (hc0 j)
              have HB5 := Lib.hid hB5
              clear hb5 hB5 hc4
              go_wp2_with fail
              refine (state_is 0 (k := 0) (by rw [look_one]; exact HD5.out h2) HT5.out).mono ?_
              rintro e w6 ⟨rfl, hb6⟩
              have HT6 := Lib.hid (HT5.out.below hb6)
              have hB6 : Below W0.heap.size W0 w6 := HB5.out.trans (hb6.mono HB5.out.size)
              have hc6 : ∀ j, w6.cell? ⟨w.heap.size, j, none⟩ = (#[.int .i64 a.pri, .int .i64 a.per, .int .i64 a.cap, .int .i64 a.dl, .int .i64 a.off] : Array Value)[j]? := fun j => (hB6.cell (p := ⟨w.heap.size, j, none⟩) hw0).trans (hc0 j)
              have HB6 := Lib.hid hB6
              clear hb6 hB6 hc5
              go_wp2
              go_ret
              exact ⟨rfl, HB0.out.trans (HB6.out.mono (by omega))⟩

end Go.Proofs.Ytgnjenmicojgnaa
