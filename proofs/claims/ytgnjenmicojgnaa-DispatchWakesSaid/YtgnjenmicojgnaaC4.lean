/-
  What ProcHolds answers of attributes, a start of 16 bits and a list of acts: true; and the plain law behind it.
-/
import Derived.Test.YtgnjenmicojgnaaC3
import Derived.Test.YtgnjenmicojgnaaB9
namespace Go.Proofs.Ytgnjenmicojgnaa
set_option linter.unusedVariables false
set_option linter.unusedSimpArgs false
open Go.RowKit

/-- An act that came in. -/
structure ActV where
  d : Int
  i : Int
  n : Int

/-- A slice of acts that came in. -/
def Acts (w : World) (A : Option Addr) (l : List ActV) : Prop :=
  l.length ≠ 0 → ∃ b o, A = some ⟨b, o, none⟩ ∧ b < w.heap.size ∧ ∀ k x, l[k]? = some x →
    w.cell? ⟨b, o + k * 3, none⟩ = some (.int .u8 x.d) ∧ w.cell? ⟨b, o + k * 3 + 1, none⟩ = some (.int .i64 x.i) ∧ w.cell? ⟨b, o + k * 3 + 2, none⟩ = some (.int .i64 x.n) ∧ 0 ≤ x.d ∧ x.d ≤ 255

def holdP (p : Pr) : Pr := { p with held := true }
def stepP (f : Pr → Option Pr) (may : Bool) (p : Pr) : Pr := if may = true then (f p).getD p else p
def codeP (f : Pr → Option Pr) (may : Bool) (p : Pr) : Int := if may = true then (if (f p).isSome = true then 0 else 10) else 2

theorem act_step (f : Pr → Option Pr) (may : Bool) (p : Pr) : act f may [p] 0 = ([stepP f may p], codeP f may p) := by
  unfold stepP codeP
  cases may with
  | false => simp [act]
  | true => cases h : f p <;> simp [act, h]

/-- f does to a process that is held what it does to one that isn't. -/
structure Blind (f : Pr → Option Pr) (may : Bool) : Prop where
  comm : ∀ p, f (holdP p) = (f p).map holdP
  keep : ∀ p p', f p = some p' → p.held = false → p.st ≠ 0 → p'.held = false ∧ p'.st ≠ 0
  keeps : Keeps f may

theorem blind_act {f : Pr → Option Pr} {may : Bool} (h : Blind f may) (p : Pr) : act f may [holdP p] 0 = ([holdP (stepP f may p)], codeP f may p) := by
  rw [act_step]
  unfold stepP codeP
  rw [h.comm]
  cases may with
  | false => simp
  | true => cases f p <;> simp

/-- What is true of the process that isn't held. -/
structure HInv (p : Pr) : Prop where
  ok : p.Ok
  held : p.held = false
  st : p.st ≠ 0

theorem hold_ok {p : Pr} (h : HInv p) : (holdP p).Ok := by
  obtain ⟨⟨h1, h2, h3, h4, h5, h6, h7, h8, h9, h10, h11, h12, h13⟩, _, hst⟩ := h
  constructor <;> simp [holdP] <;> omega

theorem blind_inv {f : Pr → Option Pr} {may : Bool} (h : Blind f may) {p : Pr} (hp : HInv p) : HInv (stepP f may p) := by
  unfold stepP
  cases hm : may with
  | false => simpa using hp
  | true =>
    cases hf : f p with
    | none => simpa using hp
    | some p' =>
      have hk := h.keep p p' hf hp.held hp.st
      simp only [if_true, Option.getD_some]
      exact ⟨h.keeps hm p p' hp.ok hf, hk.1, hk.2⟩

theorem ite_map {b : Bool} {x : Pr} : (if b = true then some (holdP x) else none) = (if b = true then some x else none).map holdP := by cases b <;> rfl

theorem blind_wake : Blind wakeF true := by
  refine ⟨fun p => ?_, fun p p' hf hh hs => ?_, keeps_wake⟩
  · unfold wakeF
    exact ite_map (x := { p with st := 1 })
  · unfold wakeF at hf
    obtain ⟨_, rfl⟩ := some_ite hf
    exact ⟨hh, by simp⟩
theorem blind_rele (n : Int) : Blind (releF n) (tickB n) := by
  refine ⟨fun p => ?_, fun p p' hf hh hs => ?_, keeps_rele n⟩
  · unfold releF
    exact ite_map (x := atP p.til p)
  · unfold releF at hf
    obtain ⟨_, rfl⟩ := some_ite hf
    exact ⟨hh, by simp [atP]⟩
theorem blind_charge (n : Int) : Blind (chargeF n) (tickB n) := by
  refine ⟨fun p => ?_, fun p p' hf hh hs => ?_, keeps_charge n⟩
  · unfold chargeF
    exact ite_map (x := { p with used := usedN n p })
  · unfold chargeF at hf
    obtain ⟨_, rfl⟩ := some_ite hf
    exact ⟨hh, hs⟩
theorem blind_setp (n : Int) : Blind (setpF n) (inB n 1 63) := by
  refine ⟨fun p => ?_, fun p p' hf hh hs => ?_, keeps_setp n⟩
  · unfold setpF
    exact ite_map (x := { p with base := n })
  · unfold setpF at hf
    obtain ⟨_, rfl⟩ := some_ite hf
    exact ⟨hh, hs⟩
theorem blind_rais (n : Int) : Blind (raisF n) (inB n 0 63) := by
  refine ⟨fun p => ?_, fun p p' hf hh hs => ?_, keeps_rais n⟩
  · unfold raisF
    exact ite_map (x := { p with raised := n })
  · unfold raisF at hf
    obtain ⟨_, rfl⟩ := some_ite hf
    exact ⟨hh, hs⟩

theorem charge_hold (p : Pr) (n : Int) : chargeR [holdP p] 0 n = chargeR [p] 0 n := by
  unfold chargeR overR
  rw [blind_act (blind_charge n), act_step]
  have e : overN n (holdP p) = overN n p := rfl
  simp [e]

theorem miss_hold (now : Int) (p : Pr) : missB now (holdP p) = missB now p := rfl
theorem mark_hold (now : Int) (p : Pr) : markP now (holdP p) = holdP (markP now p) := by
  unfold markP
  rw [miss_hold]
  split <;> rfl
theorem mark_inv (now : Int) {p : Pr} (h : HInv p) : HInv (markP now p) := by
  refine ⟨mark_ok now h.ok, ?_, ?_⟩
  · unfold markP; split
    · exact h.held
    · exact h.held
  · unfold markP; split
    · exact h.st
    · exact h.st

theorem hold_start (a : At) (s : Int) (ha : a.may = true) (hs : 0 ≤ s ∧ s ≤ 65535) : ∃ p, act (startF s) (tickB s) [prOf a] 0 = ([p], 0) ∧ HInv p := by
  obtain ⟨p, h1, h2⟩ := grid_start a s ha hs
  refine ⟨p, h1, h2.ok, h2.held, ?_⟩
  rcases h2.st with ⟨h, _⟩ | ⟨h, _⟩ <;> omega

theorem hold_susp {p : Pr} (h : HInv p) : act suspF true [p] 0 = ([holdP p], 0) := by
  apply act_one _ _ _ _ rfl
  unfold suspF
  rw [if_pos (by simp [h.st, h.held])]
  rfl
theorem hold_susp2 {p : Pr} (h : HInv p) : act suspF true [holdP p] 0 = ([holdP p], 10) := by
  apply act_state _ _ _ rfl
  unfold suspF
  rw [if_neg (by simp [holdP])]
theorem hold_wait {p : Pr} (h : HInv p) : act (waitF 5) (decide ((5 : Int) ≤ 1099511627776)) [holdP p] 0 = ([holdP p], 10) := by
  apply act_state _ _ _ (by decide)
  unfold waitF
  rw [if_neg (by simp [holdP])]
theorem hold_resu {p : Pr} (h : HInv p) : act resuF true [holdP p] 0 = ([p], 0) := by
  apply act_one _ _ _ _ rfl
  unfold resuF
  rw [if_pos (by simp [holdP, h.st])]
  simp only [holdP]
  have := h.held
  cases p
  simp_all
theorem hold_state {p : Pr} : stateR (lookP [holdP p] 0) = 4 := by rw [look_one]; rfl

theorem seen_held {p : Pr} (h : p.st ≠ 0) : (seenP p).held = p.held := by
  unfold seenP
  rw [if_neg h]
  split
  · rfl
  split
  · rfl
  · rfl
theorem hold_differ {p : Pr} (h : HInv p) : sameL [holdP p] [p] = false := by
  refine sameL_false fun hs => ?_
  have := hs.2 0 (holdP p) p rfl rfl
  simp only [sameB, Bool.and_eq_true, beq_iff_eq] at this
  have e := this.2.2.2.2.2.2.1
  rw [seen_held (by exact h.st), seen_held h.st, h.held] at e
  cases e
theorem sameB_refl (p : Pr) : sameB p p = true := by simp [sameB]
theorem same_self (ps : List Pr) : sameL ps ps = true := sameL_true ⟨rfl, fun i p q hp hq => by
  rw [hp] at hq
  injection hq with hq
  rw [hq]
  exact sameB_refl _⟩

/-- Where a slice of the call's own begins. -/
def From (B : Nat) (A : Option Addr) (xs : List Int) : Prop := xs.length ≠ 0 → ∃ b, A = some ⟨b, 0, none⟩ ∧ B ≤ b

theorem Ints.apart {w w' : World} {A : Option Addr} {xs : List Int} {B g : Nat} (h : Ints w A xs) (hf : From B A xs) (ha : Apart w.heap.size w w' g) (hg : g < B) : Ints w' A xs := by
  intro hl
  obtain ⟨b, o, rfl, hb, hc⟩ := h hl
  obtain ⟨b', e, hB⟩ := hf hl
  injection e with e
  injection e with e1 e2
  subst e1
  exact ⟨b, o, rfl, Nat.lt_of_lt_of_le hb ha.size, fun i x hx => (World.cell?_of_block (w := w) (a := ⟨b, o + i, none⟩) (ha.block b hb (by omega))).trans (hc i x hx)⟩

theorem miss_from {t g c : Nat} {ps ps' : List Pr} {ids : List Int} (now : Int) {w : World} (h1 : idsTo now ps ps.length = ids) (h2 : ps.map (markP now) = ps') (hn : 0 ≤ now ∧ now ≤ 1099511627776) (hT : Tab w t g c ps) (hok : ∀ p, p ∈ ps → p.Ok) :
    Calls Try.prog 20 #[.pointer (some ⟨t, 0, none⟩), .int .i64 now] w fun e w' => ∃ A cc, e = .returned (.slice A ids.length cc) ∧ Ints w' A ids ∧ From w.heap.size A ids ∧ Tab w' t g c ps' ∧ Apart w.heap.size w w' g := by
  subst h1 h2
  refine (missed_any t g c ps now w hT hok hn).mono ?_
  rintro e w' ⟨v, rfl, ho, hT', hA, -⟩
  obtain ⟨A, cc, hv, hi⟩ := ints_of_own ho
  refine ⟨A, cc, by rw [hv], hi, fun hl => ?_, hT', hA⟩
  rcases ho.2 with ⟨_, h0⟩ | ⟨g', cap, cur, hv', hg', _⟩
  · exact absurd h0 hl
  · rw [hv'] at hv
    injection hv with hv
    exact ⟨g', hv.symm, hg'⟩

theorem same_is {t g c t' g' c' : Nat} {ps qs : List Pr} {b : Bool} {w : World} (h : sameL ps qs = b) (hT : Tab w t g c ps) (hT' : Tab w t' g' c' qs) :
    Calls Try.prog 24 #[.pointer (some ⟨t, 0, none⟩), .pointer (some ⟨t', 0, none⟩)] w fun e w' => e = .returned (.bool b) ∧ Below w.heap.size w w' := by
  subst h; exact same_any t g c t' g' c' ps qs w hT hT'

set_option maxRecDepth 100000 in
set_option maxHeartbeats 8000000 in
theorem holds_any (a : At) (s : Int) (A : Option Addr) (n cc : Nat) (l : List ActV) (w : World) (hs : 0 ≤ s ∧ s ≤ 65535) (hn : l.length = n) (hA : Acts w A l) :
    Calls Try.prog 7 #[.agg #[.int .i64 a.pri, .int .i64 a.per, .int .i64 a.cap, .int .i64 a.dl, .int .i64 a.off], .int .u16 s, .slice A n cc] w fun e w' => e = .returned (.bool true) ∧ Below w.heap.size w w' := by
  obtain ⟨hs1, hs2⟩ := hs
  have HA := Lib.hid hA
  have HN := Lib.hid hn
  clear hA hn
  go_enter Try.func7, Try.ntmps7
  go_wp2_with fail
  obtain ⟨W0, hW0⟩ : ∃ W0, W0 = w.alloc (.cells #[.int .i64 a.pri, .int .i64 a.per, .int .i64 a.cap, .int .i64 a.dl, .int .i64 a.off] 23) := ⟨_, rfl⟩
  rw [← hW0]
  have hB0 : Below w.heap.size w W0 := by rw [hW0]; exact (Below.refl _ _).alloc (Nat.le_refl _) _
  have hz0 : W0.heap.size = w.heap.size + 1 := by rw [hW0]; simp
  have hc0 : ∀ j, W0.cell? ⟨w.heap.size, j, none⟩ = (#[.int .i64 a.pri, .int .i64 a.per, .int .i64 a.cap, .int .i64 a.dl, .int .i64 a.off] : Array Value)[j]? := by rw [hW0]; intro j; simp
  clear hW0
  have HB0 := Lib.hid hB0
  have HZ0 := Lib.hid hz0
  have hw0 : w.heap.size < W0.heap.size := by omega
  clear hB0 hz0
  refine (speaks_any W0).mono ?_
  rintro e w1 ⟨rfl, hb1⟩
  have HB1 := Lib.hid hb1
  clear hb1
  by_cases hlen : 40 < n
  · go_wp2_with fail
    refine (speaks_any w1).mono ?_
    rintro e w2 ⟨rfl, hb2⟩
    have HB2 := Lib.hid hb2
    clear hb2
    go_wp2
    go_ret
    exact ⟨rfl, HB0.out.trans ((HB1.out.trans (HB2.out.mono HB1.out.size)).mono (by omega))⟩
  · have hc1 : ∀ j, w1.cell? ⟨w.heap.size, j, none⟩ = (#[.int .i64 a.pri, .int .i64 a.per, .int .i64 a.cap, .int .i64 a.dl, .int .i64 a.off] : Array Value)[j]? := fun j => (HB1.out.cell (p := ⟨w.heap.size, j, none⟩) hw0).trans (hc0 j)
    go_wp2_with fail
    refine (new_any (some ⟨w1.heap.size, 0, none⟩) 1 1 [a] _ rfl ?_ (by omega)).mono ?_
    · intro _
      refine ⟨w1.heap.size, 0, rfl, by simp, fun k b hk => ?_⟩
      match k, hk with
      | 0, hk =>
        simp at hk
        subst hk
        constructor <;> simp
    rintro e w2 ⟨h, hb2⟩
    have hB2 : Below W0.heap.size W0 w2 := (HB1.out.alloc HB1.out.size _).trans (hb2.mono (by have := HB1.out.size; simp; omega))
    have hc2 : ∀ j, w2.cell? ⟨w.heap.size, j, none⟩ = (#[.int .i64 a.pri, .int .i64 a.per, .int .i64 a.cap, .int .i64 a.dl, .int .i64 a.off] : Array Value)[j]? := fun j => (hB2.cell (p := ⟨w.heap.size, j, none⟩) hw0).trans (hc0 j)
    have HB2 := Lib.hid hB2
    clear hb2 hB2 hc1
    rcases h with ⟨hnew, t, g, c, rfl, hT, ht, hg⟩ | ⟨hnew, rfl⟩
    rotate_left
    · rw [if_neg (by simp)]
      go_wp2
      go_ret
      exact ⟨rfl, HB0.out.trans (HB2.out.mono (by omega))⟩
    · have hmay : a.may = true := by simpa [newOk] using hnew
      have hgB : W0.heap.size ≤ g := by have := hg (by simp); have := HB1.out.size; simp at *; omega
      have htB : W0.heap.size ≤ t := by have := HB1.out.size; simp at ht; omega
      have HT : Hid (Tab w2 t g c [prOf a]) := Lib.hid hT
      have hao := ok_fresh hmay
      obtain ⟨hpr1, hpr2⟩ : 1 ≤ a.pri ∧ a.pri ≤ 63 := hao.pri
      obtain ⟨hpe1, hpe2⟩ : 0 ≤ a.per ∧ a.per ≤ 1048576 := hao.per
      obtain ⟨hca1, hca2⟩ : 0 ≤ a.cap ∧ a.cap ≤ 1048576 := hao.cap
      obtain ⟨hdl1, hdl2⟩ : 0 ≤ a.dl ∧ a.dl ≤ 1048576 := hao.dl
      obtain ⟨hof1, hof2⟩ : 0 ≤ a.off ∧ a.off ≤ 1048576 := hao.off
      have HMAY := Lib.hid hmay
      clear hT ht hg hnew hao hmay
      obtain ⟨p, hact, hinv⟩ := hold_start a s HMAY.out ⟨hs1, hs2⟩
      have HACT := Lib.hid hact
      have HINV := Lib.hid hinv
      clear hact hinv
      go_wp2_with fail
      refine (start_is 0 s HACT.out HT.out (one_ok (ok_fresh HMAY.out))).mono ?_
      rintro e w3 ⟨rfl, hT3, hA3⟩
      have HT3 := Lib.hid hT3
      have hb3 : Below W0.heap.size W0 w3 := HB2.out.trans ((hA3.mono HB2.out.size).below hgB)
      have hc3 : ∀ j, w3.cell? ⟨w.heap.size, j, none⟩ = (#[.int .i64 a.pri, .int .i64 a.per, .int .i64 a.cap, .int .i64 a.dl, .int .i64 a.off] : Array Value)[j]? := fun j => (hb3.cell (p := ⟨w.heap.size, j, none⟩) hw0).trans (hc0 j)
      have HB3 := Lib.hid hb3
      clear hT3 hA3 hb3 hc2 hc3
      go_wp2_with fail
      refine (clone_any t g c [p] _ HT3.out).mono ?_
      rintro e w4 ⟨t2, g2, c2, rfl, hC4, ht2, hg2, hb4⟩
      have hg3 : g < w3.heap.size := HT3.out.glt (by simp)
      have ht3 : t < w3.heap.size := HT3.out.lt
      have hg2' : w3.heap.size ≤ g2 := hg2 (by simp)
      have hw3 : W0.heap.size ≤ w3.heap.size := HB3.out.size
      have hg2B : W0.heap.size ≤ g2 := by omega
      have ne1 : t ≠ g2 := by omega
      have ne2 : t2 ≠ g := by omega
      have ne3 : g ≠ g2 := by omega
      have ne4 : g2 ≠ g := by omega
      have HT4 := Lib.hid (HT3.out.below hb4)
      have HC4 := Lib.hid hC4
      have HB4 : Hid (Below W0.heap.size W0 w4) := HB3.out.trans (hb4.mono HB3.out.size)
      clear hC4 hb4 ht2 hg2 hg2' hg3 ht3 hw3
      go_wp2_with fail
      refine (susp_is 0 (hold_susp HINV.out) HC4.out (one_ok HINV.out.ok)).mono ?_
      rintro e w5 ⟨rfl, hX5, hA5⟩
      have HC5 := Lib.hid hX5
      have HT5 := Lib.hid (HT4.out.apart hA5 ne1 ne3)
      have HB5 : Hid (Below W0.heap.size W0 w5) := HB4.out.trans ((hA5.mono HB4.out.size).below hg2B)
      clear hX5 hA5
      go_wp2_with fail
      refine (state_is 0 (k := 4) hold_state HC5.out).mono ?_
      rintro e w6 ⟨rfl, hb6⟩
      have HT6 := Lib.hid (HT5.out.below hb6)
      have HC6 := Lib.hid (HC5.out.below hb6)
      have HB6 : Hid (Below W0.heap.size W0 w6) := HB5.out.trans (hb6.mono HB5.out.size)
      clear hb6
      go_wp2_with fail
      refine (same_is (b := false) (hold_differ HINV.out) HC6.out HT6.out).mono ?_
      rintro e w7 ⟨rfl, hb7⟩
      have HT7 := Lib.hid (HT6.out.below hb7)
      have HC7 := Lib.hid (HC6.out.below hb7)
      have HB7 : Hid (Below W0.heap.size W0 w7) := HB6.out.trans (hb7.mono HB6.out.size)
      clear hb7
      go_wp2_with fail
      go_loopw [65] (fun s65 wr => ∃ (k : Nat) (q : Pr), k ≤ n ∧ s65 = .int .i64 k ∧ HInv q ∧ Tab wr t g c [q] ∧ Tab wr t2 g2 c2 [holdP q] ∧ Below W0.heap.size W0 wr) (fun i _ => n - (intOf i).toNat)
      case atStart => exact ⟨0, p, Nat.zero_le _, rfl, HINV.out, HT7.out, HC7.out, HB7.out⟩
      case round =>
        obtain ⟨k, q, hk, rfl, hq, hTr, hCr, hbr⟩ := hrel
        have hbs := hbr.size
        have HBr := Lib.hid hbr
        have HTr := Lib.hid hTr
        have HCr := Lib.hid hCr
        have HQ := Lib.hid hq
        clear hbr hTr hCr hq
        by_cases hlt : k < n
        · obtain ⟨b, o, rfl, hbl, hel⟩ := HA.out (by have := HN.out; omega)
          obtain ⟨x, hxk⟩ : ∃ x, l[k]? = some x := ⟨_, List.getElem?_eq_getElem (by have := HN.out; omega)⟩
          obtain ⟨he0, he1, he2, hd1, hd2⟩ := hel k x hxk
          have e0 := (HBr.out.cell (p := ⟨b, o + k * 3, none⟩) (by show b < W0.heap.size; omega)).trans ((HB0.out.cell (p := ⟨b, o + k * 3, none⟩) hbl).trans he0)
          have e1 := (HBr.out.cell (p := ⟨b, o + k * 3 + 1, none⟩) (by show b < W0.heap.size; omega)).trans ((HB0.out.cell (p := ⟨b, o + k * 3 + 1, none⟩) hbl).trans he1)
          have e2 := (HBr.out.cell (p := ⟨b, o + k * 3 + 2, none⟩) (by show b < W0.heap.size; omega)).trans ((HB0.out.cell (p := ⟨b, o + k * 3 + 2, none⟩) hbl).trans he2)
          obtain ⟨xd, xi, xn⟩ := x
          dsimp only at e0 e1 e2 hd1 hd2
          clear hel hxk he0 he1 he2
          have hbl2 : b < wr.heap.size := by omega
          have hcs : xd % 6 = 0 ∨ xd % 6 = 1 ∨ xd % 6 = 2 ∨ xd % 6 = 3 ∨ xd % 6 = 4 ∨ xd % 6 = 5 := by omega
          rcases hcs with hm | hm | hm | hm | hm | hm
          · have HQ2 := Lib.hid (blind_inv blind_wake HQ.out)
            go_wp2_with fail
            obtain ⟨wq, hwq⟩ : ∃ wq, wq = wr.alloc (.cells #[.int .u8 xd, .int .i64 xi, .int .i64 xn] 52) := ⟨_, rfl⟩
            rw [← hwq]
            have HTq : Hid (Tab wq t g c [q]) := by rw [hwq]; exact HTr.out.alloc _
            have HCq : Hid (Tab wq t2 g2 c2 [holdP q]) := by rw [hwq]; exact HCr.out.alloc _
            have HBq : Hid (Below W0.heap.size W0 wq) := by rw [hwq]; exact HBr.out.alloc HBr.out.size _
            clear hwq e0 e1 e2
            go_wp2_with fail
            refine (wake_is 0 (act_step _ _ q) HTq.out (one_ok HQ.out.ok)).mono ?_
            rintro e ws ⟨rfl, hXs, hAs⟩
            have HTs := Lib.hid hXs
            have HCs := Lib.hid (HCq.out.apart hAs ne2 ne4)
            have HBs : Hid (Below W0.heap.size W0 ws) := HBq.out.trans ((hAs.mono HBq.out.size).below hgB)
            clear hXs hAs
            go_wp2_with fail
            refine (wake_is 0 (blind_act blind_wake q) HCs.out (one_ok (hold_ok HQ.out))).mono ?_
            rintro e wu ⟨rfl, hXu, hAu⟩
            have HCu := Lib.hid hXu
            have HTu := Lib.hid (HTs.out.apart hAu ne1 ne3)
            have HBu : Hid (Below W0.heap.size W0 wu) := HBs.out.trans ((hAu.mono HBs.out.size).below hg2B)
            clear hXu hAu
            go_wp2_with fail
            refine (state_is 0 (k := 4) hold_state HCu.out).mono ?_
            rintro e wv ⟨rfl, hbv⟩
            have HTv := Lib.hid (HTu.out.below hbv)
            have HCv := Lib.hid (HCu.out.below hbv)
            have HBv : Hid (Below W0.heap.size W0 wv) := HBu.out.trans (hbv.mono HBu.out.size)
            clear hbv
            go_wp2_with fail
            refine (wait_is 0 5 (hold_wait HQ2.out) HCv.out (one_ok (hold_ok HQ2.out))).mono ?_
            rintro e wx ⟨rfl, hXx, hAx⟩
            have HCx := Lib.hid hXx
            have HTx := Lib.hid (HTv.out.apart hAx ne1 ne3)
            have HBx : Hid (Below W0.heap.size W0 wx) := HBv.out.trans ((hAx.mono HBv.out.size).below hg2B)
            clear hXx hAx
            go_wp2_with fail
            refine (susp_is 0 (hold_susp2 HQ2.out) HCx.out (one_ok (hold_ok HQ2.out))).mono ?_
            rintro e wy ⟨rfl, hXy, hAy⟩
            have HCy := Lib.hid hXy
            have HTy := Lib.hid (HTx.out.apart hAy ne1 ne3)
            have HBy : Hid (Below W0.heap.size W0 wy) := HBx.out.trans ((hAy.mono HBx.out.size).below hg2B)
            clear hXy hAy
            go_wp2
            go_roundw
            case rel => exact ⟨k + 1, _, by omega, by go_num, HQ2.out, HTy.out, HCy.out, HBy.out⟩
            case measure => simp [intOf]; omega
          · have HQ2 := Lib.hid (blind_inv (blind_rele xn) HQ.out)
            go_wp2_with fail
            obtain ⟨wq, hwq⟩ : ∃ wq, wq = wr.alloc (.cells #[.int .u8 xd, .int .i64 xi, .int .i64 xn] 52) := ⟨_, rfl⟩
            rw [← hwq]
            have HTq : Hid (Tab wq t g c [q]) := by rw [hwq]; exact HTr.out.alloc _
            have HCq : Hid (Tab wq t2 g2 c2 [holdP q]) := by rw [hwq]; exact HCr.out.alloc _
            have HBq : Hid (Below W0.heap.size W0 wq) := by rw [hwq]; exact HBr.out.alloc HBr.out.size _
            clear hwq e0 e1 e2
            go_wp2_with fail
            refine (rele_is 0 xn (act_step _ _ q) HTq.out (one_ok HQ.out.ok)).mono ?_
            rintro e ws ⟨rfl, hXs, hAs⟩
            have HTs := Lib.hid hXs
            have HCs := Lib.hid (HCq.out.apart hAs ne2 ne4)
            have HBs : Hid (Below W0.heap.size W0 ws) := HBq.out.trans ((hAs.mono HBq.out.size).below hgB)
            clear hXs hAs
            go_wp2_with fail
            refine (rele_is 0 xn (blind_act (blind_rele xn) q) HCs.out (one_ok (hold_ok HQ.out))).mono ?_
            rintro e wu ⟨rfl, hXu, hAu⟩
            have HCu := Lib.hid hXu
            have HTu := Lib.hid (HTs.out.apart hAu ne1 ne3)
            have HBu : Hid (Below W0.heap.size W0 wu) := HBs.out.trans ((hAu.mono HBs.out.size).below hg2B)
            clear hXu hAu
            go_wp2_with fail
            refine (state_is 0 (k := 4) hold_state HCu.out).mono ?_
            rintro e wv ⟨rfl, hbv⟩
            have HTv := Lib.hid (HTu.out.below hbv)
            have HCv := Lib.hid (HCu.out.below hbv)
            have HBv : Hid (Below W0.heap.size W0 wv) := HBu.out.trans (hbv.mono HBu.out.size)
            clear hbv
            go_wp2_with fail
            refine (wait_is 0 5 (hold_wait HQ2.out) HCv.out (one_ok (hold_ok HQ2.out))).mono ?_
            rintro e wx ⟨rfl, hXx, hAx⟩
            have HCx := Lib.hid hXx
            have HTx := Lib.hid (HTv.out.apart hAx ne1 ne3)
            have HBx : Hid (Below W0.heap.size W0 wx) := HBv.out.trans ((hAx.mono HBv.out.size).below hg2B)
            clear hXx hAx
            go_wp2_with fail
            refine (susp_is 0 (hold_susp2 HQ2.out) HCx.out (one_ok (hold_ok HQ2.out))).mono ?_
            rintro e wy ⟨rfl, hXy, hAy⟩
            have HCy := Lib.hid hXy
            have HTy := Lib.hid (HTx.out.apart hAy ne1 ne3)
            have HBy : Hid (Below W0.heap.size W0 wy) := HBx.out.trans ((hAy.mono HBx.out.size).below hg2B)
            clear hXy hAy
            go_wp2
            go_roundw
            case rel => exact ⟨k + 1, _, by omega, by go_num, HQ2.out, HTy.out, HCy.out, HBy.out⟩
            case measure => simp [intOf]; omega
          · have HQ2 := Lib.hid (blind_inv (blind_charge xn) HQ.out)
            go_wp2_with fail
            obtain ⟨wq, hwq⟩ : ∃ wq, wq = wr.alloc (.cells #[.int .u8 xd, .int .i64 xi, .int .i64 xn] 52) := ⟨_, rfl⟩
            rw [← hwq]
            have HTq : Hid (Tab wq t g c [q]) := by rw [hwq]; exact HTr.out.alloc _
            have HCq : Hid (Tab wq t2 g2 c2 [holdP q]) := by rw [hwq]; exact HCr.out.alloc _
            have HBq : Hid (Below W0.heap.size W0 wq) := by rw [hwq]; exact HBr.out.alloc HBr.out.size _
            clear hwq e0 e1 e2
            go_wp2_with fail
            refine (charge_is 0 xn (act_step _ _ q) rfl HTq.out (one_ok HQ.out.ok)).mono ?_
            rintro e ws ⟨rfl, hXs, hAs⟩
            have HTs := Lib.hid hXs
            have HCs := Lib.hid (HCq.out.apart hAs ne2 ne4)
            have HBs : Hid (Below W0.heap.size W0 ws) := HBq.out.trans ((hAs.mono HBq.out.size).below hgB)
            clear hXs hAs
            go_wp2_with fail
            refine (charge_is 0 xn (blind_act (blind_charge xn) q) (charge_hold q xn) HCs.out (one_ok (hold_ok HQ.out))).mono ?_
            rintro e wu ⟨rfl, hXu, hAu⟩
            have HCu := Lib.hid hXu
            have HTu := Lib.hid (HTs.out.apart hAu ne1 ne3)
            have HBu : Hid (Below W0.heap.size W0 wu) := HBs.out.trans ((hAu.mono HBs.out.size).below hg2B)
            clear hXu hAu
            go_wp2_with fail
            refine (state_is 0 (k := 4) hold_state HCu.out).mono ?_
            rintro e wv ⟨rfl, hbv⟩
            have HTv := Lib.hid (HTu.out.below hbv)
            have HCv := Lib.hid (HCu.out.below hbv)
            have HBv : Hid (Below W0.heap.size W0 wv) := HBu.out.trans (hbv.mono HBu.out.size)
            clear hbv
            go_wp2_with fail
            refine (wait_is 0 5 (hold_wait HQ2.out) HCv.out (one_ok (hold_ok HQ2.out))).mono ?_
            rintro e wx ⟨rfl, hXx, hAx⟩
            have HCx := Lib.hid hXx
            have HTx := Lib.hid (HTv.out.apart hAx ne1 ne3)
            have HBx : Hid (Below W0.heap.size W0 wx) := HBv.out.trans ((hAx.mono HBv.out.size).below hg2B)
            clear hXx hAx
            go_wp2_with fail
            refine (susp_is 0 (hold_susp2 HQ2.out) HCx.out (one_ok (hold_ok HQ2.out))).mono ?_
            rintro e wy ⟨rfl, hXy, hAy⟩
            have HCy := Lib.hid hXy
            have HTy := Lib.hid (HTx.out.apart hAy ne1 ne3)
            have HBy : Hid (Below W0.heap.size W0 wy) := HBx.out.trans ((hAy.mono HBx.out.size).below hg2B)
            clear hXy hAy
            go_wp2
            go_roundw
            case rel => exact ⟨k + 1, _, by omega, by go_num, HQ2.out, HTy.out, HCy.out, HBy.out⟩
            case measure => simp [intOf]; omega
          · have HQ2 := Lib.hid (blind_inv (blind_setp xn) HQ.out)
            go_wp2_with fail
            obtain ⟨wq, hwq⟩ : ∃ wq, wq = wr.alloc (.cells #[.int .u8 xd, .int .i64 xi, .int .i64 xn] 52) := ⟨_, rfl⟩
            rw [← hwq]
            have HTq : Hid (Tab wq t g c [q]) := by rw [hwq]; exact HTr.out.alloc _
            have HCq : Hid (Tab wq t2 g2 c2 [holdP q]) := by rw [hwq]; exact HCr.out.alloc _
            have HBq : Hid (Below W0.heap.size W0 wq) := by rw [hwq]; exact HBr.out.alloc HBr.out.size _
            clear hwq e0 e1 e2
            go_wp2_with fail
            refine (setp_is 0 xn (act_step _ _ q) HTq.out (one_ok HQ.out.ok)).mono ?_
            rintro e ws ⟨rfl, hXs, hAs⟩
            have HTs := Lib.hid hXs
            have HCs := Lib.hid (HCq.out.apart hAs ne2 ne4)
            have HBs : Hid (Below W0.heap.size W0 ws) := HBq.out.trans ((hAs.mono HBq.out.size).below hgB)
            clear hXs hAs
            go_wp2_with fail
            refine (setp_is 0 xn (blind_act (blind_setp xn) q) HCs.out (one_ok (hold_ok HQ.out))).mono ?_
            rintro e wu ⟨rfl, hXu, hAu⟩
            have HCu := Lib.hid hXu
            have HTu := Lib.hid (HTs.out.apart hAu ne1 ne3)
            have HBu : Hid (Below W0.heap.size W0 wu) := HBs.out.trans ((hAu.mono HBs.out.size).below hg2B)
            clear hXu hAu
            go_wp2_with fail
            refine (state_is 0 (k := 4) hold_state HCu.out).mono ?_
            rintro e wv ⟨rfl, hbv⟩
            have HTv := Lib.hid (HTu.out.below hbv)
            have HCv := Lib.hid (HCu.out.below hbv)
            have HBv : Hid (Below W0.heap.size W0 wv) := HBu.out.trans (hbv.mono HBu.out.size)
            clear hbv
            go_wp2_with fail
            refine (wait_is 0 5 (hold_wait HQ2.out) HCv.out (one_ok (hold_ok HQ2.out))).mono ?_
            rintro e wx ⟨rfl, hXx, hAx⟩
            have HCx := Lib.hid hXx
            have HTx := Lib.hid (HTv.out.apart hAx ne1 ne3)
            have HBx : Hid (Below W0.heap.size W0 wx) := HBv.out.trans ((hAx.mono HBv.out.size).below hg2B)
            clear hXx hAx
            go_wp2_with fail
            refine (susp_is 0 (hold_susp2 HQ2.out) HCx.out (one_ok (hold_ok HQ2.out))).mono ?_
            rintro e wy ⟨rfl, hXy, hAy⟩
            have HCy := Lib.hid hXy
            have HTy := Lib.hid (HTx.out.apart hAy ne1 ne3)
            have HBy : Hid (Below W0.heap.size W0 wy) := HBx.out.trans ((hAy.mono HBx.out.size).below hg2B)
            clear hXy hAy
            go_wp2
            go_roundw
            case rel => exact ⟨k + 1, _, by omega, by go_num, HQ2.out, HTy.out, HCy.out, HBy.out⟩
            case measure => simp [intOf]; omega
          · have HQ2 := Lib.hid (blind_inv (blind_rais xn) HQ.out)
            go_wp2_with fail
            obtain ⟨wq, hwq⟩ : ∃ wq, wq = wr.alloc (.cells #[.int .u8 xd, .int .i64 xi, .int .i64 xn] 52) := ⟨_, rfl⟩
            rw [← hwq]
            have HTq : Hid (Tab wq t g c [q]) := by rw [hwq]; exact HTr.out.alloc _
            have HCq : Hid (Tab wq t2 g2 c2 [holdP q]) := by rw [hwq]; exact HCr.out.alloc _
            have HBq : Hid (Below W0.heap.size W0 wq) := by rw [hwq]; exact HBr.out.alloc HBr.out.size _
            clear hwq e0 e1 e2
            go_wp2_with fail
            refine (rais_is 0 xn (act_step _ _ q) HTq.out (one_ok HQ.out.ok)).mono ?_
            rintro e ws ⟨rfl, hXs, hAs⟩
            have HTs := Lib.hid hXs
            have HCs := Lib.hid (HCq.out.apart hAs ne2 ne4)
            have HBs : Hid (Below W0.heap.size W0 ws) := HBq.out.trans ((hAs.mono HBq.out.size).below hgB)
            clear hXs hAs
            go_wp2_with fail
            refine (rais_is 0 xn (blind_act (blind_rais xn) q) HCs.out (one_ok (hold_ok HQ.out))).mono ?_
            rintro e wu ⟨rfl, hXu, hAu⟩
            have HCu := Lib.hid hXu
            have HTu := Lib.hid (HTs.out.apart hAu ne1 ne3)
            have HBu : Hid (Below W0.heap.size W0 wu) := HBs.out.trans ((hAu.mono HBs.out.size).below hg2B)
            clear hXu hAu
            go_wp2_with fail
            refine (state_is 0 (k := 4) hold_state HCu.out).mono ?_
            rintro e wv ⟨rfl, hbv⟩
            have HTv := Lib.hid (HTu.out.below hbv)
            have HCv := Lib.hid (HCu.out.below hbv)
            have HBv : Hid (Below W0.heap.size W0 wv) := HBu.out.trans (hbv.mono HBu.out.size)
            clear hbv
            go_wp2_with fail
            refine (wait_is 0 5 (hold_wait HQ2.out) HCv.out (one_ok (hold_ok HQ2.out))).mono ?_
            rintro e wx ⟨rfl, hXx, hAx⟩
            have HCx := Lib.hid hXx
            have HTx := Lib.hid (HTv.out.apart hAx ne1 ne3)
            have HBx : Hid (Below W0.heap.size W0 wx) := HBv.out.trans ((hAx.mono HBv.out.size).below hg2B)
            clear hXx hAx
            go_wp2_with fail
            refine (susp_is 0 (hold_susp2 HQ2.out) HCx.out (one_ok (hold_ok HQ2.out))).mono ?_
            rintro e wy ⟨rfl, hXy, hAy⟩
            have HCy := Lib.hid hXy
            have HTy := Lib.hid (HTx.out.apart hAy ne1 ne3)
            have HBy : Hid (Below W0.heap.size W0 wy) := HBx.out.trans ((hAy.mono HBx.out.size).below hg2B)
            clear hXy hAy
            go_wp2
            go_roundw
            case rel => exact ⟨k + 1, _, by omega, by go_num, HQ2.out, HTy.out, HCy.out, HBy.out⟩
            case measure => simp [intOf]; omega
          · by_cases htk : 0 ≤ xn ∧ xn ≤ 1099511627776
            · obtain ⟨ht1, ht2⟩ := htk
              have HQ2 := Lib.hid (mark_inv xn HQ.out)
              go_wp2_with fail
              obtain ⟨wq, hwq⟩ : ∃ wq, wq = wr.alloc (.cells #[.int .u8 xd, .int .i64 xi, .int .i64 xn] 52) := ⟨_, rfl⟩
              rw [← hwq]
              have HTq : Hid (Tab wq t g c [q]) := by rw [hwq]; exact HTr.out.alloc _
              have HCq : Hid (Tab wq t2 g2 c2 [holdP q]) := by rw [hwq]; exact HCr.out.alloc _
              have HBq : Hid (Below W0.heap.size W0 wq) := by rw [hwq]; exact HBr.out.alloc HBr.out.size _
              clear hwq e0 e1 e2
              have hgq2 : g2 < wq.heap.size := HCq.out.glt (by simp)
              go_wp2_with fail
              refine (miss_from (ids := idsTo xn [q] [q].length) (ps' := [markP xn q]) xn rfl rfl ⟨ht1, ht2⟩ HTq.out (one_ok HQ.out.ok)).mono ?_
              rintro e ws ⟨As, ccs, rfl, his, hfrs, hXs, hAs⟩
              have HIs := Lib.hid his
              have HFs := Lib.hid hfrs
              have HTs := Lib.hid hXs
              have HCs := Lib.hid (HCq.out.apart hAs ne2 ne4)
              have HBs : Hid (Below W0.heap.size W0 ws) := HBq.out.trans ((hAs.mono HBq.out.size).below hgB)
              clear hXs hAs his hfrs
              go_wp2_with fail
              refine (miss_from (ids := idsTo xn [q] [q].length) (ps' := [holdP (markP xn q)]) xn (by rw [ids_one, ids_one, miss_hold]) (by rw [← mark_hold]; rfl) ⟨ht1, ht2⟩ HCs.out (one_ok (hold_ok HQ.out))).mono ?_
              rintro e wz ⟨Az, ccz, rfl, hiz, hfrz, hXz, hAz⟩
              have HIz := Lib.hid hiz
              have HFz := Lib.hid hfrz
              have HIs2 := Lib.hid (HIs.out.apart HFs.out hAz hgq2)
              have HCz := Lib.hid hXz
              have HTz := Lib.hid (HTs.out.apart hAz ne1 ne3)
              have HBz : Hid (Below W0.heap.size W0 wz) := HBs.out.trans ((hAz.mono HBs.out.size).below hg2B)
              clear hXz hAz hiz hfrz
              go_wp2_with fail
              refine (equal_is (xs := idsTo xn [q] [q].length) (ys := idsTo xn [q] [q].length) (b := true) (by simp) HIs2.out HIz.out (by rw [ids_one]; split <;> simp) rfl rfl).mono ?_
              rintro e wu ⟨rfl, hbu⟩
              have HTu := Lib.hid (HTz.out.below hbu)
              have HCu := Lib.hid (HCz.out.below hbu)
              have HBu : Hid (Below W0.heap.size W0 wu) := HBz.out.trans (hbu.mono HBz.out.size)
              clear hbu
              go_wp2_with fail
              refine (state_is 0 (k := 4) hold_state HCu.out).mono ?_
              rintro e wv ⟨rfl, hbv⟩
              have HTv := Lib.hid (HTu.out.below hbv)
              have HCv := Lib.hid (HCu.out.below hbv)
              have HBv : Hid (Below W0.heap.size W0 wv) := HBu.out.trans (hbv.mono HBu.out.size)
              clear hbv
              go_wp2_with fail
              refine (wait_is 0 5 (hold_wait HQ2.out) HCv.out (one_ok (hold_ok HQ2.out))).mono ?_
              rintro e wx ⟨rfl, hXx, hAx⟩
              have HCx := Lib.hid hXx
              have HTx := Lib.hid (HTv.out.apart hAx ne1 ne3)
              have HBx : Hid (Below W0.heap.size W0 wx) := HBv.out.trans ((hAx.mono HBv.out.size).below hg2B)
              clear hXx hAx
              go_wp2_with fail
              refine (susp_is 0 (hold_susp2 HQ2.out) HCx.out (one_ok (hold_ok HQ2.out))).mono ?_
              rintro e wy ⟨rfl, hXy, hAy⟩
              have HCy := Lib.hid hXy
              have HTy := Lib.hid (HTx.out.apart hAy ne1 ne3)
              have HBy : Hid (Below W0.heap.size W0 wy) := HBx.out.trans ((hAy.mono HBx.out.size).below hg2B)
              clear hXy hAy
              go_wp2
              go_roundw
              case rel => exact ⟨k + 1, _, by omega, by go_num, HQ2.out, HTy.out, HCy.out, HBy.out⟩
              case measure => simp [intOf]; omega
            · have hcs2 : xn < 0 ∨ (0 ≤ xn ∧ 1099511627776 < xn) := by omega
              rcases hcs2 with hneg | ⟨hpos, hbig⟩
              all_goals
                have HQ2 := HQ
                clear htk
                go_wp2_with fail
                obtain ⟨wq, hwq⟩ : ∃ wq, wq = wr.alloc (.cells #[.int .u8 xd, .int .i64 xi, .int .i64 xn] 52) := ⟨_, rfl⟩
                rw [← hwq]
                have HTq : Hid (Tab wq t g c [q]) := by rw [hwq]; exact HTr.out.alloc _
                have HCq : Hid (Tab wq t2 g2 c2 [holdP q]) := by rw [hwq]; exact HCr.out.alloc _
                have HBq : Hid (Below W0.heap.size W0 wq) := by rw [hwq]; exact HBr.out.alloc HBr.out.size _
                clear hwq e0 e1 e2
                go_wp2_with fail
                refine (state_is 0 (k := 4) hold_state HCq.out).mono ?_
                rintro e wv ⟨rfl, hbv⟩
                have HTv := Lib.hid (HTq.out.below hbv)
                have HCv := Lib.hid (HCq.out.below hbv)
                have HBv : Hid (Below W0.heap.size W0 wv) := HBq.out.trans (hbv.mono HBq.out.size)
                clear hbv
                go_wp2_with fail
                refine (wait_is 0 5 (hold_wait HQ2.out) HCv.out (one_ok (hold_ok HQ2.out))).mono ?_
                rintro e wx ⟨rfl, hXx, hAx⟩
                have HCx := Lib.hid hXx
                have HTx := Lib.hid (HTv.out.apart hAx ne1 ne3)
                have HBx : Hid (Below W0.heap.size W0 wx) := HBv.out.trans ((hAx.mono HBv.out.size).below hg2B)
                clear hXx hAx
                go_wp2_with fail
                refine (susp_is 0 (hold_susp2 HQ2.out) HCx.out (one_ok (hold_ok HQ2.out))).mono ?_
                rintro e wy ⟨rfl, hXy, hAy⟩
                have HCy := Lib.hid hXy
                have HTy := Lib.hid (HTx.out.apart hAy ne1 ne3)
                have HBy : Hid (Below W0.heap.size W0 wy) := HBx.out.trans ((hAy.mono HBx.out.size).below hg2B)
                clear hXy hAy
                go_wp2
                go_roundw
                case rel => exact ⟨k + 1, _, by omega, by go_num, HQ2.out, HTy.out, HCy.out, HBy.out⟩
                case measure => simp [intOf]; omega
        · go_wp2_with fail
          refine (resu_is 0 (hold_resu HQ.out) HCr.out (one_ok (hold_ok HQ.out))).mono ?_
          rintro e w5 ⟨rfl, hC5, hA5⟩
          have HT5 := Lib.hid (HTr.out.apart hA5 ne1 ne3)
          have HC5 := Lib.hid hC5
          have HB5 : Hid (Below W0.heap.size W0 w5) := HBr.out.trans ((hA5.mono HBr.out.size).below hg2B)
          clear hC5 hA5
          go_wp2_with fail
          refine (same_is (b := true) (same_self _) HC5.out HT5.out).mono ?_
          rintro e w6 ⟨rfl, hb6⟩
          have HT6 := Lib.hid (HT5.out.below hb6)
          have HC6 := Lib.hid (HC5.out.below hb6)
          have HB6 : Hid (Below W0.heap.size W0 w6) := HB5.out.trans (hb6.mono HB5.out.size)
          clear hb6
          go_wp2_with fail
          refine (same_is (b := true) (same_self _) HT6.out HC6.out).mono ?_
          rintro e w7 ⟨rfl, hb7⟩
          have HT7 := Lib.hid (HT6.out.below hb7)
          have HC7 := Lib.hid (HC6.out.below hb7)
          have HB7 : Hid (Below W0.heap.size W0 w7) := HB6.out.trans (hb7.mono HB6.out.size)
          clear hb7
          go_wp2
          go_ret
          exact ⟨rfl, HB0.out.trans (HB7.out.mono (by omega))⟩

end Go.Proofs.Ytgnjenmicojgnaa
