/-
  The contracts with the outcome named; the document's example is answered true.
-/
import Derived.Test.YtgnjenmicojgnaaB5
namespace Go.Proofs.Ytgnjenmicojgnaa
set_option linter.unusedVariables false
set_option linter.unusedSimpArgs false
open Go.RowKit

theorem start_is {t g c : Nat} {ps ps' : List Pr} (i : Int) (n : Int) {k : Int} {w : World} (h : act (startF n) (tickB n) ps i = (ps', k)) (hT : Tab w t g c ps) (hok : ∀ p, p ∈ ps → p.Ok) :
    Calls Try.prog 13 #[.pointer (some ⟨t, 0, none⟩), .int .i64 i, .int .i64 n] w fun e w' => e = .returned (.int .i64 k) ∧ Tab w' t g c ps' ∧ Apart w.heap.size w w' g := by
  have := start_any t g c ps i n w hT hok
  rw [h] at this
  exact this

theorem stop_is {t g c : Nat} {ps ps' : List Pr} (i : Int) {k : Int} {w : World} (h : act stopF true ps i = (ps', k)) (hT : Tab w t g c ps) (hok : ∀ p, p ∈ ps → p.Ok) :
    Calls Try.prog 33 #[.pointer (some ⟨t, 0, none⟩), .int .i64 i] w fun e w' => e = .returned (.int .i64 k) ∧ Tab w' t g c ps' ∧ Apart w.heap.size w w' g := by
  have := stop_any t g c ps i w hT hok
  rw [h] at this
  exact this

theorem susp_is {t g c : Nat} {ps ps' : List Pr} (i : Int) {k : Int} {w : World} (h : act suspF true ps i = (ps', k)) (hT : Tab w t g c ps) (hok : ∀ p, p ∈ ps → p.Ok) :
    Calls Try.prog 27 #[.pointer (some ⟨t, 0, none⟩), .int .i64 i] w fun e w' => e = .returned (.int .i64 k) ∧ Tab w' t g c ps' ∧ Apart w.heap.size w w' g := by
  have := susp_any t g c ps i w hT hok
  rw [h] at this
  exact this

theorem resu_is {t g c : Nat} {ps ps' : List Pr} (i : Int) {k : Int} {w : World} (h : act resuF true ps i = (ps', k)) (hT : Tab w t g c ps) (hok : ∀ p, p ∈ ps → p.Ok) :
    Calls Try.prog 32 #[.pointer (some ⟨t, 0, none⟩), .int .i64 i] w fun e w' => e = .returned (.int .i64 k) ∧ Tab w' t g c ps' ∧ Apart w.heap.size w w' g := by
  have := resu_any t g c ps i w hT hok
  rw [h] at this
  exact this

theorem wait_is {t g c : Nat} {ps ps' : List Pr} (i : Int) (n : Int) {k : Int} {w : World} (h : act (waitF n) (decide (n ≤ 1099511627776)) ps i = (ps', k)) (hT : Tab w t g c ps) (hok : ∀ p, p ∈ ps → p.Ok) :
    Calls Try.prog 31 #[.pointer (some ⟨t, 0, none⟩), .int .i64 i, .int .i64 n] w fun e w' => e = .returned (.int .i64 k) ∧ Tab w' t g c ps' ∧ Apart w.heap.size w w' g := by
  have := wait_any t g c ps i n w hT hok
  rw [h] at this
  exact this

theorem wake_is {t g c : Nat} {ps ps' : List Pr} (i : Int) {k : Int} {w : World} (h : act wakeF true ps i = (ps', k)) (hT : Tab w t g c ps) (hok : ∀ p, p ∈ ps → p.Ok) :
    Calls Try.prog 28 #[.pointer (some ⟨t, 0, none⟩), .int .i64 i] w fun e w' => e = .returned (.int .i64 k) ∧ Tab w' t g c ps' ∧ Apart w.heap.size w w' g := by
  have := wake_any t g c ps i w hT hok
  rw [h] at this
  exact this

theorem rele_is {t g c : Nat} {ps ps' : List Pr} (i : Int) (n : Int) {k : Int} {w : World} (h : act (releF n) (tickB n) ps i = (ps', k)) (hT : Tab w t g c ps) (hok : ∀ p, p ∈ ps → p.Ok) :
    Calls Try.prog 16 #[.pointer (some ⟨t, 0, none⟩), .int .i64 i, .int .i64 n] w fun e w' => e = .returned (.int .i64 k) ∧ Tab w' t g c ps' ∧ Apart w.heap.size w w' g := by
  have := rele_any t g c ps i n w hT hok
  rw [h] at this
  exact this

theorem setp_is {t g c : Nat} {ps ps' : List Pr} (i : Int) (n : Int) {k : Int} {w : World} (h : act (setpF n) (inB n 1 63) ps i = (ps', k)) (hT : Tab w t g c ps) (hok : ∀ p, p ∈ ps → p.Ok) :
    Calls Try.prog 29 #[.pointer (some ⟨t, 0, none⟩), .int .i64 i, .int .i64 n] w fun e w' => e = .returned (.int .i64 k) ∧ Tab w' t g c ps' ∧ Apart w.heap.size w w' g := by
  have := setp_any t g c ps i n w hT hok
  rw [h] at this
  exact this

theorem rais_is {t g c : Nat} {ps ps' : List Pr} (i : Int) (n : Int) {k : Int} {w : World} (h : act (raisF n) (inB n 0 63) ps i = (ps', k)) (hT : Tab w t g c ps) (hok : ∀ p, p ∈ ps → p.Ok) :
    Calls Try.prog 30 #[.pointer (some ⟨t, 0, none⟩), .int .i64 i, .int .i64 n] w fun e w' => e = .returned (.int .i64 k) ∧ Tab w' t g c ps' ∧ Apart w.heap.size w w' g := by
  have := rais_any t g c ps i n w hT hok
  rw [h] at this
  exact this

theorem done_is {t g c : Nat} {ps ps' : List Pr} (i n : Int) {k x : Int} {w : World} (h : act (doneF n) (tickB n) ps i = (ps', k)) (hx : doneR ps i n = x) (hT : Tab w t g c ps) (hok : ∀ p, p ∈ ps → p.Ok) :
    Calls Try.prog 17 #[.pointer (some ⟨t, 0, none⟩), .int .i64 i, .int .i64 n] w fun e w' => e = .returned (.tuple #[.int .i64 x, .int .i64 k]) ∧ Tab w' t g c ps' ∧ Apart w.heap.size w w' g := by
  have := done_any t g c ps i n w hT hok
  rw [h, hx] at this
  exact this

theorem charge_is {t g c : Nat} {ps ps' : List Pr} (i n : Int) {k x : Int} {w : World} (h : act (chargeF n) (tickB n) ps i = (ps', k)) (hx : chargeR ps i n = x) (hT : Tab w t g c ps) (hok : ∀ p, p ∈ ps → p.Ok) :
    Calls Try.prog 18 #[.pointer (some ⟨t, 0, none⟩), .int .i64 i, .int .i64 n] w fun e w' => e = .returned (.int .i64 x) ∧ Tab w' t g c ps' ∧ Apart w.heap.size w w' g := by
  have := charge_any t g c ps i n w hT hok
  rw [h, hx] at this
  exact this

theorem state_is {t g c : Nat} {ps : List Pr} (i : Int) {k : Int} {w : World} (h : stateR (lookP ps i) = k) (hT : Tab w t g c ps) :
    Calls Try.prog 14 #[.pointer (some ⟨t, 0, none⟩), .int .i64 i] w fun e w' => e = .returned (.int .i64 k) ∧ Below w.heap.size w w' := by
  subst h; exact state_any t g c ps i w hT

theorem until_is {t g c : Nat} {ps : List Pr} (i : Int) {k : Int} {b : Bool} {w : World} (h : untilR (lookP ps i) = k) (hb : untilB (lookP ps i) = b) (hT : Tab w t g c ps) :
    Calls Try.prog 15 #[.pointer (some ⟨t, 0, none⟩), .int .i64 i] w fun e w' => e = .returned (.tuple #[.int .i64 k, .bool b]) ∧ Below w.heap.size w w' := by
  subst h hb; exact until_any t g c ps i w hT

def spQ (st til beg : Int) : Pr := ⟨1, 10, 0, 0, 0, st, false, if st = 0 then 0 else 1, 0, til, beg, 0, false⟩
theorem spQ_ok (st til beg : Int) (h : st = 0 ∧ til = 0 ∧ beg = 0 ∨ st = 1 ∧ 0 ≤ til ∧ til ≤ 100 ∧ 0 ≤ beg ∧ beg ≤ 100 ∨ st = 3 ∧ 0 ≤ til ∧ til ≤ 100 ∧ beg = 0) : ∀ p, p ∈ [spQ st til beg] → p.Ok := by
  intro p hp
  rw [List.mem_singleton] at hp
  subst hp
  unfold spQ
  rcases h with ⟨rfl, rfl, rfl⟩ | ⟨rfl, h1⟩ | ⟨rfl, h1, h2, rfl⟩ <;> constructor <;> simp <;> omega

set_option maxRecDepth 100000 in
set_option maxHeartbeats 1000000 in
theorem speaks_any (w : World) : Calls Try.prog 11 #[] w fun e w' => e = .returned (.bool true) ∧ Below w.heap.size w w' := by
  go_enter Try.func11, Try.ntmps11
  go_wp2_with fail
  refine (new_any (some ⟨w.heap.size, 0, none⟩) 1 1 [⟨1, 10, 0, 0, 0⟩] _ rfl ?_ (by omega)).mono ?_
  · intro _
    refine ⟨w.heap.size, 0, rfl, by simp, fun k a hk => ?_⟩
    match k, hk with
    | 0, hk =>
      simp at hk
      subst hk
      constructor <;> simp
  rintro e w1 ⟨h | h, hb1⟩
  rotate_left
  · exact absurd h.1 (by decide)
  obtain ⟨-, t, g, c, rfl, hT1, ht, hg⟩ := h
  have hg : w.heap.size ≤ g := by have := hg (by decide); simp at this; omega
  have HB1 : Hid (Below w.heap.size w w1) := ((Below.refl _ _).alloc (Nat.le_refl _) _).trans (hb1.mono (by simp))
  have HT1 := Lib.hid hT1
  clear hb1 hT1 ht
  go_wp2_with fail
  refine (start_is (ps' := [spQ 1 0 3]) 0 3 (k := 0) rfl HT1.out (spQ_ok 0 0 0 (by omega))).mono ?_
  rintro e w2 ⟨rfl, hT2, hA2⟩
  have HB2 : Hid (Below w.heap.size w w2) := HB1.out.trans ((hA2.mono HB1.out.size).below hg)
  have HT2 := Lib.hid hT2
  clear hT2 hA2
  go_wp2_with fail
  refine (done_is (ps' := [spQ 3 13 0]) 0 5 (k := 0) (x := 13) rfl rfl HT2.out (spQ_ok 1 0 3 (by omega))).mono ?_
  rintro e w3 ⟨rfl, hT3, hA3⟩
  have HB3 : Hid (Below w.heap.size w w3) := HB2.out.trans ((hA3.mono HB2.out.size).below hg)
  have HT3 := Lib.hid hT3
  clear hT3 hA3
  go_wp2_with fail
  refine (rele_is (ps' := [spQ 1 13 13]) 0 13 (k := 0) rfl HT3.out (spQ_ok 3 13 0 (by omega))).mono ?_
  rintro e w4 ⟨rfl, hT4, hA4⟩
  have HB4 : Hid (Below w.heap.size w w4) := HB3.out.trans ((hA4.mono HB3.out.size).below hg)
  have HT4 := Lib.hid hT4
  clear hT4 hA4
  go_wp2_with fail
  refine (done_is (ps' := [spQ 1 13 23]) 0 25 (k := 0) (x := 23) rfl rfl HT4.out (spQ_ok 1 13 13 (by omega))).mono ?_
  rintro e w5 ⟨rfl, hT5, hA5⟩
  have HB5 : Hid (Below w.heap.size w w5) := HB4.out.trans ((hA5.mono HB4.out.size).below hg)
  have HT5 := Lib.hid hT5
  clear hT5 hA5
  go_wp2_with fail
  refine (state_is 0 (k := 1) rfl HT5.out).mono ?_
  rintro e w6 ⟨rfl, hb6⟩
  have HB6 : Hid (Below w.heap.size w w6) := HB5.out.trans (hb6.mono HB5.out.size)
  clear hb6
  go_wp2
  go_ret
  exact ⟨rfl, HB6.out⟩

end Go.Proofs.Ytgnjenmicojgnaa
