/-
  What told answers of a table and a slice of the document that say the same: true.
-/
import Derived.Test.YtgnjenmicojgnaaF0
import Derived.Test.YtgnjenmicojgnaaE3
import Derived.Test.YtgnjenmicojgnaaC2
namespace Go.Proofs.Ytgnjenmicojgnaa
set_option linter.unusedVariables false
set_option linter.unusedSimpArgs false
open Go.RowKit

def RelL (ps : List Pr) (rs : List Rf) : Prop := ps.length = rs.length ∧ ∀ (i : Nat) (p : Pr) (r : Rf), ps[i]? = some p → rs[i]? = some r → Rel p r

theorem rel_state {p : Pr} {r : Rf} (hp : p.Ok) (h : Rel p r) : stateR p = rstate r := by
  unfold stateR rstate
  rw [h.st, h.held]
  by_cases h0 : p.st = 0
  · rw [(hp.dorm h0).1]; simp
  · cases p.held <;> simp [h0]
theorem rel_base {p : Pr} {r : Rf} (h : Rel p r) : baseR p = r.base := h.base.symm
theorem rel_cur {p : Pr} {r : Rf} (h : Rel p r) : curR p = rcur r := by
  unfold curR rcur
  rw [rel_base h, h.raised]
  split <;> omega
theorem rel_until {p : Pr} {r : Rf} (hp : p.Ok) (h : Rel p r) : untilB p = runtilB r ∧ untilR p = runtil r := by
  have ht := hp.til
  have hst := hp.st
  have e : untilB p = runtilB r := by
    unfold untilB runtilB
    rw [h.st, h.til]
    by_cases h3 : p.st = 3
    · have := (hp.rest h3).2.2.2
      simp [h3, this]
    · by_cases h2 : p.st = 2
      · simp [h2]
        by_cases h1 : p.til = -1
        · simp [h1]
        · have : 0 ≤ p.til := by omega
          simp [h1, this]
      · simp [h2, h3]
  refine ⟨e, ?_⟩
  unfold runtil
  rw [← e]
  unfold untilR untilB
  by_cases h1 : p.st = 3 ∨ (p.st = 2 ∧ p.til ≠ -1)
  · rw [if_pos h1, if_pos (by simpa using h1), h.til, if_pos (by omega)]
  · rw [if_neg h1, if_neg (by simpa using h1)]
theorem rel_left {ps : List Pr} {p : Pr} {r : Rf} {k : Nat} (hk : ps[k]? = some p) (hp : p.Ok) (h : Rel p r) : leftR ps k = rleft r := by
  unfold leftR rleft rused
  have e : ((k : Int).toNat) = k := by omega
  rw [if_neg (by omega), e, hk, h.cap, h.st]
  simp only
  by_cases h0 : p.cap = 0
  · rw [if_pos h0, if_pos h0]
  · rw [if_neg h0, if_neg h0]
    by_cases h1 : p.st = 0 ∨ p.st = 3
    · rw [if_pos h1]
      rcases h1 with h1 | h1
      · rw [(hp.dorm h1).2.2.2.2.2.1]
      · rw [(hp.rest h1).2.1]
    · rw [if_neg h1, h.used (by omega)]
theorem look_at {ps : List Pr} {p : Pr} {k : Nat} (hk : ps[k]? = some p) : lookP ps k = p := by
  unfold lookP
  have e : ((k : Int).toNat) = k := by omega
  rw [if_neg (by omega), e, hk]
  rfl
theorem look_out (ps : List Pr) : lookP ps (ps.length : Int) = zeroP := by
  unfold lookP
  have e : (((ps.length : Nat) : Int).toNat) = ps.length := by omega
  rw [if_neg (by omega), e, List.getElem?_eq_none (Nat.le_refl _)]
  rfl

theorem base_is {t g c : Nat} {ps : List Pr} (i : Int) {k : Int} {w : World} (h : baseR (lookP ps i) = k) (hT : Tab w t g c ps) :
    Calls Try.prog 95 #[.pointer (some ⟨t, 0, none⟩), .int .i64 i] w fun e w' => e = .returned (.int .i64 k) ∧ Below w.heap.size w w' := by
  subst h; exact base_any t g c ps i w hT
theorem cur_is {t g c : Nat} {ps : List Pr} (i : Int) {k : Int} {w : World} (h : curR (lookP ps i) = k) (hT : Tab w t g c ps) :
    Calls Try.prog 92 #[.pointer (some ⟨t, 0, none⟩), .int .i64 i] w fun e w' => e = .returned (.int .i64 k) ∧ Below w.heap.size w w' := by
  subst h; exact cur_any t g c ps i w hT
theorem attr_is {t g c : Nat} {ps : List Pr} (i : Int) {r : Rf} {w : World} (h : Rel (lookP ps i) r) (hT : Tab w t g c ps) :
    Calls Try.prog 98 #[.pointer (some ⟨t, 0, none⟩), .int .i64 i] w fun e w' => e = .returned (.agg #[.int .i64 r.pri, .int .i64 r.per, .int .i64 r.cap, .int .i64 r.dl, .int .i64 r.off]) ∧ Below w.heap.size w w' := by
  rw [h.pri, h.per, h.cap, h.dl, h.off]; exact attr_any t g c ps i w hT
theorem rstate_bw {r : Rf} {x : Int} (h : rstate r = x) (w : World) : Calls Try.prog 94 #[.agg r.cells] w fun e w' => e = .returned (.int .i64 x) ∧ Below w.heap.size w w' := by
  subst h
  refine (rstate_any r w).mono ?_
  rintro e w' ⟨rfl, o1, rfl⟩
  exact ⟨rfl, (Below.refl _ _).alloc (Nat.le_refl _) _⟩
theorem neq23 (r : Rf) (w : World) : (binOp .neq 23 (.agg #[.int .i64 r.pri, .int .i64 r.per, .int .i64 r.cap, .int .i64 r.dl, .int .i64 r.off]) (.agg #[.int .i64 r.pri, .int .i64 r.per, .int .i64 r.cap, .int .i64 r.dl, .int .i64 r.off])).run Try.prog w = .ok (.bool false) w := by
  go_simp

set_option maxRecDepth 100000 in
set_option maxHeartbeats 4000000 in
theorem told_any (t g c : Nat) (A : Addr) (n cc : Nat) (ps : List Pr) (rs : List Rf) (w : World) (hn : rs.length = n) (hT : Tab w t g c ps) (hR : RowG w rfC 13 (some A) rs) (hrel : RelL ps rs) (hok : ∀ p, p ∈ ps → p.Ok) :
    Calls Try.prog 34 #[.pointer (some ⟨t, 0, none⟩), .slice (some A) n cc] w fun e w' => e = .returned (.bool true) ∧ Below w.heap.size w w' := by
  have hpl : ps.length = n := hrel.1.trans hn
  obtain ⟨a, c2, hv⟩ := slc_form g c ps
  have hcell := hT.cell
  rw [hv, hpl] at hcell
  have HN := Lib.hid hn
  have HPL := Lib.hid hpl
  have HT := Lib.hid hT
  have HR := Lib.hid hR
  have HREL := Lib.hid hrel
  have HOK := Lib.hid hok
  have hm : n ≤ 16 := by have := hT.len; omega
  have z1 : Hid (stateR (lookP ps (-1)) = 0) := rfl
  have z2 : Hid (stateR (lookP ps n) = 0) := by unfold Hid; rw [← hpl, look_out]; rfl
  have z3 : Hid (curR (lookP ps n) = 0) := by unfold Hid; rw [← hpl, look_out]; rfl
  have z4 : Hid (leftR ps (-1) = 0) := rfl
  clear hn hpl hT hR hrel hok hv
  go_enter Try.func34, Try.ntmps34
  go_wp2_with (go_at_call 62; refine (len_any t a n c2 _ ?_).mono ?_; exact hcell; rintro e w' ⟨rfl, rfl⟩)
  clear hcell
  refine (state_is (-1) z1.out HT.out).mono ?_
  rintro e w1 ⟨rfl, hb1⟩
  have HT1 := Lib.hid (HT.out.below hb1)
  have HB1 := Lib.hid hb1
  clear hb1
  go_wp2_with fail
  refine (state_is n z2.out HT1.out).mono ?_
  rintro e w2 ⟨rfl, hb2⟩
  have HT2 := Lib.hid (HT1.out.below hb2)
  have HB2 := Lib.hid (HB1.out.trans (hb2.mono HB1.out.size))
  clear hb2
  go_wp2_with fail
  refine (cur_is n z3.out HT2.out).mono ?_
  rintro e w3 ⟨rfl, hb3⟩
  have HT3 := Lib.hid (HT2.out.below hb3)
  have HB3 := Lib.hid (HB2.out.trans (hb3.mono HB2.out.size))
  clear hb3
  go_wp2_with fail
  refine (left_is (-1) z4.out HT3.out HOK.out).mono ?_
  rintro e w4 ⟨rfl, hb4⟩
  have HB4 := Lib.hid (HB3.out.trans (hb4.mono HB3.out.size))
  clear hb4
  go_wp2_with fail
  go_loopw [42] (fun i wr => ∃ k : Nat, k ≤ n ∧ i = .int .i64 k ∧ Below w.heap.size w wr) (fun i _ => n - (intOf i).toNat)
  case atStart => exact ⟨0, Nat.zero_le _, rfl, HB4.out⟩
  case round =>
    obtain ⟨k, hk, rfl, hb⟩ := hrel
    have HB := Lib.hid hb
    have hbs := hb.size
    clear hb
    by_cases hlt : k < n
    · obtain ⟨b, o, hge, hgl, hgc⟩ := HR.out (by have := HN.out; omega)
      injection hge with hge
      subst hge
      obtain ⟨p, hpk⟩ : ∃ p, ps[k]? = some p := ⟨_, List.getElem?_eq_getElem (by have := HPL.out; omega)⟩
      obtain ⟨r, hrk⟩ : ∃ r, rs[k]? = some r := ⟨_, List.getElem?_eq_getElem (by have := HN.out; omega)⟩
      have hrl := HREL.out.2 k p r hpk hrk
      have hpo := HOK.out p (List.mem_of_getElem? hpk)
      have hlk := look_at hpk
      have hck : ∀ j, j < 13 → wr.cell? ⟨b, o + k * 13 + j, none⟩ = (rfC r)[j]? := fun j hj => (HB.out.cell (p := ⟨b, _, none⟩) hgl).trans (hgc k r hrk j hj)
      have c0 : wr.cell? ⟨b, o + k * 13, none⟩ = some (.int .i64 r.pri) := hck 0 (by omega)
      have c1 : wr.cell? ⟨b, o + k * 13 + 1, none⟩ = some (.int .i64 r.per) := hck 1 (by omega)
      have c2 : wr.cell? ⟨b, o + k * 13 + 2, none⟩ = some (.int .i64 r.cap) := hck 2 (by omega)
      have c3 : wr.cell? ⟨b, o + k * 13 + 3, none⟩ = some (.int .i64 r.dl) := hck 3 (by omega)
      have c4 : wr.cell? ⟨b, o + k * 13 + 4, none⟩ = some (.int .i64 r.off) := hck 4 (by omega)
      have c5 : wr.cell? ⟨b, o + k * 13 + 5, none⟩ = some (.int .i64 r.st) := hck 5 (by omega)
      have c6 : wr.cell? ⟨b, o + k * 13 + 6, none⟩ = some (.bool r.held) := hck 6 (by omega)
      have c7 : wr.cell? ⟨b, o + k * 13 + 7, none⟩ = some (.int .i64 r.til) := hck 7 (by omega)
      have c8 : wr.cell? ⟨b, o + k * 13 + 8, none⟩ = some (.int .i64 r.beg) := hck 8 (by omega)
      have c9 : wr.cell? ⟨b, o + k * 13 + 9, none⟩ = some (.int .i64 r.used) := hck 9 (by omega)
      have c10 : wr.cell? ⟨b, o + k * 13 + 10, none⟩ = some (.bool r.missed) := hck 10 (by omega)
      have c11 : wr.cell? ⟨b, o + k * 13 + 11, none⟩ = some (.int .i64 r.base) := hck 11 (by omega)
      have c12 : wr.cell? ⟨b, o + k * 13 + 12, none⟩ = some (.int .i64 r.raised) := hck 12 (by omega)
      have hgr : b < wr.heap.size := by omega
      obtain ⟨tu, htu⟩ : ∃ x, runtil r = x := ⟨_, rfl⟩
      obtain ⟨tb, htb⟩ : ∃ x, runtilB r = x := ⟨_, rfl⟩
      obtain ⟨sv, hsv⟩ : ∃ x, rstate r = x := ⟨_, rfl⟩
      obtain ⟨cu, hcu⟩ : ∃ x, rcur r = x := ⟨_, rfl⟩
      obtain ⟨lf, hlf⟩ : ∃ x, rleft r = x := ⟨_, rfl⟩
      have A1 : Hid (untilR (lookP ps k) = tu) := by unfold Hid; rw [hlk, (rel_until hpo hrl).2, htu]
      have A2 : Hid (untilB (lookP ps k) = tb) := by unfold Hid; rw [hlk, (rel_until hpo hrl).1, htb]
      have A3 : Hid (stateR (lookP ps k) = sv) := by unfold Hid; rw [hlk, rel_state hpo hrl, hsv]
      have A4 : Hid (baseR (lookP ps k) = r.base) := by unfold Hid; rw [hlk, rel_base hrl]
      have A5 : Hid (curR (lookP ps k) = cu) := by unfold Hid; rw [hlk, rel_cur hrl, hcu]
      have A6 : Hid (leftR ps k = lf) := by unfold Hid; rw [rel_left hpk hpo hrl, hlf]
      have A7 : Hid (Rel (lookP ps k) r) := by unfold Hid; rw [hlk]; exact hrl
      have C1 := Lib.hid htu
      have C2 := Lib.hid htb
      have C3 := Lib.hid hsv
      have C5 := Lib.hid hcu
      have C6 := Lib.hid hlf
      have HO := Lib.hid hrl.ok
      have HTr := Lib.hid (HT.out.below HB.out)
      have HTr' : Hid (∀ o, Tab (wr.alloc o) t g c ps) := fun o => HTr.out.alloc o
      clear htu htb hsv hcu hlf hrl hpo hlk hck hgc hpk hrk
      go_wp2_with fail
      refine (until_is k A1.out A2.out (HTr'.out _)).mono ?_
      rintro e w5 ⟨rfl, hb5⟩
      have hp5 : ∀ o, w5.cell? ⟨wr.heap.size, o, none⟩ = (#[.int .i64 r.pri, .int .i64 r.per, .int .i64 r.cap, .int .i64 r.dl, .int .i64 r.off, .int .i64 r.st, .bool r.held, .int .i64 r.til, .int .i64 r.beg, .int .i64 r.used, .bool r.missed, .int .i64 r.base, .int .i64 r.raised] : Array Value)[o]? := fun o => (hb5.cell (p := ⟨wr.heap.size, o, none⟩) (by simp)).trans (by go_simp)
      have hs5 : wr.heap.size < w5.heap.size := by have := hb5.size; simp at this; omega
      have HT5 := Lib.hid ((HTr'.out _).below hb5)
      have HB5 : Hid (Below w.heap.size w w5) := (HB.out.alloc hbs _).trans (hb5.mono (by simp; omega))
      clear hb5 c0 c1 c2 c3 c4 c5 c6 c7 c8 c9 c10 c11 c12
      go_wp2_with fail
      refine (runtil_is (r := r) C1.out C2.out _).mono ?_
      rintro e w6 ⟨rfl, hb6⟩
      have hp6 : ∀ o, w6.cell? ⟨wr.heap.size, o, none⟩ = (#[.int .i64 r.pri, .int .i64 r.per, .int .i64 r.cap, .int .i64 r.dl, .int .i64 r.off, .int .i64 r.st, .bool r.held, .int .i64 r.til, .int .i64 r.beg, .int .i64 r.used, .bool r.missed, .int .i64 r.base, .int .i64 r.raised] : Array Value)[o]? := fun o => (hb6.cell (p := ⟨wr.heap.size, o, none⟩) hs5).trans (hp5 o)
      have hs6 : wr.heap.size < w6.heap.size := by have := hb6.size; omega
      have HT6 := Lib.hid (HT5.out.below hb6)
      have HB6 : Hid (Below w.heap.size w w6) := HB5.out.trans (hb6.mono HB5.out.size)
      clear hb6 hp5
      have hx := fun (x : BW w6) (o : Nat) => (x.cell wr.heap.size o hs6).trans (hp6 o)
      have hne := fun (w : World) => neq23 r w
      go_wp2_with fail
      refine wp_region_bw (by kernel_rfl) (by kernel_rfl) ?_
      repeat (go_big_quiet_step (first
        | (go_at_call 14; exact Calls.bw (state_is k A3.out (HT6.out.below (Subtype.property _))))
        | (go_at_call 94; exact Calls.bw (rstate_bw (r := r) C3.out _))
        | (go_at_call 95; exact Calls.bw (base_is k A4.out (HT6.out.below (Subtype.property _))))
        | (go_at_call 92; exact Calls.bw (cur_is k A5.out (HT6.out.below (Subtype.property _))))
        | (go_at_call 96; exact Calls.bw (rcur_is (r := r) C5.out _))
        | (go_at_call 19; exact Calls.bw (left_is k A6.out (HT6.out.below (Subtype.property _)) HOK.out))
        | (go_at_call 97; exact Calls.bw (rleft_is (r := r) C6.out HO.out.cap HO.out.used _))
        | (go_at_call 98; exact Calls.bw (attr_is k A7.out (HT6.out.below (Subtype.property _))))))
      refine wpQuiet_nil ?_
      rintro w7 ⟨x7, hx7⟩
      have HB7 : Hid (Below w.heap.size w w7) := HB6.out.trans ((show Below w6.heap.size w6 w7 by rw [hx7]; exact x7.property).mono HB6.out.size)
      clear hx7 x7 hx hp6 hne
      go_wp2
      go_roundw
      case rel => exact ⟨k + 1, by omega, by go_num, HB7.out⟩
      case measure => simp [intOf]; omega
    · go_wp2_with fail
      go_ret
      exact ⟨rfl, HB.out⟩

end Go.Proofs.Ytgnjenmicojgnaa
