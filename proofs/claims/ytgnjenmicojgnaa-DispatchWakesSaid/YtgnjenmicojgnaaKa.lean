/-
  What Start, Pick, Ready, Yield of a Dispatch do.
  What New, Raise of a Dispatch do; the document's Same of two slices of ints.
  The document's Same of two slices of ints; what move and Raise of a Dispatch do.
  What the statements' own example of a Dispatch (told) answers: true.
-/
import Derived.Test.YtgnjenmicojgnaaK0w
import Derived.Test.YtgnjenmicojgnaaB6
import Derived.BigQuiet
namespace Go.Proofs.Ytgnjenmicojgnaa
set_option linter.unusedVariables false
set_option linter.unusedSimpArgs false
open Go.RowKit

section
variable {w w1 w' : World} {d t g c l m : Nat} {V : Nat → Value} {v : Value} {ps : List Pr} {R : Nat → List Int} {Q : List (Int × Int)}

theorem DPost.after {r : Value} {e : Ending} (hk : Kept w w1 (inD d t g l m V v)) (h : DPost w1 d t g c l m V v ps R Q r e w') : DPost w d t g c l m V v ps R Q r e w' := by
  obtain ⟨he, V', v', h1, h2, h3⟩ := h
  exact ⟨he, V', v', h1, hk.trans h2 (fun _ _ hi => hi), fun i hi => (h3 i hi).imp id (fun hle => Nat.le_trans hk.size hle)⟩

theorem DPost.to {r r' : Value} {e : Ending} (h : DPost w d t g c l m V v ps R Q r e w') : DPost w d t g c l m V v ps R Q r' (.returned r') w' := by
  obtain ⟨_, V', v', h1, h2, h3⟩ := h
  exact ⟨rfl, V', v', h1, h2, h3⟩
end

set_option maxRecDepth 100000 in
set_option maxHeartbeats 1000000 in
theorem done_ok {w : World} {d t g c l m : Nat} {V : Nat → Value} {v : Value} {ps : List Pr} {R : Nat → List Int} {Q : List (Int × Int)} (i : Int) (h : Calls Try.prog 109 #[.pointer (some ⟨d, 0, none⟩), .int .i64 i] w (DPost w d t g c l m V v ps R Q (.tuple #[]))) :
    Calls Try.prog 102 #[.pointer (some ⟨d, 0, none⟩), .int .i64 i, .int .i64 0] w (DPost w d t g c l m V v ps R Q (.int .i64 0)) := by
  have H := Lib.hid h
  clear h
  go_enter Try.func102, Try.ntmps102
  go_wp2_with fail
  refine H.out.mono ?_
  intro e w1 hp
  have HP := Lib.hid (hp.to (r' := .int .i64 0))
  obtain ⟨rfl, -⟩ := hp
  go_wp2
  go_ret
  exact HP.out

set_option maxRecDepth 100000 in
set_option maxHeartbeats 1000000 in
theorem dstart_ok {w : World} {d t g c l m : Nat} {V : Nat → Value} {v : Value} {ps ps' : List Pr} {R R' : Nat → List Int} {Q : List (Int × Int)} (h : Dsp w d t g c l m V v ps R Q) (i n : Int) (hact : act (startF n) (tickB n) ps i = (ps', 0))
    (hf : ∀ W, Dsp W d t g c l m V v ps' R Q → Calls Try.prog 109 #[.pointer (some ⟨d, 0, none⟩), .int .i64 i] W (DPost W d t g c l m V v ps' R' Q (.tuple #[]))) :
    Calls Try.prog 37 #[.pointer (some ⟨d, 0, none⟩), .int .i64 i, .int .i64 n] w (DPost w d t g c l m V v ps' R' Q (.int .i64 0)) := by
  have c0 := h.c0
  have hdl := h.dl
  have H := Lib.hid h
  have HF := Lib.hid hf
  have HACT := Lib.hid hact
  clear h hf hact
  go_enter Try.func37, Try.ntmps37
  go_wp2_with fail
  refine (start_is i n HACT.out H.out.T H.out.ok).mono ?_
  rintro e w1 ⟨rfl, hT1, hA1⟩
  have hok : ∀ p, p ∈ ps' → p.Ok := by
    have := act_ok (keeps_start n) H.out.ok i (may := tickB n)
    rw [HACT.out] at this
    exact this
  have H1 := Lib.hid (H.out.tab hT1 hok hA1)
  have HK1 : Hid (Kept w w1 (inD d t g l m V v)) := hA1.kept.mono (fun i _ e => .inr (.inr (.inl e)))
  clear hT1 hA1 c0 hok
  go_wp2_with fail
  refine (done_ok i (HF.out w1 H1.out)).mono ?_
  intro e w2 hp
  have HP := Lib.hid (DPost.after HK1.out hp)
  obtain ⟨rfl, -⟩ := hp
  go_wp2
  go_ret
  exact HP.out

set_option maxRecDepth 100000 in
set_option maxHeartbeats 1000000 in
theorem pick_any {w : World} {d t g c l m : Nat} {V : Nat → Value} {v : Value} {ps : List Pr} {R : Nat → List Int} {Q : List (Int × Int)} (h : Dsp w d t g c l m V v ps R Q) {x : Int} {b : Bool} (hx : first R = x) (hb : some1 R = b) :
    Calls Try.prog 38 #[.pointer (some ⟨d, 0, none⟩)] w fun e w' => e = .returned (.tuple #[.int .i64 x, .bool b]) ∧ Below w.heap.size w w' := by
  subst hx hb
  have c1 := h.c1
  have hdl := h.dl
  have H := Lib.hid h
  clear h
  go_enter Try.func38, Try.ntmps38
  go_wp2_with fail
  refine (peek_any l V R w H.out.L).mono ?_
  rintro e w1 ⟨rfl, hb1⟩
  have HB1 := Lib.hid hb1
  clear hb1
  go_wp2
  go_ret2
  exact ⟨rfl, HB1.out⟩

set_option maxRecDepth 100000 in
set_option maxHeartbeats 1000000 in
theorem ready_any {w : World} {d t g c l m : Nat} {V : Nat → Value} {v : Value} {ps : List Pr} {R : Nat → List Int} {Q : List (Int × Int)} (h : Dsp w d t g c l m V v ps R Q) (hl : ∀ p, (R p).length ≤ 1000) :
    Calls Try.prog 40 #[.pointer (some ⟨d, 0, none⟩)] w (AllPost w (allR R)) := by
  have c1 := h.c1
  have hdl := h.dl
  have H := Lib.hid h
  have HL := Lib.hid hl
  clear h hl
  go_enter Try.func40, Try.ntmps40
  go_wp2_with fail
  refine (all_any l V R w H.out.L HL.out).mono ?_
  intro e w1 hp
  have HP := Lib.hid hp
  obtain ⟨u, rfl, -⟩ := hp
  go_wp2
  go_ret
  exact HP.out

theorem tlen_is {t g c n : Nat} {ps : List Pr} {w : World} (hT : Tab w t g c ps) (hn : ps.length = n) :
    Calls Try.prog 62 #[.pointer (some ⟨t, 0, none⟩)] w fun e w' => e = .returned (.int .i64 n) ∧ w = w' := by
  obtain ⟨A, cc, hs, _⟩ := slc_row hT
  have := hT.cell
  rw [hs, hn] at this
  exact len_any t A n cc w this

set_option maxRecDepth 100000 in
set_option maxHeartbeats 4000000 in
theorem yield_any {w : World} {d t g c l m : Nat} {V : Nat → Value} {v : Value} {ps : List Pr} {R : Nat → List Int} {Q : List (Int × Int)} (h : Dsp w d t g c l m V v ps R Q) (i : Int) (p q : Nat) (hi0 : 0 ≤ i) (hi1 : i < ps.length) (hq : q < 64)
    (hpr : prio R i = some p) (hcur : curR (lookP ps i) = q) (hno : prio (upd R p ((R p).erase i)) i = none) (hl : (upd R p ((R p).erase i) q).length ≤ 1000) :
    Calls Try.prog 41 #[.pointer (some ⟨d, 0, none⟩), .int .i64 i] w (DPost w d t g c l m V v ps (upd (upd R p ((R p).erase i)) q (upd R p ((R p).erase i) q ++ [i])) Q (.int .i64 0)) := by
  have c0 := h.c0
  have c1 := h.c1
  have hdl := h.dl
  have H := Lib.hid h
  have HPR := Lib.hid hpr
  have HCUR := Lib.hid hcur
  have HNO := Lib.hid hno
  have HL := Lib.hid hl
  obtain ⟨R1, hR1⟩ : ∃ R1, upd R p ((R p).erase i) = R1 := ⟨_, rfl⟩
  rw [hR1] at HNO HL ⊢
  have HR1 := Lib.hid hR1
  obtain ⟨n, hn⟩ : ∃ n, ps.length = n := ⟨_, rfl⟩
  rw [hn] at hi1
  have HN := Lib.hid hn
  clear h hpr hcur hno hl hR1 hn
  go_enter Try.func41, Try.ntmps41
  go_wp2_with fail
  refine (tlen_is H.out.T HN.out).mono ?_
  rintro e w1 ⟨rfl, rfl⟩
  go_wp2_with fail
  refine (drop_some l p V R i w H.out.L HPR.out).mono ?_
  rw [HR1.out]
  rintro e w2 ⟨rfl, V2, hL2, hk2, hn2⟩
  have H2 := Lib.hid (H.out.lst hL2 hk2 hn2)
  have HK2 := Lib.hid hk2
  have HN2 := Lib.hid hn2
  have d0 := H2.out.c0
  have d1 := H2.out.c1
  have hdl2 := H2.out.dl
  clear hL2 hk2 hn2 c0 c1
  go_wp2_with fail
  have HP := fun (W : World) (hb : Below w2.heap.size w2 W) => put_any l q V2 R1 i W (H2.out.below hb).L hi0 hq HNO.out HL.out
  have HCU := fun (W : World) (hb : Below w2.heap.size w2 W) => cur_is i HCUR.out (H2.out.below hb).T
  have HP' := Lib.hid HP
  have HCU' := Lib.hid HCU
  clear HP HCU
  go_region_held (fun w' => w'.cell? ⟨d, 0, none⟩ = some (.pointer (some ⟨t, 0, none⟩)) ∧ w'.cell? ⟨d, 1, none⟩ = some (.pointer (some ⟨l, 0, none⟩))) (first | go_keep | (exact ⟨by assumption, by assumption⟩))
    (first
      | (go_at_call 92; refine (HCU'.out _ (Below.refl _ _).drew).mono ?_; rintro e w3 ⟨rfl, hb3⟩; have e0 := (H2.out.below ((Below.refl _ _).drew.trans (hb3.mono (Nat.le_refl _)))).c0; have e1 := (H2.out.below ((Below.refl _ _).drew.trans (hb3.mono (Nat.le_refl _)))).c1)
      | (go_at_call 106; refine (HP'.out w3 ((Below.refl _ _).drew.trans (hb3.mono (Nat.le_refl _)))).mono ?_; rintro e w4 ⟨rfl, V', hL4, hk4, hn4⟩; have f0 := ((H2.out.below ((Below.refl _ _).drew.trans (hb3.mono (Nat.le_refl _)))).lst hL4 hk4 hn4).c0; have f1 := ((H2.out.below ((Below.refl _ _).drew.trans (hb3.mono (Nat.le_refl _)))).lst hL4 hk4 hn4).c1))
  have HB3 : Hid (Below w2.heap.size w2 w3) := (Below.refl _ _).drew.trans (hb3.mono (Nat.le_refl _))
  have H3 := Lib.hid (H2.out.below HB3.out)
  have H4 := Lib.hid (H3.out.lst hL4 hk4 hn4)
  have HPP : Hid (DPost w d t g c l m V v ps (upd R1 q (R1 q ++ [i])) Q (.int .i64 0) (.returned (.int .i64 0)) w4) := by
    have hs2 := HK2.out.size
    have hs3 := HB3.out.size
    refine ⟨rfl, V', v, H4.out, ((HK2.out.trans (Kept.of_below HB3.out) (fun _ _ hi => hi)).trans hk4 (fun i hi h4 => ?_)).mono (fun i _ hi => .inr (.inr (.inr (.inl hi)))), ?_⟩
    · rcases HN2.out i h4 with h1 | h1
      · exact h1
      · omega
    · rintro j (rfl | rfl | rfl | hj | hj)
      · exact .inl (.inl rfl)
      · exact .inl (.inr (.inl rfl))
      · exact .inl (.inr (.inr (.inl rfl)))
      · rcases hn4 j hj with h1 | h1
        · exact (HN2.out j h1).imp (fun h => .inr (.inr (.inr (.inl h)))) id
        · exact .inr (by omega)
      · exact .inl (.inr (.inr (.inr (.inr hj))))
  clear hL4 hk4 hn4 hb3 HP' HCU'
  go_wp2
  go_ret
  exact HPP.out

end Go.Proofs.Ytgnjenmicojgnaa

namespace Go.Proofs.Ytgnjenmicojgnaa
set_option linter.unusedVariables false
set_option linter.unusedSimpArgs false
open Go.RowKit

def v0 : Nat → Value := fun _ => .slice none 0 0
def r0 : Nat → List Int := fun _ => []

theorem rdy_new {w : World} {l : Nat} (h : w.heap[l]? = some (.cells ((Array.replicate 64 (Value.slice none 0 0)).push (.int .u64 0)) 133 (0, 0))) : Rdy w l v0 r0 := by
  refine ⟨⟨0, ⟨_, h, by simp, fun p hp => ?_, ?_⟩, ⟨0#64, rfl, fun q hq => by simp [r0]⟩⟩, fun p hp => Own.nil w, fun p q _ _ _ k hk => by simp [v0, Value.ownBlock] at hk, fun p _ => by simp [v0, Value.ownBlock]⟩
  · rw [Array.getElem?_push, if_neg (by simp; omega), Array.getElem?_replicate, if_pos hp]
    rfl
  · rw [Array.getElem?_push, if_pos (by simp)]

set_option maxRecDepth 100000 in
set_option maxHeartbeats 1000000 in
theorem lnew_any (w : World) : Calls Try.prog 99 #[] w fun e w' => e = .returned (.pointer (some ⟨w.heap.size, 0, none⟩)) ∧ Rdy w' w.heap.size v0 r0 ∧ Below w.heap.size w w' ∧ w'.heap.size = w.heap.size + 1 := by
  have HP : Hid (∀ w', w' = w.alloc (.cells ((Array.replicate 64 (Value.slice none 0 0)).push (.int .u64 0)) 133) → Rdy w' w.heap.size v0 r0 ∧ Below w.heap.size w w' ∧ w'.heap.size = w.heap.size + 1) := by
    rintro w' rfl
    exact ⟨rdy_new (heap_alloc_new w _), (Below.refl _ _).alloc (Nat.le_refl _) _, by simp⟩
  go_enter Try.func99, Try.ntmps99
  go_wp2
  go_ret
  exact ⟨rfl, HP.out _ rfl⟩

set_option maxRecDepth 100000 in
set_option maxHeartbeats 1000000 in
theorem tnew_any (w : World) : Calls Try.prog 100 #[] w fun e w' => e = .returned (.pointer (some ⟨w.heap.size, 0, none⟩)) ∧ Tms w' w.heap.size (.slice none 0 0) [] ∧ Below w.heap.size w w' ∧ w'.heap.size = w.heap.size + 1 := by
  have HP : Hid (∀ w', w' = w.alloc (.cells #[.slice none 0 0] 136) → Tms w' w.heap.size (.slice none 0 0) [] ∧ Below w.heap.size w w' ∧ w'.heap.size = w.heap.size + 1) := by
    rintro w' rfl
    exact ⟨⟨heap_alloc_new w _, World.ownsRow_nil _ _ _ _, by simp [Value.ownBlock]⟩, (Below.refl _ _).alloc (Nat.le_refl _) _, by simp⟩
  go_enter Try.func100, Try.ntmps100
  go_wp2
  go_ret
  exact ⟨rfl, HP.out _ rfl⟩

theorem inL_new {l i : Nat} : inL l v0 i ↔ i = l := by
  constructor
  · rintro (h | ⟨p, _, h⟩)
    · exact h
    · simp [v0, Value.ownBlock] at h
  · exact fun h => .inl h
theorem inT_new {m i : Nat} : inT m (.slice none 0 0) i ↔ i = m := by
  constructor
  · rintro (h | h)
    · exact h
    · simp [Value.ownBlock] at h
  · exact fun h => .inl h

def DNew (w : World) (ps : List Pr) (e : Ending) (w' : World) : Prop :=
  ∃ d t g c l m, e = .returned (.tuple #[.pointer (some ⟨d, 0, none⟩), .int .i64 0]) ∧ Dsp w' d t g c l m v0 (.slice none 0 0) ps r0 [] ∧ (∀ i, inD d t g l m v0 (.slice none 0 0) i → w.heap.size ≤ i) ∧ Below w.heap.size w w'

set_option maxRecDepth 100000 in
set_option maxHeartbeats 1000000 in
theorem dnew_any (A : Option Addr) (n cc : Nat) (l : List At) (w : World) (hn : l.length = n) (hA : AtRow w A l) (hm : n ≤ 140737488355328) (hok : newOk l = true) :
    Calls Try.prog 35 #[.slice A n cc] w (DNew w (l.map prOf)) := by
  have HC := Lib.hid (new_any A n cc l w hn hA hm)
  have HOK := Lib.hid hok
  clear hn hA hok
  go_enter Try.func35, Try.ntmps35
  go_wp2_with fail
  refine HC.out.mono ?_
  rintro e w1 ⟨hp, hb1⟩
  rcases hp with ⟨_, t, g, c, rfl, hT, ht, hg⟩ | ⟨hno, _⟩
  rotate_left
  · exact absurd (HOK.out.symm.trans hno) (by simp)
  have HB1 := Lib.hid hb1
  have HT := Lib.hid hT
  have HTT := Lib.hid ht
  have HG := Lib.hid hg
  clear hT ht hg hb1
  go_wp2_with fail
  refine (lnew_any w1).mono ?_
  rintro e w2 ⟨rfl, hL, hb2, hs2⟩
  have HL := Lib.hid hL
  have HB2 := Lib.hid hb2
  have HS2 := Lib.hid hs2
  clear hL hb2 hs2
  go_wp2_with fail
  refine (tnew_any w2).mono ?_
  rintro e w3 ⟨rfl, hM, hb3, hs3⟩
  have HM := Lib.hid hM
  have HB3 := Lib.hid hb3
  have HS3 := Lib.hid hs3
  clear hM hb3 hs3
  have HP : Hid (∀ w', w' = w3.alloc (.cells #[.pointer (some ⟨t, 0, none⟩), .pointer (some ⟨w1.heap.size, 0, none⟩), .pointer (some ⟨w2.heap.size, 0, none⟩)] 123) → DNew w (l.map prOf) (.returned (.tuple #[.pointer (some ⟨w3.heap.size, 0, none⟩), .int .i64 0])) w') := by
    rintro w' hw'
    have hba : Below w3.heap.size w3 w' := by rw [hw']; exact (Below.refl _ _).alloc (Nat.le_refl _) _
    have hsz : w'.heap.size = w3.heap.size + 1 := by rw [hw']; simp
    have hcell : ∀ j, w'.cell? ⟨w3.heap.size, j, none⟩ = (#[.pointer (some ⟨t, 0, none⟩), .pointer (some ⟨w1.heap.size, 0, none⟩), .pointer (some ⟨w2.heap.size, 0, none⟩)] : Array Value)[j]? := by rw [hw']; intro j; simp
    have hs1 := HB1.out.size
    have hs2 := HS2.out
    have hs3 := HS3.out
    have hT3 := ((HT.out.below HB2.out).below HB3.out).below hba
    have hL3 := (HL.out.below HB3.out).below hba
    have hM3 := HM.out.below hba
    have hbel : Below w.heap.size w w' := ((HB1.out.trans (HB2.out.mono hs1)).trans (HB3.out.mono (by omega))).trans (hba.mono (by omega))
    have htl := HT.out.lt
    have ht := HTT.out
    obtain ⟨g', hT', hg1, hg2⟩ : ∃ g', Tab w' t g' c (l.map prOf) ∧ g' < w1.heap.size ∧ w.heap.size ≤ g' := by
      by_cases hz : l.length = 0
      · exact ⟨t, by
          refine ⟨?_, fun hn => absurd (by simpa using hz) hn, hT3.len⟩
          have := hT3.hdr
          unfold slc at this ⊢
          rw [if_pos (by simpa using hz)] at this ⊢
          exact this, htl, ht⟩
      · exact ⟨g, hT3, HT.out.glt (by simpa using hz), HG.out hz⟩
    refine ⟨w3.heap.size, t, g', c, w1.heap.size, w2.heap.size, rfl, ⟨hcell 0, hcell 1, hcell 2, by omega, by omega, hT', (fun p hp => by rw [List.mem_map] at hp; obtain ⟨a, ha, rfl⟩ := hp; have := HOK.out; unfold newOk at this; rw [Bool.and_eq_true] at this; exact ok_fresh (List.all_eq_true.1 this.2 a ha)), hL3, hM3, by omega, ?_, ?_, ?_, ?_, ?_, ?_, ?_⟩, ?_, hbel⟩
    · rw [inL_new]; omega
    · rw [inT_new]; omega
    · rw [inL_new]; omega
    · rw [inT_new]; omega
    · rw [inL_new]; omega
    · rw [inT_new]; omega
    · intro i hi
      rw [inL_new] at hi
      rw [inT_new]
      omega
    · rintro i (rfl | rfl | rfl | hi | hi)
      · omega
      · omega
      · omega
      · rw [inL_new] at hi; omega
      · rw [inT_new] at hi; omega
  go_wp2
  go_ret2
  exact HP.out _ rfl

end Go.Proofs.Ytgnjenmicojgnaa

namespace Go.Proofs.Ytgnjenmicojgnaa
set_option linter.unusedVariables false
set_option linter.unusedSimpArgs false
open Go.RowKit

theorem below_drewN {B : Nat} {w w' : World} (h : Below B w w') (n : Nat) : Below B w (w'.drewN n) := ⟨h.os, h.tape, h.output, h.size, h.block⟩

/-- The slice x reads as xs. -/
def RI (w : World) (x : Value) (xs : List Int) : Prop :=
  ∃ ax c, x = .slice ax xs.length c ∧ ∀ (j : Nat) (z : Int), xs[j]? = some z → ∃ b o, ax = some ⟨b, o, none⟩ ∧ b < w.heap.size ∧ w.cell? ⟨b, o + j, none⟩ = some (.int .i64 z)

theorem Own.ri {w : World} {v : Value} {xs : List Int} (h : Own w v xs) : RI w v xs := by
  rcases h.shape with ⟨h1, h2⟩ | ⟨g, c, cur, h1, h2, h3, h4, h5, h6⟩
  · subst h2
    exact ⟨none, 0, h1, fun j z hz => by simp at hz⟩
  · refine ⟨_, _, h1, fun j z hz => ⟨g, 0, rfl, (Array.getElem?_eq_some_iff.1 h2).1, ?_⟩⟩
    rw [Nat.zero_add, cell_of_row w g j cur 3 (0, 0) h2]
    exact h6 j z hz

set_option maxRecDepth 100000 in
set_option maxHeartbeats 1000000 in
theorem same20_any (x y : Value) (xs ys : List Int) (w : World) (hx : RI w x xs) (hy : RI w y ys) (hl : xs.length ≤ 1000000) :
    Calls Try.prog 39 #[x, y] w fun e w' => e = .returned (.bool (decide (xs = ys))) ∧ Below w.heap.size w w' := by
  obtain ⟨ax, cx, rfl, hcx⟩ := hx
  obtain ⟨ay, cy, rfl, hcy⟩ := hy
  have HX := Lib.hid hcx
  have HY := Lib.hid hcy
  obtain ⟨n, hn⟩ : ∃ n, xs.length = n := ⟨_, rfl⟩
  obtain ⟨m, hm⟩ : ∃ m, ys.length = m := ⟨_, rfl⟩
  rw [hn] at hl ⊢
  rw [hm]
  have HN := Lib.hid hn
  have HM := Lib.hid hm
  clear hcx hcy hn hm
  by_cases hne : n = m
  · subst hne
    go_enter Try.func39, Try.ntmps39
    go_wp2_with fail
    go_loopw [5] (fun s5 wr => ∃ j : Nat, j ≤ n ∧ s5 = .int .i64 j ∧ (∀ (i : Nat), i < j → xs[i]? = ys[i]?) ∧ Below w.heap.size w wr) (fun i _ => n - (intOf i).toNat)
    case atStart => exact ⟨0, by omega, rfl, fun _ hi => absurd hi (Nat.not_lt_zero _), Below.refl _ _⟩
    case round =>
      obtain ⟨j, hj, rfl, hal, hbr⟩ := hrel
      have HAL := Lib.hid hal
      have HB := Lib.hid hbr
      have hbs := hbr.size
      clear hal hbr
      by_cases hjn : j < n
      · obtain ⟨z, hz⟩ : ∃ z, xs[j]? = some z := ⟨_, List.getElem?_eq_getElem (by have := HN.out; omega)⟩
        obtain ⟨z', hz'⟩ : ∃ z, ys[j]? = some z := ⟨_, List.getElem?_eq_getElem (by have := HM.out; omega)⟩
        obtain ⟨b, o, rfl, hbl, hc⟩ := HX.out j z hz
        obtain ⟨b', o', rfl, hbl', hc'⟩ := HY.out j z' hz'
        have e0 := (HB.out.cell (p := ⟨b, o + j, none⟩) hbl).trans hc
        have e1 := (HB.out.cell (p := ⟨b', o' + j, none⟩) hbl').trans hc'
        have hblr : b < wr.heap.size := by omega
        have hblr' : b' < wr.heap.size := by omega
        have HZ := Lib.hid hz
        have HZ' := Lib.hid hz'
        clear hz hz' hc hc'
        by_cases hzz : z = z'
        · have hzb : (z != z') = false := by simp [hzz]
          go_wp2_with fail
          go_quiet (fail)
          go_wp2_with fail
          go_roundw
          case rel =>
            refine ⟨j + 1, by omega, by go_num, fun i hi => ?_, below_drewN HB.out _⟩
            by_cases e : i = j
            · subst e
              rw [HZ.out, HZ'.out, hzz]
            · exact HAL.out i (by omega)
          case measure => simp [intOf]; omega
        · have hzb : (z != z') = true := by simpa using hzz
          have hd : Hid (decide (xs = ys) = false) := by
            unfold Hid
            simp only [decide_eq_false_iff_not]
            rintro rfl
            have := HZ.out.symm.trans HZ'.out
            injection this with this
            exact hzz this
          go_wp2_with fail
          go_quiet (fail)
          go_wp2
          go_ret
          exact ⟨by rw [hd.out]; rfl, below_drewN HB.out _⟩
      · have hd : Hid (decide (xs = ys) = true) := by
          unfold Hid
          simp only [decide_eq_true_eq]
          apply List.ext_getElem?
          intro i
          by_cases hi : i < n
          · exact HAL.out i (by omega)
          · rw [List.getElem?_eq_none_iff.2 (by have := HN.out; omega), List.getElem?_eq_none_iff.2 (by have := HM.out; omega)]
        go_wp2_with fail
        go_ret
        exact ⟨by rw [hd.out]; rfl, HB.out⟩
  · have hnb : ((n : Int) != (m : Int)) = true := by simp; omega
    have hd : Hid (decide (xs = ys) = false) := by
      unfold Hid
      simp only [decide_eq_false_iff_not]
      rintro rfl
      exact hne (HN.out.symm.trans HM.out)
    go_enter Try.func39, Try.ntmps39
    go_wp2
    go_ret
    exact ⟨by rw [hd.out]; rfl, Below.refl _ _⟩

set_option maxRecDepth 100000 in
set_option maxHeartbeats 2000000 in
theorem move_up {w : World} {d t g c l m : Nat} {V : Nat → Value} {v : Value} {ps : List Pr} {R R1 : Nat → List Int} {Q : List (Int × Int)} (h : Dsp w d t g c l m V v ps R Q) (i : Int) (p q : Nat) (hi : 0 ≤ i) (hq : q < 64) (hpq : p ≠ q)
    (hpr : prio R i = some p) (hcur : curR (lookP ps i) = q) (hR1 : upd R p ((R p).erase i) = R1) (hno : prio R1 i = none) (hl : (R1 q).length ≤ 1000) :
    Calls Try.prog 115 #[.pointer (some ⟨d, 0, none⟩), .int .i64 i, .bool true] w (DPost w d t g c l m V v ps (upd R1 q (i :: R1 q)) Q (.tuple #[])) := by
  have c0 := h.c0
  have c1 := h.c1
  have hdl := h.dl
  have H := Lib.hid h
  have HPR := Lib.hid hpr
  have HCUR := Lib.hid hcur
  have HNO := Lib.hid hno
  have HL := Lib.hid hl
  have HR1 := Lib.hid hR1
  have hpqi : ¬ (p : Int) = (q : Int) := by omega
  have hpqb : ((p : Int) == (q : Int)) = false := by simp; omega
  clear h hpr hcur hno hl hR1
  go_enter Try.func115, Try.ntmps115
  go_wp2_with fail
  refine (prio_is (k := p) (b := true) H.out.L (by rw [HPR.out]; rfl) (by rw [HPR.out]; rfl)).mono ?_
  rintro e w1 ⟨rfl, rfl⟩
  go_wp2_with fail
  refine (cur_is i HCUR.out H.out.T).mono ?_
  rintro e w2 ⟨rfl, hb2⟩
  have H2 := Lib.hid (H.out.below hb2)
  have HB2 := Lib.hid hb2
  have d0 := H2.out.c0
  have d1 := H2.out.c1
  have hdl2 := H2.out.dl
  clear hb2 c0 c1
  go_wp2_with fail
  refine (drop_some l p V R i w2 H2.out.L HPR.out).mono ?_
  rw [HR1.out]
  rintro e w3 ⟨rfl, V3, hL3, hk3, hn3⟩
  have H3 := Lib.hid (H2.out.lst hL3 hk3 hn3)
  have HK3 : Hid (Kept w1 w3 (inL l V)) := (Kept.of_below HB2.out).trans hk3 (fun _ _ hi => hi)
  have HN3 := Lib.hid hn3
  have HS2 := Lib.hid HB2.out.size
  have e0 := H3.out.c0
  have e1 := H3.out.c1
  have hdl3 := H3.out.dl
  clear hL3 hk3 hn3 d0 d1
  have fin : Hid (∀ (R' : Nat → List Int) (e : Ending) (w4 : World), LPost w3 l V3 R' (.int .i64 0) e w4 → e = .returned (.int .i64 0) ∧ DPost w1 d t g c l m V v ps R' Q (.tuple #[]) (.returned (.tuple #[])) w4) := by
    rintro R' e w4 ⟨rfl, V4, hL4, hk4, hn4⟩
    have H4 := H3.out.lst hL4 hk4 hn4
    have hs3 := HK3.out.size
    have hs2 := HS2.out
    refine ⟨rfl, rfl, V4, v, H4, (HK3.out.trans hk4 (fun i hi h4 => ?_)).mono (fun i _ hi => .inr (.inr (.inr (.inl hi)))), ?_⟩
    · rcases HN3.out i h4 with h1 | h1
      · exact h1
      · omega
    · rintro j (rfl | rfl | rfl | hj | hj)
      · exact .inl (.inl rfl)
      · exact .inl (.inr (.inl rfl))
      · exact .inl (.inr (.inr (.inl rfl)))
      · rcases hn4 j hj with h1 | h1
        · exact (HN3.out j h1).imp (fun h => .inr (.inr (.inr (.inl h)))) (fun hle => by omega)
        · exact .inr (by omega)
      · exact .inl (.inr (.inr (.inr (.inr hj))))
  go_wp2_with fail
  refine (front_any l q V3 R1 i w3 H3.out.L hi hq HNO.out HL.out).mono ?_
  intro e w4 hp
  obtain ⟨rfl, hp2⟩ := fin.out _ e w4 hp
  have HP := Lib.hid hp2
  clear hp hp2
  go_wp2
  go_end0
  exact HP.out

set_option maxRecDepth 100000 in
set_option maxHeartbeats 2000000 in
theorem move_back {w : World} {d t g c l m : Nat} {V : Nat → Value} {v : Value} {ps : List Pr} {R R1 : Nat → List Int} {Q : List (Int × Int)} (h : Dsp w d t g c l m V v ps R Q) (i : Int) (p q : Nat) (hi : 0 ≤ i) (hq : q < 64) (hpq : p ≠ q)
    (hpr : prio R i = some p) (hcur : curR (lookP ps i) = q) (hR1 : upd R p ((R p).erase i) = R1) (hno : prio R1 i = none) (hl : (R1 q).length ≤ 1000) :
    Calls Try.prog 115 #[.pointer (some ⟨d, 0, none⟩), .int .i64 i, .bool false] w (DPost w d t g c l m V v ps (upd R1 q (R1 q ++ [i])) Q (.tuple #[])) := by
  have c0 := h.c0
  have c1 := h.c1
  have hdl := h.dl
  have H := Lib.hid h
  have HPR := Lib.hid hpr
  have HCUR := Lib.hid hcur
  have HNO := Lib.hid hno
  have HL := Lib.hid hl
  have HR1 := Lib.hid hR1
  have hpqi : ¬ (p : Int) = (q : Int) := by omega
  have hpqb : ((p : Int) == (q : Int)) = false := by simp; omega
  clear h hpr hcur hno hl hR1
  go_enter Try.func115, Try.ntmps115
  go_wp2_with fail
  refine (prio_is (k := p) (b := true) H.out.L (by rw [HPR.out]; rfl) (by rw [HPR.out]; rfl)).mono ?_
  rintro e w1 ⟨rfl, rfl⟩
  go_wp2_with fail
  refine (cur_is i HCUR.out H.out.T).mono ?_
  rintro e w2 ⟨rfl, hb2⟩
  have H2 := Lib.hid (H.out.below hb2)
  have HB2 := Lib.hid hb2
  have d0 := H2.out.c0
  have d1 := H2.out.c1
  have hdl2 := H2.out.dl
  clear hb2 c0 c1
  go_wp2_with fail
  refine (drop_some l p V R i w2 H2.out.L HPR.out).mono ?_
  rw [HR1.out]
  rintro e w3 ⟨rfl, V3, hL3, hk3, hn3⟩
  have H3 := Lib.hid (H2.out.lst hL3 hk3 hn3)
  have HK3 : Hid (Kept w1 w3 (inL l V)) := (Kept.of_below HB2.out).trans hk3 (fun _ _ hi => hi)
  have HN3 := Lib.hid hn3
  have HS2 := Lib.hid HB2.out.size
  have e0 := H3.out.c0
  have e1 := H3.out.c1
  have hdl3 := H3.out.dl
  clear hL3 hk3 hn3 d0 d1
  have fin : Hid (∀ (R' : Nat → List Int) (e : Ending) (w4 : World), LPost w3 l V3 R' (.int .i64 0) e w4 → e = .returned (.int .i64 0) ∧ DPost w1 d t g c l m V v ps R' Q (.tuple #[]) (.returned (.tuple #[])) w4) := by
    rintro R' e w4 ⟨rfl, V4, hL4, hk4, hn4⟩
    have H4 := H3.out.lst hL4 hk4 hn4
    have hs3 := HK3.out.size
    have hs2 := HS2.out
    refine ⟨rfl, rfl, V4, v, H4, (HK3.out.trans hk4 (fun i hi h4 => ?_)).mono (fun i _ hi => .inr (.inr (.inr (.inl hi)))), ?_⟩
    · rcases HN3.out i h4 with h1 | h1
      · exact h1
      · omega
    · rintro j (rfl | rfl | rfl | hj | hj)
      · exact .inl (.inl rfl)
      · exact .inl (.inr (.inl rfl))
      · exact .inl (.inr (.inr (.inl rfl)))
      · rcases hn4 j hj with h1 | h1
        · exact (HN3.out j h1).imp (fun h => .inr (.inr (.inr (.inl h)))) (fun hle => by omega)
        · exact .inr (by omega)
      · exact .inl (.inr (.inr (.inr (.inr hj))))
  go_wp2_with fail
  refine (put_any l q V3 R1 i w3 H3.out.L hi hq HNO.out HL.out).mono ?_
  intro e w4 hp
  obtain ⟨rfl, hp2⟩ := fin.out _ e w4 hp
  have HP := Lib.hid hp2
  clear hp hp2
  go_wp2
  go_end0
  exact HP.out

set_option maxRecDepth 100000 in
set_option maxHeartbeats 1000000 in
theorem draise_ok {w : World} {d t g c l m : Nat} {V : Nat → Value} {v : Value} {ps ps' : List Pr} {R R' : Nat → List Int} {Q : List (Int × Int)} (h : Dsp w d t g c l m V v ps R Q) (i n : Int) (hact : act (raisF n) (inB n 0 63) ps i = (ps', 0))
    (hf : ∀ W, Dsp W d t g c l m V v ps' R Q → Calls Try.prog 115 #[.pointer (some ⟨d, 0, none⟩), .int .i64 i, .bool true] W (DPost W d t g c l m V v ps' R' Q (.tuple #[]))) :
    Calls Try.prog 101 #[.pointer (some ⟨d, 0, none⟩), .int .i64 i, .int .i64 n] w (DPost w d t g c l m V v ps' R' Q (.int .i64 0)) := by
  have c0 := h.c0
  have hdl := h.dl
  have H := Lib.hid h
  have HF := Lib.hid hf
  have HACT := Lib.hid hact
  clear h hf hact
  go_enter Try.func101, Try.ntmps101
  go_wp2_with fail
  refine (rais_is i n HACT.out H.out.T H.out.ok).mono ?_
  rintro e w1 ⟨rfl, hT1, hA1⟩
  have hok : ∀ p, p ∈ ps' → p.Ok := by
    have := act_ok (keeps_rais n) H.out.ok i (may := inB n 0 63)
    rw [HACT.out] at this
    exact this
  have H1 := Lib.hid (H.out.tab hT1 hok hA1)
  have HK1 : Hid (Kept w w1 (inD d t g l m V v)) := hA1.kept.mono (fun i _ e => .inr (.inr (.inl e)))
  clear hT1 hA1 c0 hok
  go_wp2_with fail
  refine (HF.out w1 H1.out).mono ?_
  intro e w2 hp
  have HP := Lib.hid ((DPost.after HK1.out hp).to (r' := .int .i64 0))
  obtain ⟨rfl, -⟩ := hp
  go_wp2
  go_ret
  exact HP.out

end Go.Proofs.Ytgnjenmicojgnaa

namespace Go.Proofs.Ytgnjenmicojgnaa
set_option linter.unusedVariables false
set_option linter.unusedSimpArgs false
open Go.RowKit

/-- A Dispatch that a call has made itself, in a world behind w0. -/
structure Lives (w0 w : World) (d t g c l m : Nat) (V : Nat → Value) (v : Value) (ps : List Pr) (R : Nat → List Int) (Q : List (Int × Int)) : Prop where
  D : Dsp w d t g c l m V v ps R Q
  low : ∀ i, inD d t g l m V v i → w0.heap.size ≤ i
  bel : Below w0.heap.size w0 w

section
variable {w0 w w' : World} {d t g c l m : Nat} {V : Nat → Value} {v : Value} {ps ps' : List Pr} {R R' : Nat → List Int} {Q Q' : List (Int × Int)}

theorem Lives.step {r : Value} {e : Ending} (h : Lives w0 w d t g c l m V v ps R Q) (hp : DPost w d t g c l m V v ps' R' Q' r e w') : e = .returned r ∧ ∃ V' v', Lives w0 w' d t g c l m V' v' ps' R' Q' ∧ Kept w w' (inD d t g l m V v) ∧ (∀ i, inD d t g l m V' v' i → inD d t g l m V v i ∨ w.heap.size ≤ i) := by
  obtain ⟨he, V', v', h1, h2, h3⟩ := hp
  refine ⟨he, V', v', ⟨h1, fun i hi => ?_, h.bel.trans (h2.below h.bel.size h.low)⟩, h2, h3⟩
  rcases h3 i hi with h4 | h4
  · exact h.low i h4
  · exact Nat.le_trans h.bel.size h4

theorem Lives.below (h : Lives w0 w d t g c l m V v ps R Q) (hb : Below w.heap.size w w') : Lives w0 w' d t g c l m V v ps R Q :=
  ⟨h.D.below hb, h.low, h.bel.trans (hb.mono h.bel.size)⟩
end

def tAt : At := ⟨3, 0, 0, 0, 0⟩
def tP (raised : Int) : Pr := ⟨3, 0, 0, 0, 0, 1, false, 3, raised, 0, 0, 0, false⟩
def tR1 : Nat → List Int := upd r0 3 (r0 3 ++ [0])
def tR2 : Nat → List Int := upd tR1 3 (tR1 3 ++ [1])
def tR3 : Nat → List Int := upd tR2 3 ((tR2 3).erase 0)
def tR4 : Nat → List Int := upd tR3 3 (tR3 3 ++ [0])
def tR5 : Nat → List Int := upd tR4 3 ((tR4 3).erase 0)
def tR6 : Nat → List Int := upd tR5 5 (0 :: tR5 5)
def tR7 : Nat → List Int := upd tR6 5 ((tR6 5).erase 0)
def tR8 : Nat → List Int := upd tR7 3 (0 :: tR7 3)

theorem upd_le {R : Nat → List Int} {q : Nat} {xs : List Int} (h : ∀ p, (R p).length ≤ 1000) (hx : xs.length ≤ 1000) (p : Nat) : (upd R q xs p).length ≤ 1000 := by
  unfold upd
  split
  · exact hx
  · exact h p
theorem tR8_len : ∀ p, (tR8 p).length ≤ 1000 :=
  upd_le (upd_le (upd_le (upd_le (upd_le (upd_le (upd_le (upd_le (fun _ => by simp [r0]) (by decide)) (by decide)) (by decide)) (by decide)) (by decide)) (by decide)) (by decide)) (by decide)

set_option maxRecDepth 100000 in
set_option maxHeartbeats 4000000 in
theorem told_any20 (w : World) : Calls Try.prog 36 #[] w fun e w' => e = .returned (.bool true) ∧ Below w.heap.size w w' := by
  go_enter Try.func36, Try.ntmps36
  go_wp2_with fail
  refine (dnew_any (some ⟨w.heap.size, 0, none⟩) 2 2 [tAt, tAt] _ rfl ?_ (by omega) (by decide)).mono ?_
  · intro _
    refine ⟨w.heap.size, 0, rfl, by simp, fun k a hk => ?_⟩
    match k, hk with
    | 0, hk =>
      simp at hk
      subst hk
      constructor <;> simp [tAt]
    | 1, hk =>
      simp at hk
      subst hk
      constructor <;> simp [tAt]
  rintro e w1 ⟨d, t, g, c, l, m, rfl, hD, hlow, hb1⟩
  have L1 : Hid (Lives w w1 d t g c l m v0 (.slice none 0 0) ([tAt, tAt].map prOf) r0 []) := ⟨hD, fun i hi => Nat.le_trans (by simp) (hlow i hi), ((Below.refl _ _).alloc (Nat.le_refl _) _).trans (hb1.mono (by simp))⟩
  clear hD hlow hb1
  go_wp2_with fail
  refine (dstart_ok (ps' := [tP 0, prOf tAt]) (R' := tR1) L1.out.D 0 0 rfl (fun W hW => follow_put hW 0 3 (by omega) (by omega) rfl rfl rfl (by kernel_rfl) (by decide) (by decide) rfl)).mono ?_
  intro e w2 hp
  obtain ⟨rfl, V2, v2, hl2, -, -⟩ := L1.out.step hp
  have L2 := Lib.hid hl2
  clear hp hl2
  go_wp2_with fail
  refine (dstart_ok (ps' := [tP 0, tP 0]) (R' := tR2) L2.out.D 1 0 rfl (fun W hW => follow_put hW 1 3 (by omega) (by omega) rfl rfl rfl (by kernel_rfl) (by decide) (by decide) rfl)).mono ?_
  intro e w3 hp
  obtain ⟨rfl, V3, v3, hl3, -, -⟩ := L2.out.step hp
  have L3 := Lib.hid hl3
  clear hp hl3
  go_wp2_with fail
  refine (pick_any L3.out.D (x := 0) (b := true) (by kernel_rfl) (by kernel_rfl)).mono ?_
  rintro e w4 ⟨rfl, hb4⟩
  have L4 := Lib.hid (L3.out.below hb4)
  clear hb4
  go_wp2_with fail
  refine (yield_any L4.out.D 0 3 3 (by omega) (by simp) (by omega) (by kernel_rfl) rfl (by kernel_rfl) (by decide)).mono ?_
  intro e w5 hp
  obtain ⟨rfl, V5, v5, hl5, -, -⟩ := L4.out.step (show DPost w4 d t g c l m V3 v3 [tP 0, tP 0] tR4 [] _ _ _ from hp)
  have L5 := Lib.hid hl5
  clear hp hl5
  go_wp2_with fail
  refine (pick_any L5.out.D (x := 1) (b := true) (by kernel_rfl) (by kernel_rfl)).mono ?_
  rintro e w6 ⟨rfl, hb6⟩
  have L6 := Lib.hid (L5.out.below hb6)
  clear hb6
  go_wp2_with fail
  refine (draise_ok (ps' := [tP 5, tP 0]) (R' := tR6) L6.out.D 0 5 rfl (fun W hW => move_up (R1 := tR5) hW 0 3 5 (by omega) (by omega) (by omega) (by kernel_rfl) rfl rfl (by kernel_rfl) (by decide))).mono ?_
  intro e w7 hp
  obtain ⟨rfl, V7, v7, hl7, -, -⟩ := L6.out.step hp
  have L7 := Lib.hid hl7
  clear hp hl7
  go_wp2_with fail
  refine (pick_any L7.out.D (x := 0) (b := true) (by kernel_rfl) (by kernel_rfl)).mono ?_
  rintro e w8 ⟨rfl, hb8⟩
  have L8 := Lib.hid (L7.out.below hb8)
  clear hb8
  go_wp2_with fail
  refine (draise_ok (ps' := [tP 0, tP 0]) (R' := tR8) L8.out.D 0 0 rfl (fun W hW => move_up (R1 := tR7) hW 0 5 3 (by omega) (by omega) (by omega) (by kernel_rfl) rfl rfl (by kernel_rfl) (by decide))).mono ?_
  intro e w9 hp
  obtain ⟨rfl, V9, v9, hl9, -, -⟩ := L8.out.step hp
  have L9 := Lib.hid hl9
  clear hp hl9
  go_wp2_with fail
  refine (ready_any L9.out.D tR8_len).mono ?_
  rintro e w10 ⟨u, rfl, ho, hf, hb10⟩
  have HO : Hid (Own w10 u [0, 1]) := by
    rw [show allR tR8 = [0, 1] by kernel_rfl] at ho
    exact ho
  have HB10 : Hid (Below w.heap.size w w10) := L9.out.bel.trans (hb10.mono L9.out.bel.size)
  clear ho hf hb10
  go_wp2_with fail
  have hri : RI (w10.alloc (.cells #[.int .i64 0, .int .i64 1] 3)) (.slice (some ⟨w10.heap.size, 0, none⟩) 2 2) [0, 1] := ⟨_, _, rfl, fun j z hz => ⟨w10.heap.size, 0, rfl, by simp, by
    match j, hz with
    | 0, hz => simp at hz; subst hz; simp
    | 1, hz => simp at hz; subst hz; simp⟩⟩
  refine (same20_any u (.slice (some ⟨w10.heap.size, 0, none⟩) 2 2) [0, 1] [0, 1] _ (HO.out.alloc _).ri hri (by simp)).mono ?_
  rintro e w11 ⟨rfl, hb11⟩
  have HB11 : Hid (Below w.heap.size w w11) := (HB10.out.alloc HB10.out.size _).trans (hb11.mono (by have := HB10.out.size; simp; omega))
  clear hb11 hri
  go_wp2
  go_ret
  exact ⟨rfl, HB11.out⟩

end Go.Proofs.Ytgnjenmicojgnaa
