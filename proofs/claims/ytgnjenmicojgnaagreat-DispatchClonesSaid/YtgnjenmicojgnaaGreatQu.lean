/-
  Clones of rows, of a list of package ready, of timers.
  What Clone of a Dispatch makes.
  Two addresses that differ.
  What slices.Equal tells of rows and of timers; what Same of two lists and of two timers tells.
  What Same of two Dispatches tells.
  The document's timers in their order; the same timers?
  The same timers, in the document's order?
  The plain law of Same: of two like tables the rows are the same just if the ids are.
-/
import Derived.Test.YtgnjenmicojgnaaGreatK2w
import Derived.Test.YtgnjenmicojgnaaGreatM5w
import Derived.Test.YtgnjenmicojgnaaGreatP3w
import Derived.Deep.RegionHeld
import Derived.LaidEqlPtr
import Derived.Test.YtgnjenmicojgnaaGreatK3w
import Derived.BigQuiet
import Derived.Deep.QuietTactic
import Derived.Test.YtgnjenmicojgnaaGreatQb
import Derived.Test.YtgnjenmicojgnaaGreatK0w
import Derived.Deep.RegionWith
import Derived.Test.YtgnjenmicojgnaaGreatN4w
import Derived.Test.YtgnjenmicojgnaaGreatS0w
import Derived.Test.YtgnjenmicojgnaaGreatS3w
namespace Go.Proofs.YtgnjenmicojgnaaGreat
set_option linter.unusedVariables false
set_option linter.unusedSimpArgs false
open Go.RowKit

def CloRow (w : World) (xs : List Int) (e : Ending) (w' : World) : Prop := ∃ u, e = .returned u ∧ Own w' u xs ∧ (∀ b, u.ownBlock = some b → w.heap.size ≤ b) ∧ Below w.heap.size w w'

set_option maxRecDepth 100000 in
set_option maxHeartbeats 1000000 in
theorem clorow_any (v : Value) (xs : List Int) (w : World) (h : Own w v xs) (hl : xs.length ≤ 1000) : Calls Tryz.prog 98 #[v] w (CloRow w xs) := by
  have hnil := fun (wx : World) (a : Option Addr) (n c n' c' : Nat) => Lib.run_eql_slice_nil (P := Tryz.prog) wx 121 3 a n c n' c' Tryz.underlying121
  rcases h.shape with ⟨h1, h2⟩ | ⟨g, c, cur, h1, h2, h3, h4, h5, h6⟩
  · subst h1 h2
    have HP : Hid (CloRow w [] (.returned (.slice none 0 0)) w) := ⟨_, rfl, Own.nil w, fun b hb => by simp [Value.ownBlock] at hb, Below.refl _ _⟩
    clear h
    go_enter Tryz.func98, Tryz.ntmps98
    go_wp2
    go_ret
    exact HP.out
  · subst h1
    have hb0 : Below w.heap.size w (w.alloc (.cells #[] 3)) := (Below.refl _ _).alloc (Nat.le_refl _) _
    have hown : Own (w.alloc (.cells #[] 3)) (.slice (some ⟨w.heap.size, 0, none⟩) 0 0) [] := Own.make (xs := []) (heap_alloc_new w _) rfl (Nat.le_refl _) (Nat.zero_le _) (fun i x hx => by simp at hx)
    have hro : Own (w.alloc (.cells #[] 3)) (.slice (some ⟨g, 0, none⟩) xs.length c) xs := h.keep (fun k hk => Below.heap_alloc w _ k (h.lt k hk))
    obtain ⟨v', w', hrun, ho, hg, hf⟩ := own_append (t := 121) (tx := 121) (ty := 121) Tryz.underlying121 Tryz.underlying121 hown hro.reads (by simp; omega)
    obtain ⟨n, hn⟩ : ∃ n, xs.length = n := ⟨_, rfl⟩
    rw [hn] at hrun
    have HP : Hid (CloRow w xs (.returned v') w') := ⟨v', rfl, ho, fun b hb => by
      rcases hf b hb with h7 | h7
      · simp [Value.ownBlock] at h7; omega
      · simp at h7; omega, hb0.grown hg (by simp) (fun k hk => by simp [Value.ownBlock] at hk; omega)⟩
    rw [hn]
    clear h h2 h3 h4 h5 h6 hb0 hown hro ho hg hf hn
    go_enter Tryz.func98, Tryz.ntmps98
    go_wp2_with (first | (at_builtin; refine Lib.wpList_append_run _ rfl (.tmp 5) (.tmp 6) 121 121 rfl _ _ rfl rfl _ _ hrun ?_))
    go_ret
    exact HP.out

def CloT (w : World) (qs : List (Int × Int)) (e : Ending) (w' : World) : Prop := ∃ u, e = .returned u ∧ OwnP 131 w' u qs ∧ (∀ b, u.ownBlock = some b → w.heap.size ≤ b) ∧ Below w.heap.size w w'

set_option maxRecDepth 100000 in
set_option maxHeartbeats 1000000 in
theorem clot_any (v : Value) (qs : List (Int × Int)) (w : World) (h : OwnP 131 w v qs) (hl : qs.length ≤ 1000) : Calls Tryz.prog 99 #[v] w (CloT w qs) := by
  have hnil := fun (wx : World) (a : Option Addr) (n c n' c' : Nat) => Lib.run_eql_slice_nil (P := Tryz.prog) wx 128 131 a n c n' c' Tryz.underlying128
  rcases h.shape with ⟨h1, h2⟩ | ⟨g, c, cur, h1, h2, h3, h4, h5, h6⟩
  · subst h1 h2
    have HP : Hid (CloT w [] (.returned (.slice none 0 0)) w) := ⟨_, rfl, OwnP.nil 131 w, fun b hb => by simp [Value.ownBlock] at hb, Below.refl _ _⟩
    clear h
    go_enter Tryz.func99, Tryz.ntmps99
    go_wp2
    go_ret
    exact HP.out
  · subst h1
    have hb0 : Below w.heap.size w (w.alloc (.cells #[] 131)) := (Below.refl _ _).alloc (Nat.le_refl _) _
    have hown : OwnP 131 (w.alloc (.cells #[] 131)) (.slice (some ⟨w.heap.size, 0, none⟩) 0 0) [] := OwnP.make (qs := []) (heap_alloc_new w _) rfl (Nat.le_refl _) (Nat.zero_le _) (fun j u hu => by simp [pv, flatG] at hu)
    have hro : ReadsP (w.alloc (.cells #[] 131)) (.slice (some ⟨g, 0, none⟩) qs.length c) qs := by
      refine ⟨_, _, rfl, fun hne => ⟨_, rfl, fun j u hu => ?_⟩⟩
      rw [Addr.add_lit, Nat.zero_add, World.cell?_of_block (a := ⟨g, j, none⟩) (w := w) (Below.heap_alloc w _ g (Array.getElem?_eq_some_iff.1 h2).1), cell_of_row w g j cur 131 (0, 0) h2]
      exact h6 j u hu
    obtain ⟨v', w', hrun, ho, hg, hf⟩ := own_appendP (t := 128) (ty := 128) Tryz.underlying128 info131 hown hro (by simp; omega)
    obtain ⟨n, hn⟩ : ∃ n, qs.length = n := ⟨_, rfl⟩
    rw [hn] at hrun
    have HP : Hid (CloT w qs (.returned v') w') := ⟨v', rfl, ho, fun b hb => by
      rcases hf b hb with h7 | h7
      · simp [Value.ownBlock] at h7; omega
      · simp at h7; omega, hb0.grown hg (by simp) (fun k hk => by simp [Value.ownBlock] at hk; omega)⟩
    rw [hn]
    clear h h2 h3 h4 h5 h6 hb0 hown hro ho hg hf hn
    go_enter Tryz.func99, Tryz.ntmps99
    go_wp2_with (first | (at_builtin; refine Lib.wpList_append_run _ rfl (.tmp 5) (.tmp 6) 128 128 rfl _ _ rfl rfl _ _ hrun ?_))
    go_ret
    exact HP.out

def TClo (w : World) (qs : List (Int × Int)) (e : Ending) (w' : World) : Prop := ∃ m' v', e = .returned (.pointer (some ⟨m', 0, none⟩)) ∧ Tms w' m' v' qs ∧ (∀ i, inT m' v' i → w.heap.size ≤ i) ∧ Below w.heap.size w w'

set_option maxRecDepth 100000 in
set_option maxHeartbeats 1000000 in
theorem tclone_any (m : Nat) (v : Value) (qs : List (Int × Int)) (w : World) (h : Tms w m v qs) (hl : qs.length ≤ 1000) : Calls Tryz.prog 53 #[.pointer (some ⟨m, 0, none⟩)] w (TClo w qs) := by
  have hc := h.cell
  have hm := h.lt (.inl rfl)
  have HC := Lib.hid (clot_any v qs w h.own hl)
  clear h
  go_enter Tryz.func53, Tryz.ntmps53
  go_wp2_with fail
  refine HC.out.mono ?_
  rintro e w1 ⟨u, rfl, ho, hf, hb⟩
  have HP : Hid (TClo w qs (.returned (.pointer (some ⟨w1.heap.size, 0, none⟩))) (w1.alloc (.cells #[u] 133))) := by
    refine ⟨w1.heap.size, u, rfl, ⟨heap_alloc_new w1 _, ho.alloc _, fun e => by have := ho.lt _ e; omega⟩, ?_, hb.alloc hb.size _⟩
    rintro i (rfl | hi)
    · exact hb.size
    · exact hf i hi
  obtain ⟨a, n, c, rfl⟩ : ∃ a n c, u = .slice a n c := by obtain ⟨a, c, h⟩ := ho.sl; exact ⟨a, _, c, h⟩
  clear ho hf hb HC
  go_wp2
  go_ret
  exact HP.out

def LClo (w : World) (R : Nat → List Int) (e : Ending) (w' : World) : Prop := ∃ l' V', e = .returned (.pointer (some ⟨l', 0, none⟩)) ∧ Rdy w' l' V' R ∧ (∀ i, inL l' V' i → w.heap.size ≤ i) ∧ Below w.heap.size w w'

/-- The first k rows have been copied. -/
def upto (R : Nat → List Int) (k : Nat) : Nat → List Int := fun p => if p < k then R p else []
theorem upto_succ (R : Nat → List Int) (k : Nat) : upd (upto R k) k (R k) = upto R (k + 1) := by
  funext p
  unfold upd upto
  by_cases e : p = k
  · subst e; rw [if_pos rfl, if_pos (by omega)]
  · rw [if_neg e]
    by_cases h : p < k
    · rw [if_pos h, if_pos (by omega)]
    · rw [if_neg h, if_neg (by omega)]

theorem Rdy.congr {w : World} {l : Nat} {V : Nat → Value} {R R' : Nat → List Int} (h : Rdy w l V R) (he : ∀ p, p < 64 → R p = R' p) : Rdy w l V R' := by
  obtain ⟨s, h1, h2⟩ := h.hdr
  exact ⟨⟨s, h1, h2.congr (fun q hq => by rw [he q hq])⟩, fun p hp => by rw [← he p hp]; exact h.rows p hp, h.apart, h.lne⟩

set_option maxRecDepth 100000 in
set_option maxHeartbeats 2000000 in
theorem lclone_any (l : Nat) (V : Nat → Value) (R : Nat → List Int) (w : World) (h : Rdy w l V R) (hlen : ∀ p, (R p).length ≤ 1000) : Calls Tryz.prog 52 #[.pointer (some ⟨l, 0, none⟩)] w (LClo w R) := by
  obtain ⟨s, hh, hw⟩ := h.hdr
  have hload : ∀ W, Below w.heap.size w W → W.rangeAt l 0 ((List.range 64).map V) := by
    intro W hb j v hj
    rw [List.getElem?_map] at hj
    by_cases hj64 : j < 64
    · rw [List.getElem?_range hj64] at hj
      simp at hj
      subst hj
      rw [Nat.zero_add]
      exact (hb.cell (p := ⟨l, j, none⟩) hh.lt).trans (hh.row hj64)
    · rw [List.getElem?_eq_none_iff.2 (by simp; omega)] at hj
      cases hj
  obtain ⟨AL, hAL⟩ : ∃ AL, AL = (List.range 64).map V := ⟨_, rfl⟩
  have hsz : AL.length = 64 := by rw [hAL]; simp
  have hat : ∀ k, k < 64 → AL[k]? = some (V k) := fun k hk => by rw [hAL, List.getElem?_map, List.getElem?_range hk]; rfl
  rw [← hAL] at hload
  have HL := Lib.hid hload
  have HSZ := Lib.hid hsz
  have HAT := Lib.hid hat
  clear hAL hload hat hsz
  have HR := Lib.hid h
  have HLEN := Lib.hid hlen
  have hl := hh.lt
  clear h hh hw hlen
  go_enter Tryz.func52, Tryz.ntmps52
  go_wp2_with fail
  refine (lnew_any w).mono ?_
  rintro e w1 ⟨rfl, hr0, hb1, hs1⟩
  have H0 : Hid (Rdy w1 w.heap.size v0 (upto R 0)) := hr0.congr (fun p _ => by simp [r0, upto])
  have HB1 := Lib.hid hb1
  obtain ⟨l2, hl2⟩ : ∃ l2, w.heap.size = l2 := ⟨_, rfl⟩
  have hl1 : l < w1.heap.size := by have := hb1.size; omega
  rw [hl2] at H0 ⊢
  have HL2 := Lib.hid hl2
  clear hr0 hb1 hs1 hl2
  go_wp2_with (first | (refine wpList_load_mid rfl 122 _ rfl l 0 rfl AL _ (HL.out _ HB1.out) Tryz.underlying122 rfl (by rw [HSZ.out]; kernel_rfl) ?_))
  go_loopw [13] (fun s13 wr => ∃ (k : Nat) (V' : Nat → Value), k ≤ 64 ∧ s13 = .int .i64 k ∧ Rdy wr l2 V' (upto R k) ∧ (∀ i, inL l2 V' i → w.heap.size ≤ i) ∧ Below w.heap.size w wr) (fun i _ => 64 - (intOf i).toNat)
  case atStart => exact ⟨0, v0, by omega, rfl, H0.out, fun i hi => by rw [inL_new] at hi; have := HL2.out; omega, HB1.out⟩
  case round =>
    clear H0
    obtain ⟨k, V', hk, rfl, hr, hf, hb⟩ := hrel
    have HRr := Lib.hid hr
    have HF := Lib.hid hf
    have HB := Lib.hid hb
    clear hr hf hb
    by_cases hlt : k < 64
    · obtain ⟨a, n, c, hV⟩ : ∃ a n c, V k = .slice a n c := by obtain ⟨a, c, h⟩ := (HR.out.rows k hlt).sl; exact ⟨a, _, c, h⟩
      have hget : AL.toArray[k]? = some (.slice a n c) := by
        rw [List.getElem?_toArray, HAT.out k hlt, hV]
      have hidx := fun W => index_rows hget hlt W
      have hown : Own wr (.slice a n c) (R k) := by
        rw [← hV]
        exact (HR.out.rows k hlt).keep (fun b hb => HB.out.block b ((HR.out.rows k hlt).lt b hb))
      have HCL := Lib.hid (clorow_any (.slice a n c) (R k) wr hown (HLEN.out k))
      clear hV hget hown
      go_wp2_with fail
      refine HCL.out.mono ?_
      rintro e w2 ⟨u, rfl, ho, hfu, hb2⟩
      obtain ⟨ua, uc, hus⟩ := ho.sl
      obtain ⟨un, hun⟩ : ∃ un, (R k).length = un := ⟨_, rfl⟩
      rw [hun] at hus
      subst hus
      have HR2 := Lib.hid (HRr.out.below hb2)
      obtain ⟨s2, hh2, hw2⟩ := HR2.out.hdr
      have HH2 := Lib.hid hh2
      have HW2 := Lib.hid hw2
      have HO := Lib.hid ho
      have HFU := Lib.hid hfu
      have HB2 := Lib.hid hb2
      have HUN := Lib.hid hun
      clear ho hfu hb2 hh2 hw2 hun HCL
      go_wp2_with fail
      refine (note_any l2 k V' s2 _ ua un uc w2 HH2.out hlt HW2.out).mono ?_
      rintro e w3 ⟨rfl, s', hh3, hw3, hk3⟩
      obtain ⟨q1, q2, q3⟩ := HRr.out.step hlt (Kept.of_below HB2.out) HO.out HUN.out.symm (fun b hb => .inr (HFU.out b hb)) hh3 hw3 hk3
      rw [upto_succ] at q1
      have HQ1 := Lib.hid q1
      have HQ2 : Hid (∀ i, inL l2 (upd V' k (.slice ua un uc)) i → w.heap.size ≤ i) := fun i hi => by
        rcases q3 i hi with h5 | h5
        · exact HF.out i h5
        · exact Nat.le_trans HB.out.size h5
      have HQ3 : Hid (Below w.heap.size w w3) := HB.out.trans (q2.below HB.out.size (fun i hi => HF.out i hi))
      clear q1 q2 q3 hh3 hw3 hk3
      go_wp2_with fail
      go_roundw
      case rel => exact ⟨k + 1, _, by omega, by go_num, HQ1.out, HQ2.out, HQ3.out⟩
      case measure => simp [intOf]; omega
    · obtain rfl : k = 64 := by omega
      have HP : Hid (LClo w R (.returned (.pointer (some ⟨l2, 0, none⟩))) wr) := ⟨l2, V', rfl, HRr.out.congr (fun p hp => by unfold upto; rw [if_pos hp]), HF.out, HB.out⟩
      go_wp2_with fail
      go_ret
      exact HP.out

end Go.Proofs.YtgnjenmicojgnaaGreat

namespace Go.Proofs.YtgnjenmicojgnaaGreat
set_option linter.unusedVariables false
set_option linter.unusedSimpArgs false
open Go.RowKit

def DClo (w : World) (ps : List Pr) (R : Nat → List Int) (Q : List (Int × Int)) (e : Ending) (w' : World) : Prop :=
  ∃ d t g c l m V v, e = .returned (.pointer (some ⟨d, 0, none⟩)) ∧ Dsp w' d t g c l m V v ps R Q ∧ (∀ i, inD d t g l m V v i → w.heap.size ≤ i) ∧ Below w.heap.size w w' ∧ ∃ cs, w'.heap[d]? = some (.cells cs 76 (0, 0))

theorem tab_nil2 {w : World} {t g c : Nat} {ps : List Pr} (h : Tab w t g c ps) (hz : ps.length = 0) (g' : Nat) : Tab w t g' c ps := by
  refine ⟨?_, fun hn => absurd hz hn, h.len⟩
  have := h.hdr
  unfold slc at this ⊢
  rw [if_pos hz] at this ⊢
  exact this

theorem clone_end {w wF : World} {ps : List Pr} {R : Nat → List Int} {Q : List (Int × Int)} {t g c l m at_ bt al bl am bm : Nat} {V : Nat → Value} {v : Value} (hb : Below w.heap.size w wF) (hT : Tab wF t g c ps) (hok : ∀ p, p ∈ ps → p.Ok) (hL : Rdy wF l V R) (hM : Tms wF m v Q)
    (ht : at_ ≤ t ∧ t < bt) (hg : ps.length ≠ 0 → at_ ≤ g ∧ g < bt) (hl : ∀ i, inL l V i → al ≤ i ∧ i < bl) (hm : ∀ i, inT m v i → am ≤ i ∧ i < bm) (h1 : bt ≤ al ∨ bl ≤ at_) (h2 : bt ≤ am ∨ bm ≤ at_) (h3 : bl ≤ am ∨ bm ≤ al)
    (ha : w.heap.size ≤ at_ ∧ w.heap.size ≤ al ∧ w.heap.size ≤ am) (hbb : bt ≤ wF.heap.size ∧ bl ≤ wF.heap.size ∧ bm ≤ wF.heap.size) :
    DClo w ps R Q (.returned (.pointer (some ⟨wF.heap.size, 0, none⟩))) (wF.alloc (.cells #[.pointer (some ⟨t, 0, none⟩), .pointer (some ⟨l, 0, none⟩), .pointer (some ⟨m, 0, none⟩)] 76)) := by
  obtain ⟨g', hT', hg'⟩ : ∃ g', Tab wF t g' c ps ∧ at_ ≤ g' ∧ g' < bt := by
    by_cases hz : ps.length = 0
    · exact ⟨t, tab_nil2 hT hz t, ht⟩
    · exact ⟨g, hT, hg hz⟩
  have hba : Below wF.heap.size wF (wF.alloc (.cells #[.pointer (some ⟨t, 0, none⟩), .pointer (some ⟨l, 0, none⟩), .pointer (some ⟨m, 0, none⟩)] 76)) := (Below.refl _ _).alloc (Nat.le_refl _) _
  have hc : ∀ j, (wF.alloc (.cells #[.pointer (some ⟨t, 0, none⟩), .pointer (some ⟨l, 0, none⟩), .pointer (some ⟨m, 0, none⟩)] 76)).cell? ⟨wF.heap.size, j, none⟩ = (#[.pointer (some ⟨t, 0, none⟩), .pointer (some ⟨l, 0, none⟩), .pointer (some ⟨m, 0, none⟩)] : Array Value)[j]? := fun j => by rw [cell_of_row _ _ _ _ 76 (0, 0) (heap_alloc_new wF _)]
  refine ⟨wF.heap.size, t, g', c, l, m, V, v, rfl, ⟨hc 0, hc 1, hc 2, by simp, by simp; omega, hT'.below hba, hok, hL.below hba, hM.below hba, by omega, fun h => by have := hl _ h; omega, fun h => by have := hm _ h; omega, fun h => by have := hl _ h; omega, fun h => by have := hm _ h; omega, fun h => by have := hl _ h; omega, fun h => by have := hm _ h; omega, fun i h h' => by have := hl _ h; have := hm _ h'; omega⟩, ?_, hb.trans (hba.mono hb.size), _, heap_alloc_new wF _⟩
  rintro i (rfl | rfl | rfl | hi | hi)
  · exact hb.size
  · omega
  · omega
  · have := hl _ hi; omega
  · have := hm _ hi; omega

set_option maxRecDepth 100000 in
set_option maxHeartbeats 4000000 in
theorem dclone_any {w : World} {d t g c l m : Nat} {V : Nat → Value} {v : Value} {ps : List Pr} {R : Nat → List Int} {Q : List (Int × Int)} (h : Dsp w d t g c l m V v ps R Q) (hlen : ∀ p, (R p).length ≤ 1000) (hQ : Q.length ≤ 900) :
    Calls Tryz.prog 18 #[.pointer (some ⟨d, 0, none⟩)] w (DClo w ps R Q) := by
  have c0 := h.c0
  have c1 := h.c1
  have c2 := h.c2
  have hdl := h.dl
  have H := Lib.hid h
  have HT := Lib.hid (fun (W : World) (hb : Below w.heap.size w W) => clone_any t g c ps W (h.below hb).T)
  have HL := Lib.hid (fun (W : World) (hb : Below w.heap.size w W) => lclone_any l V R W (h.below hb).L hlen)
  have HM := Lib.hid (fun (W : World) (hb : Below w.heap.size w W) => tclone_any m v Q W (h.below hb).M (by omega))
  have HC : Hid (∀ W, Below w.heap.size w W → W.cell? ⟨d, 0, none⟩ = some (.pointer (some ⟨t, 0, none⟩)) ∧ W.cell? ⟨d, 1, none⟩ = some (.pointer (some ⟨l, 0, none⟩)) ∧ W.cell? ⟨d, 2, none⟩ = some (.pointer (some ⟨m, 0, none⟩))) := fun W hb => ⟨(h.below hb).c0, (h.below hb).c1, (h.below hb).c2⟩
  clear h hlen hQ
  go_enter Tryz.func18, Tryz.ntmps18
  go_wp2_with fail
  go_region_held (fun w' => w'.cell? ⟨d, 0, none⟩ = some (.pointer (some ⟨t, 0, none⟩)) ∧ w'.cell? ⟨d, 1, none⟩ = some (.pointer (some ⟨l, 0, none⟩)) ∧ w'.cell? ⟨d, 2, none⟩ = some (.pointer (some ⟨m, 0, none⟩)))
    (first | (exact ⟨c0, c1, c2⟩) | (exact HC.out _ HBt.out) | (exact HC.out _ HBl.out) | (exact HC.out _ HBm.out) | (exact HC.out _ (HBt.out.alloc HBt.out.size _)) | (exact HC.out _ (HBl.out.alloc HBl.out.size _)) | (exact HC.out _ (HBm.out.alloc HBm.out.size _)))
    (first
      | (go_at_call 20; refine (HT.out _ (by first | exact (Below.refl _ _).drew | exact HBl.out | exact HBm.out)).mono ?_; rintro e wt ⟨t', g', c', rfl, hT, ht, hg, hbt⟩; have HBt : Hid (Below w.heap.size w wt) := (by first | exact HBl.out.trans (hbt.mono HBl.out.size) | exact HBm.out.trans (hbt.mono HBm.out.size) | exact (Below.refl _ _).drew.trans (hbt.mono (Nat.le_refl _))); have HHt := Lib.hid hbt; have HTt := Lib.hid hT; have Ht := Lib.hid ht; have Hg := Lib.hid hg; clear hT ht hg hbt)
      | (go_at_call 52; refine (HL.out _ (by first | exact (Below.refl _ _).drew | exact HBt.out | exact HBm.out)).mono ?_; rintro e wl ⟨l', V', rfl, hL, hl, hbl⟩; have HBl : Hid (Below w.heap.size w wl) := (by first | exact HBt.out.trans (hbl.mono HBt.out.size) | exact HBm.out.trans (hbl.mono HBm.out.size) | exact (Below.refl _ _).drew.trans (hbl.mono (Nat.le_refl _))); have HHl := Lib.hid hbl; have HLl := Lib.hid hL; have Hl := Lib.hid hl; clear hL hl hbl)
      | (go_at_call 53; refine (HM.out _ (by first | exact (Below.refl _ _).drew | exact HBt.out | exact HBl.out)).mono ?_; rintro e wm ⟨m', v', rfl, hM, hm, hbm⟩; have HBm : Hid (Below w.heap.size w wm) := (by first | exact HBt.out.trans (hbm.mono HBt.out.size) | exact HBl.out.trans (hbm.mono HBl.out.size) | exact (Below.refl _ _).drew.trans (hbm.mono (Nat.le_refl _))); have HHm := Lib.hid hbm; have HMm := Lib.hid hM; have Hm := Lib.hid hm; clear hM hm hbm))
  have hst := HBt.out.size
  have hsl := HHl.out.size
  have hsm := HHm.out.size
  have hbtm : Below wt.heap.size wt wm := HHl.out.trans (HHm.out.mono hsl)
  have HP := Lib.hid (clone_end HBm.out (HTt.out.below hbtm) H.out.ok (HLl.out.below HHm.out) HMm.out ⟨Ht.out, HTt.out.lt⟩ (fun hz => ⟨Hg.out hz, HTt.out.glt hz⟩) (fun i hi => ⟨Hl.out i hi, HLl.out.lt hi⟩) (fun i hi => ⟨Hm.out i hi, HMm.out.lt hi⟩) (.inl (Nat.le_refl _)) (.inl (by omega)) (.inl (Nat.le_refl _)) ⟨Nat.le_refl _, hst, by omega⟩ ⟨by omega, by omega, Nat.le_refl _⟩)
  clear hst hsl hsm hbtm
  go_wp2
  go_ret
  exact HP.out

end Go.Proofs.YtgnjenmicojgnaaGreat

namespace Go.Proofs.YtgnjenmicojgnaaGreat
set_option linter.unusedVariables false
set_option linter.unusedSimpArgs false

theorem cells_of {W : World} {d : Nat} {v : Value} (h : W.cell? ⟨d, 0, none⟩ = some v) : ∃ c t f, W.heap[d]? = some (.cells c t f) ∧ c.size ≠ 0 := by
  unfold World.cell? at h
  split at h
  · rename_i c t f hc
    refine ⟨c, t, f, hc, ?_⟩
    intro h0
    have : c = #[] := by simpa using h0
    subst this
    simp at h
  · simp at h

theorem other_sameAddr {W : World} {d1 d2 : Nat} {cs : Array Value} {v1 v2 : Value} (h1 : W.heap[d2]? = some (.cells cs 76 (0, 0))) (h2 : W.cell? ⟨d2, 0, none⟩ = some v1) (h3 : W.cell? ⟨d1, 0, none⟩ = some v2) (hne : d2 ≠ d1) :
    (sameAddr ⟨d2, 0, none⟩ ⟨d1, 0, none⟩).run Tryz.prog W = .ok false W := by
  obtain ⟨c, t, f, hc, hz⟩ := cells_of h3
  obtain ⟨c', t', f', hc', hz'⟩ := cells_of h2
  rw [h1] at hc'
  cases hc'
  obtain ⟨lo, hi⟩ := f
  simp [sameAddr, hne, World.frozen?, h1, hc, noView, viewAt, World.shape?, mayBeOne, stringish, hz, hz']

set_option maxRecDepth 100000 in
theorem other_eql {W : World} {d1 d2 : Nat} {cs : Array Value} {v1 v2 : Value} (h1 : W.heap[d2]? = some (.cells cs 76 (0, 0))) (h2 : W.cell? ⟨d2, 0, none⟩ = some v1) (h3 : W.cell? ⟨d1, 0, none⟩ = some v2) (hne : d2 ≠ d1) :
    (binOp .eql 24 (.pointer (some ⟨d2, 0, none⟩)) (.pointer (some ⟨d1, 0, none⟩))).run Tryz.prog W = .ok (.bool false) W := by
  have hp : Tryz.prog.underlying 24 = some (.pointer 76) := by rfl
  obtain ⟨j, hte, hsz⟩ : ∃ j, Tryz.prog.info? 76 = some j ∧ j.size ≠ 0 := ⟨_, rfl, by decide⟩
  have h : ∀ d : Nat, (Op.equalIn (d + 1) 24 (.pointer (some ⟨d2, 0, none⟩)) (.pointer (some ⟨d1, 0, none⟩))).run Tryz.prog W = .ok false W := fun d => by
    simp [Op.equalIn, run_underlying hp, sizeOf, typeInfo, hte, hsz, other_sameAddr h1 h2 h3 hne]
  simp only [binOp]
  simp [Op.equal, Op.maxDepth, h 9999]

end Go.Proofs.YtgnjenmicojgnaaGreat

namespace Go.Proofs.YtgnjenmicojgnaaGreat
set_option linter.unusedVariables false
set_option linter.unusedSimpArgs false
open Go.RowKit

theorem neqP131 (a b c d : Int) (w : World) : (binOp .neq 131 (.agg #[.int .i64 a, .int .i64 b]) (.agg #[.int .i64 c, .int .i64 d])).run Tryz.prog w = .ok (.bool (!(a == c && b == d))) w := by
  obtain ⟨x, hx⟩ : ∃ x, (a == c && b == d) = x := ⟨_, rfl⟩
  rw [hx]
  by_cases h1 : a = c
  · by_cases h2 : b = d
    · have : x = true := by rw [← hx]; simp [h1, h2]
      subst this h1 h2
      go_simp
    · have : x = false := by rw [← hx]; simp [h2]
      subst this h1
      have h3 : (b == d) = false := by simpa using h2
      go_simp
  · have : x = false := by rw [← hx]; simp [h1]
    subst this
    have h3 : (a == c) = false := by simpa using h1
    go_simp
theorem neqP99 (a b c d : Int) (w : World) : (binOp .neq 99 (.agg #[.int .i64 a, .int .i64 b]) (.agg #[.int .i64 c, .int .i64 d])).run Tryz.prog w = .ok (.bool (!(a == c && b == d))) w := by
  obtain ⟨x, hx⟩ : ∃ x, (a == c && b == d) = x := ⟨_, rfl⟩
  rw [hx]
  by_cases h1 : a = c
  · by_cases h2 : b = d
    · have : x = true := by rw [← hx]; simp [h1, h2]
      subst this h1 h2
      go_simp
    · have : x = false := by rw [← hx]; simp [h2]
      subst this h1
      have h3 : (b == d) = false := by simpa using h2
      go_simp
  · have : x = false := by rw [← hx]; simp [h1]
    subst this
    have h3 : (a == c) = false := by simpa using h1
    go_simp

set_option maxRecDepth 100000 in
set_option maxHeartbeats 1000000 in
theorem eqrow_any (x y : Value) (xs ys : List Int) (w : World) (hx : RI w x xs) (hy : RI w y ys) (hl : xs.length ≤ 1000000) :
    Calls Tryz.prog 100 #[x, y] w fun e w' => e = .returned (.bool (decide (xs = ys))) ∧ Below w.heap.size w w' := by
  obtain ⟨ax, cx, rfl, hcx⟩ := hx
  obtain ⟨ay, cy, rfl, hcy⟩ := hy
  have HX := Lib.hid hcx
  have HY := Lib.hid hcy
  obtain ⟨n, hn⟩ : ∃ n, xs.length = n := ⟨_, rfl⟩
  obtain ⟨m, hm⟩ : ∃ m, ys.length = m := ⟨_, rfl⟩
  rw [hn] at hl ⊢
  rw [hm]
  have HN := Lib.hid hn
  have HM := Lib.hid hm
  clear hcx hcy hn hm
  by_cases hne : n = m
  · subst hne
    go_enter Tryz.func100, Tryz.ntmps100
    go_wp2_with fail
    go_loopw [13] (fun s13 wr => ∃ j : Nat, j ≤ n ∧ s13 = .int .i64 j ∧ (∀ (i : Nat), i < j → xs[i]? = ys[i]?) ∧ Below w.heap.size w wr) (fun i _ => n - (intOf i).toNat)
    case atStart => exact ⟨0, by omega, rfl, fun _ hi => absurd hi (Nat.not_lt_zero _), Below.refl _ _⟩
    case round =>
      obtain ⟨j, hj, rfl, hal, hbr⟩ := hrel
      have HAL := Lib.hid hal
      have HB := Lib.hid hbr
      have hbs := hbr.size
      clear hal hbr
      by_cases hjn : j < n
      · obtain ⟨z, hz⟩ : ∃ z, xs[j]? = some z := ⟨_, List.getElem?_eq_getElem (by have := HN.out; omega)⟩
        obtain ⟨z', hz'⟩ : ∃ z, ys[j]? = some z := ⟨_, List.getElem?_eq_getElem (by have := HM.out; omega)⟩
        obtain ⟨b, o, rfl, hbl, hc⟩ := HX.out j z hz
        obtain ⟨b', o', rfl, hbl', hc'⟩ := HY.out j z' hz'
        have e0 := (HB.out.cell (p := ⟨b, o + j, none⟩) hbl).trans hc
        have e1 := (HB.out.cell (p := ⟨b', o' + j, none⟩) hbl').trans hc'
        have hblr : b < wr.heap.size := by omega
        have hblr' : b' < wr.heap.size := by omega
        have HZ := Lib.hid hz
        have HZ' := Lib.hid hz'
        clear hz hz' hc hc'
        by_cases hzz : z = z'
        · have hzb : (z != z') = false := by simp [hzz]
          go_wp2_with fail
          go_quiet (fail)
          go_wp2_with fail
          go_roundw
          case rel =>
            refine ⟨j + 1, by omega, by go_num, fun i hi => ?_, below_drewN HB.out _⟩
            by_cases e : i = j
            · subst e
              rw [HZ.out, HZ'.out, hzz]
            · exact HAL.out i (by omega)
          case measure => simp [intOf]; omega
        · have hzb : (z != z') = true := by simpa using hzz
          have hd : Hid (decide (xs = ys) = false) := by
            unfold Hid
            simp only [decide_eq_false_iff_not]
            rintro rfl
            have := HZ.out.symm.trans HZ'.out
            injection this with this
            exact hzz this
          go_wp2_with fail
          go_quiet (fail)
          go_wp2
          go_ret
          exact ⟨by rw [hd.out]; rfl, below_drewN HB.out _⟩
      · have hd : Hid (decide (xs = ys) = true) := by
          unfold Hid
          simp only [decide_eq_true_eq]
          apply List.ext_getElem?
          intro i
          by_cases hi : i < n
          · exact HAL.out i (by omega)
          · rw [List.getElem?_eq_none_iff.2 (by have := HN.out; omega), List.getElem?_eq_none_iff.2 (by have := HM.out; omega)]
        go_wp2_with fail
        go_ret
        exact ⟨by rw [hd.out]; rfl, HB.out⟩
  · have hnb : ((n : Int) != (m : Int)) = true := by simp; omega
    have hd : Hid (decide (xs = ys) = false) := by
      unfold Hid
      simp only [decide_eq_false_iff_not]
      rintro rfl
      exact hne (HN.out.symm.trans HM.out)
    go_enter Tryz.func100, Tryz.ntmps100
    go_wp2
    go_ret
    exact ⟨by rw [hd.out]; rfl, Below.refl _ _⟩


set_option maxRecDepth 100000 in
set_option maxHeartbeats 2000000 in
theorem eqtim_any (x y : Value) (xs ys : List (Int × Int)) (w : World) (hx : OwnP 131 w x xs) (hy : OwnP 131 w y ys) (hl : xs.length ≤ 1000000) :
    Calls Tryz.prog 101 #[x, y] w fun e w' => e = .returned (.bool (decide (xs = ys))) ∧ Below w.heap.size w w' := by
  obtain ⟨ax, cx, hxs⟩ := hx.sl
  obtain ⟨ay, cy, hys⟩ := hy.sl
  subst hxs hys
  have HX := Lib.hid hx
  have HY := Lib.hid hy
  obtain ⟨n, hn⟩ : ∃ n, xs.length = n := ⟨_, rfl⟩
  obtain ⟨m, hm⟩ : ∃ m, ys.length = m := ⟨_, rfl⟩
  rw [hn] at hl HX ⊢
  rw [hm] at HY ⊢
  have HN := Lib.hid hn
  have HM := Lib.hid hm
  clear hx hy hn hm
  by_cases hne : n = m
  · subst hne
    go_enter Tryz.func101, Tryz.ntmps101
    go_wp2_with fail
    go_loopw [13] (fun s13 wr => ∃ j : Nat, j ≤ n ∧ s13 = .int .i64 j ∧ (∀ (i : Nat), i < j → xs[i]? = ys[i]?) ∧ Below w.heap.size w wr) (fun i _ => n - (intOf i).toNat)
    case atStart => exact ⟨0, by omega, rfl, fun _ hi => absurd hi (Nat.not_lt_zero _), Below.refl _ _⟩
    case round =>
      obtain ⟨j, hj, rfl, hal, hbr⟩ := hrel
      have HAL := Lib.hid hal
      have HB := Lib.hid hbr
      have hbs := hbr.size
      clear hal hbr
      by_cases hjn : j < n
      · obtain ⟨z, hz⟩ : ∃ z, xs[j]? = some z := ⟨_, List.getElem?_eq_getElem (by have := HN.out; omega)⟩
        obtain ⟨z', hz'⟩ : ∃ z, ys[j]? = some z := ⟨_, List.getElem?_eq_getElem (by have := HM.out; omega)⟩
        obtain ⟨b, c1, hv, hbl, e0, e1⟩ := (HX.out.below HB.out).at hz
        injection hv with q1 q2 q3
        subst q1 q3
        obtain ⟨b', c2, hv', hbl', e2, e3⟩ := (HY.out.below HB.out).at hz'
        injection hv' with q4 q5 q6
        subst q4 q6
        obtain ⟨z1, z2⟩ := z
        obtain ⟨y1, y2⟩ := z'
        have hj0 : (0 : Int) ≤ (j : Int) := by omega
        have hjn' : (j : Int) < (n : Int) := by omega
        clear q2 q5
        have HZ := Lib.hid hz
        have HZ' := Lib.hid hz'
        clear hz hz'
        by_cases hzz : (z1, z2) = (y1, y2)
        · have hneq : ∀ W : World, (binOp .neq 131 (.agg #[.int .i64 z1, .int .i64 z2]) (.agg #[.int .i64 y1, .int .i64 y2])).run Tryz.prog W = .ok (.bool false) W := fun W => by
            rw [neqP131, show (z1 == y1 && z2 == y2) = true by injection hzz with k1 k2; simp [k1, k2]]
            rfl
          go_wp2_with fail
          go_quiet (fail)
          go_wp2_with fail
          go_roundw
          case rel =>
            refine ⟨j + 1, by omega, by go_num, fun i hi => ?_, below_drewN HB.out _⟩
            by_cases e : i = j
            · subst e
              rw [HZ.out, HZ'.out, hzz]
            · exact HAL.out i (by omega)
          case measure => simp [intOf]; omega
        · have hneq : ∀ W : World, (binOp .neq 131 (.agg #[.int .i64 z1, .int .i64 z2]) (.agg #[.int .i64 y1, .int .i64 y2])).run Tryz.prog W = .ok (.bool true) W := fun W => by
            rw [neqP131, show (z1 == y1 && z2 == y2) = false by by_cases k1 : z1 = y1 <;> by_cases k2 : z2 = y2 <;> simp_all]
            rfl
          have hd : Hid (decide (xs = ys) = false) := by
            unfold Hid
            simp only [decide_eq_false_iff_not]
            rintro rfl
            have := HZ.out.symm.trans HZ'.out
            injection this with this
            exact hzz this
          go_wp2_with fail
          go_quiet (fail)
          go_wp2
          go_ret
          exact ⟨by rw [hd.out]; rfl, below_drewN HB.out _⟩
      · have hd : Hid (decide (xs = ys) = true) := by
          unfold Hid
          simp only [decide_eq_true_eq]
          apply List.ext_getElem?
          intro i
          by_cases hi : i < n
          · exact HAL.out i (by omega)
          · rw [List.getElem?_eq_none_iff.2 (by have := HN.out; omega), List.getElem?_eq_none_iff.2 (by have := HM.out; omega)]
        go_wp2_with fail
        go_ret
        exact ⟨by rw [hd.out]; rfl, HB.out⟩
  · have hnb : ((n : Int) != (m : Int)) = true := by simp; omega
    have hd : Hid (decide (xs = ys) = false) := by
      unfold Hid
      simp only [decide_eq_false_iff_not]
      rintro rfl
      exact hne (HN.out.symm.trans HM.out)
    go_enter Tryz.func101, Tryz.ntmps101
    go_wp2
    go_ret
    exact ⟨by rw [hd.out]; rfl, Below.refl _ _⟩


set_option maxRecDepth 100000 in
set_option maxHeartbeats 2000000 in
theorem lsame_any (l l2 : Nat) (V V2 : Nat → Value) (R R2 : Nat → List Int) (w : World) (h : Rdy w l V R) (h2 : Rdy w l2 V2 R2) (hlen : ∀ p, (R p).length ≤ 1000) {bb : Bool} (hbb : bb = true ↔ ∀ p, p < 64 → R p = R2 p) :
    Calls Tryz.prog 54 #[.pointer (some ⟨l, 0, none⟩), .pointer (some ⟨l2, 0, none⟩)] w fun e w' => e = .returned (.bool bb) ∧ Below w.heap.size w w' := by
  obtain ⟨s, hh, hw⟩ := h.hdr
  have hload : w.rangeAt l 0 ((List.range 64).map V) := by
    intro j v hj
    rw [List.getElem?_map] at hj
    by_cases hj64 : j < 64
    · rw [List.getElem?_range hj64] at hj
      simp at hj
      subst hj
      rw [Nat.zero_add]
      exact hh.row hj64
    · rw [List.getElem?_eq_none_iff.2 (by simp; omega)] at hj
      cases hj
  obtain ⟨AL, hAL⟩ : ∃ AL, AL = (List.range 64).map V := ⟨_, rfl⟩
  have hsz : AL.length = 64 := by rw [hAL]; simp
  have hat : ∀ k, k < 64 → AL[k]? = some (V k) := fun k hk => by rw [hAL, List.getElem?_map, List.getElem?_range hk]; rfl
  rw [← hAL] at hload
  have HL := Lib.hid hload
  have HSZ := Lib.hid hsz
  have HAT := Lib.hid hat
  clear hAL hload hat hsz
  have HR := Lib.hid h
  have HR2 := Lib.hid h2
  have HLEN := Lib.hid hlen
  have HBB := Lib.hid hbb
  have hl := hh.lt
  have hl2 := h2.lt (.inl rfl)
  clear h h2 hh hw hlen hbb
  go_enter Tryz.func54, Tryz.ntmps54
  go_wp2_with (first | (refine wpList_load_mid rfl 122 _ rfl l 0 rfl AL _ HL.out Tryz.underlying122 rfl (by rw [HSZ.out]; kernel_rfl) ?_))
  go_loopw [20] (fun s20 wr => ∃ k : Nat, k ≤ 64 ∧ s20 = .int .i64 k ∧ (∀ p, p < k → R p = R2 p) ∧ Below w.heap.size w wr) (fun i _ => 64 - (intOf i).toNat)
  case atStart => exact ⟨0, by omega, rfl, fun p hp => absurd hp (Nat.not_lt_zero _), Below.refl _ _⟩
  case round =>
    obtain ⟨k, hk, rfl, hal, hb⟩ := hrel
    have HAL := Lib.hid hal
    have HB := Lib.hid hb
    clear hal hb
    by_cases hlt : k < 64
    · obtain ⟨a, n, c, hV⟩ : ∃ a n c, V k = .slice a n c := by obtain ⟨a, c, h⟩ := (HR.out.rows k hlt).sl; exact ⟨a, _, c, h⟩
      obtain ⟨a2, n2, c2, hV2⟩ : ∃ a n c, V2 k = .slice a n c := by obtain ⟨a, c, h⟩ := (HR2.out.rows k hlt).sl; exact ⟨a, _, c, h⟩
      have hget : AL.toArray[k]? = some (.slice a n c) := by
        rw [List.getElem?_toArray, HAT.out k hlt, hV]
      have hidx := fun W => index_rows hget hlt W
      have hR2r := HR2.out.below HB.out
      obtain ⟨s2, hh2, -⟩ := hR2r.hdr
      have hrow2 := hh2.row hlt
      rw [hV2] at hrow2
      have hl2r := hh2.lt
      have HE : Hid (Calls Tryz.prog 100 #[.slice a n c, .slice a2 n2 c2] wr fun e w' => e = .returned (.bool (decide (R k = R2 k))) ∧ Below wr.heap.size wr w') := by
        have := eqrow_any (V k) (V2 k) (R k) (R2 k) wr ((HR.out.below HB.out).rows k hlt).ri (hR2r.rows k hlt).ri (by have := HLEN.out k; omega)
        rw [hV, hV2] at this
        exact this
      have hk0 : (0 : Int) ≤ (k : Int) := by omega
      have hk64 : (k : Int) < 64 := by omega
      clear hV hV2 hget hR2r hh2
      by_cases heq : R k = R2 k
      · have hdt : decide (R k = R2 k) = true := by simpa using heq
        rw [hdt] at HE
        go_wp2_with fail
        refine HE.out.mono ?_
        rintro e w2 ⟨rfl, hb2⟩
        have HB2 : Hid (Below w.heap.size w w2) := HB.out.trans (hb2.mono HB.out.size)
        have HAL2 : Hid (∀ p, p < k + 1 → R p = R2 p) := fun p hp => by
          by_cases e : p = k
          · rw [e]; exact heq
          · exact HAL.out p (by omega)
        clear hb2 heq hdt
        go_wp2_with fail
        go_roundw
        case rel => exact ⟨k + 1, by omega, by go_num, HAL2.out, HB2.out⟩
        case measure => simp [intOf]; omega
      · have hdf : decide (R k = R2 k) = false := by simpa using heq
        rw [hdf] at HE
        have hbf : bb = false := by
          cases hb : bb with
          | false => rfl
          | true => exact absurd (HBB.out.1 hb k hlt) heq
        subst hbf
        go_wp2_with fail
        refine HE.out.mono ?_
        rintro e w2 ⟨rfl, hb2⟩
        have HB2 : Hid (Below w.heap.size w w2) := HB.out.trans (hb2.mono HB.out.size)
        clear hb2 heq hdf
        go_wp2_with fail
        go_ret
        exact ⟨rfl, HB2.out⟩
    · obtain rfl : k = 64 := by omega
      have hbt : bb = true := HBB.out.2 HAL.out
      subst hbt
      go_wp2_with fail
      go_ret
      exact ⟨rfl, HB.out⟩

set_option maxRecDepth 100000 in
set_option maxHeartbeats 2000000 in
theorem tsame_any (m m2 : Nat) (v v2 : Value) (Q Q2 : List (Int × Int)) (w : World) (h : Tms w m v Q) (h2 : Tms w m2 v2 Q2) (hl : Q.length ≤ 1000) :
    Calls Tryz.prog 55 #[.pointer (some ⟨m, 0, none⟩), .pointer (some ⟨m2, 0, none⟩)] w fun e w' => e = .returned (.bool (decide (Q = Q2))) ∧ Below w.heap.size w w' := by
  have c0 := h.cell
  have c1 := h2.cell
  have hm := h.lt (.inl rfl)
  have hm2 := h2.lt (.inl rfl)
  obtain ⟨bb, hbb⟩ : ∃ bb, decide (Q = Q2) = bb := ⟨_, rfl⟩
  have hE : ∀ W, Below w.heap.size w W → Calls Tryz.prog 101 #[v, v2] W fun e w' => e = .returned (.bool bb) ∧ Below W.heap.size W w' := fun W hb => by
    have := eqtim_any v v2 Q Q2 W (h.own.below hb) (h2.own.below hb) (by omega)
    rw [hbb] at this
    exact this
  rw [hbb]
  have HE := Lib.hid hE
  obtain ⟨a, n, c, rfl⟩ : ∃ a n c, v = .slice a n c := by obtain ⟨a, c, h⟩ := h.sl; exact ⟨a, _, c, h⟩
  obtain ⟨a2, n2, c2, rfl⟩ : ∃ a n c, v2 = .slice a n c := by obtain ⟨a, c, h⟩ := h2.sl; exact ⟨a, _, c, h⟩
  clear h h2 hbb hE
  go_enter Tryz.func55, Tryz.ntmps55
  go_wp2_with fail
  go_region_held (fun w' => w'.cell? ⟨m, 0, none⟩ = some (.slice a n c) ∧ w'.cell? ⟨m2, 0, none⟩ = some (.slice a2 n2 c2)) (first | (exact ⟨c0, c1⟩) | (exact ⟨f0, f1⟩))
    (first | (go_at_call 101; refine (HE.out _ (Below.refl _ _).drew).mono ?_; rintro e w3 ⟨rfl, hb3⟩; have HB3 : Hid (Below w.heap.size w w3) := (Below.refl _ _).drew.trans (hb3.mono (Nat.le_refl _)); have f0 := (HB3.out.cell (p := ⟨m, 0, none⟩) hm).trans c0; have f1 := (HB3.out.cell (p := ⟨m2, 0, none⟩) hm2).trans c1; clear hb3))
  go_wp2
  go_ret
  exact ⟨rfl, HB3.out⟩

end Go.Proofs.YtgnjenmicojgnaaGreat

namespace Go.Proofs.YtgnjenmicojgnaaGreat
set_option linter.unusedVariables false
set_option linter.unusedSimpArgs false
open Go.RowKit

theorem BW.prop {W : World} (x : BW W) : Below W.heap.size W x.val := x.property

set_option maxRecDepth 100000 in
set_option maxHeartbeats 2000000 in
theorem dsame_any {w : World} {d t g c l m d2 t2 g2 c2 l2 m2 : Nat} {V V2 : Nat → Value} {v v2 : Value} {ps ps2 : List Pr} {R R2 : Nat → List Int} {Q Q2 : List (Int × Int)} (h : Dsp w d t g c l m V v ps R Q) (h2 : Dsp w d2 t2 g2 c2 l2 m2 V2 v2 ps2 R2 Q2)
    (hlen : ∀ p, (R p).length ≤ 1000) (hQ : Q.length ≤ 900) {b1 b2 b3 : Bool} (hb1 : sameL ps ps2 = b1) (hb2 : b2 = true ↔ ∀ p, p < 64 → R p = R2 p) (hb3 : decide (Q = Q2) = b3) :
    Calls Tryz.prog 19 #[.pointer (some ⟨d, 0, none⟩), .pointer (some ⟨d2, 0, none⟩)] w fun e w' => e = .returned (.bool (b1 && (b2 && b3))) ∧ Below w.heap.size w w' := by
  have HC : Hid (∀ W, Below w.heap.size w W → (W.cell? ⟨d, 0, none⟩ = some (.pointer (some ⟨t, 0, none⟩)) ∧ W.cell? ⟨d, 1, none⟩ = some (.pointer (some ⟨l, 0, none⟩)) ∧ W.cell? ⟨d, 2, none⟩ = some (.pointer (some ⟨m, 0, none⟩))) ∧ (W.cell? ⟨d2, 0, none⟩ = some (.pointer (some ⟨t2, 0, none⟩)) ∧ W.cell? ⟨d2, 1, none⟩ = some (.pointer (some ⟨l2, 0, none⟩)) ∧ W.cell? ⟨d2, 2, none⟩ = some (.pointer (some ⟨m2, 0, none⟩)))) :=
    fun W hb => ⟨⟨(h.below hb).c0, (h.below hb).c1, (h.below hb).c2⟩, ⟨(h2.below hb).c0, (h2.below hb).c1, (h2.below hb).c2⟩⟩
  have H1 : Hid (∀ W, Below w.heap.size w W → Calls Tryz.prog 21 #[.pointer (some ⟨t, 0, none⟩), .pointer (some ⟨t2, 0, none⟩)] W fun e w' => e = .returned (.bool b1) ∧ Below W.heap.size W w') := fun W hb => by
    have := same_any t g c t2 g2 c2 ps ps2 W (h.below hb).T (h2.below hb).T
    rw [hb1] at this
    exact this
  have H2 : Hid (∀ W, Below w.heap.size w W → Calls Tryz.prog 54 #[.pointer (some ⟨l, 0, none⟩), .pointer (some ⟨l2, 0, none⟩)] W fun e w' => e = .returned (.bool b2) ∧ Below W.heap.size W w') := fun W hb => lsame_any l l2 V V2 R R2 W (h.below hb).L (h2.below hb).L hlen hb2
  have H3 : Hid (∀ W, Below w.heap.size w W → Calls Tryz.prog 55 #[.pointer (some ⟨m, 0, none⟩), .pointer (some ⟨m2, 0, none⟩)] W fun e w' => e = .returned (.bool b3) ∧ Below W.heap.size W w') := fun W hb => by
    have := tsame_any m m2 v v2 Q Q2 W (h.below hb).M (h2.below hb).M (by omega)
    rw [hb3] at this
    exact this
  have hx0 := fun (x : BW w) => (HC.out x.val x.property).1.1
  have hx1 := fun (x : BW w) => (HC.out x.val x.property).1.2.1
  have hx3 := fun (x : BW w) => (HC.out x.val x.property).1.2.2
  have hx4 := fun (x : BW w) => (HC.out x.val x.property).2.1
  have hx5 := fun (x : BW w) => (HC.out x.val x.property).2.2.1
  have hx6 := fun (x : BW w) => (HC.out x.val x.property).2.2.2
  have hdl := h.dl
  have hdl2 := h2.dl
  clear h h2 hlen hQ hb1 hb2 hb3
  cases b1 with
  | false =>
    go_enter Tryz.func19, Tryz.ntmps19
    go_wp2_with fail
    refine wp_region_bw (by kernel_rfl) (by kernel_rfl) ?_
    repeat (go_big_quiet_step (first | (go_at_call 21; exact Calls.bw (H1.out _ (BW.prop _))) | (go_at_call 54; exact Calls.bw (H2.out _ (BW.prop _))) | (go_at_call 55; exact Calls.bw (H3.out _ (BW.prop _)))))
    refine wpQuiet_nil ?_
    rintro w2 ⟨x2, hx2⟩
    have HB2 : Hid (Below w.heap.size w w2) := by rw [hx2]; exact x2.property
    clear hx2 x2 hx0 hx1 hx3 hx4 hx5 hx6
    go_wp2
    go_ret
    exact ⟨rfl, HB2.out⟩
  | true =>
    cases b2 with
    | false =>
      go_enter Tryz.func19, Tryz.ntmps19
      go_wp2_with fail
      refine wp_region_bw (by kernel_rfl) (by kernel_rfl) ?_
      repeat (go_big_quiet_step (first | (go_at_call 21; exact Calls.bw (H1.out _ (BW.prop _))) | (go_at_call 54; exact Calls.bw (H2.out _ (BW.prop _))) | (go_at_call 55; exact Calls.bw (H3.out _ (BW.prop _)))))
      refine wpQuiet_nil ?_
      rintro w2 ⟨x2, hx2⟩
      have HB2 : Hid (Below w.heap.size w w2) := by rw [hx2]; exact x2.property
      clear hx2 x2 hx0 hx1 hx3 hx4 hx5 hx6
      go_wp2
      go_ret
      exact ⟨rfl, HB2.out⟩
    | true =>
      go_enter Tryz.func19, Tryz.ntmps19
      go_wp2_with fail
      refine wp_region_bw (by kernel_rfl) (by kernel_rfl) ?_
      repeat (go_big_quiet_step (first | (go_at_call 21; exact Calls.bw (H1.out _ (BW.prop _))) | (go_at_call 54; exact Calls.bw (H2.out _ (BW.prop _))) | (go_at_call 55; exact Calls.bw (H3.out _ (BW.prop _)))))
      refine wpQuiet_nil ?_
      rintro w2 ⟨x2, hx2⟩
      have HB2 : Hid (Below w.heap.size w w2) := by rw [hx2]; exact x2.property
      clear hx2 x2 hx0 hx1 hx3 hx4 hx5 hx6
      go_wp2
      go_ret
      exact ⟨rfl, HB2.out⟩

end Go.Proofs.YtgnjenmicojgnaaGreat

namespace Go.Proofs.YtgnjenmicojgnaaGreat
set_option linter.unusedVariables false
set_option linter.unusedSimpArgs false
open Go.RowKit

set_option maxRecDepth 100000 in
set_option maxHeartbeats 8000000 in
theorem sorted_any (v : Value) (L : List (Int × Int)) (w : World) (h : OwnP 99 w v L) (hl : L.length ≤ 100) :
    Calls Tryz.prog 60 #[v] w (NewP w (srt L)) := by
  obtain ⟨n, hn⟩ : ∃ n, L.length = n := ⟨_, rfl⟩
  obtain ⟨sa, sc, hsl⟩ := h.sl
  rw [hn] at hsl hl
  subst hsl
  have HN := Lib.hid hn
  have H := Lib.hid h
  clear h hn
  go_enter Tryz.func60, Tryz.ntmps60
  go_wp2_with fail
  go_loopw [3, 4] (fun s6 s8 wr => ∃ j : Nat, j ≤ n ∧ s8 = .int .i64 j ∧ OwnP 99 wr s6 (srt (L.take j)) ∧ (∀ b, s6.ownBlock = some b → w.heap.size ≤ b) ∧ Below w.heap.size w wr) (fun _ i _ => n - (intOf i).toNat)
  case atStart => exact ⟨0, by omega, rfl, by simpa [srt] using OwnP.nil 99 w, fun b hb => by simp [Value.ownBlock] at hb, Below.refl _ _⟩
  case round =>
    obtain ⟨j, hj, rfl, h6, hf6, hb⟩ := hrel
    have H6 := Lib.hid h6
    have HF6 := Lib.hid hf6
    have HB := Lib.hid hb
    have hfl : (L.take j).length ≤ 100 := by
      rw [List.length_take]
      omega
    clear h6 hf6 hb
    by_cases hjn : j < n
    · obtain ⟨q, hq⟩ : ∃ q, L[j]? = some q := ⟨_, List.getElem?_eq_getElem (by have := HN.out; omega)⟩
      obtain ⟨g, c, hv, hgl, c0, c1⟩ := (H.out.below HB.out).at hq
      injection hv with e1 e2 e3
      subst e1 e3
      have htk : L.take (j + 1) = L.take j ++ [q] := by rw [List.take_add_one, hq]; rfl
      have HTK := Lib.hid htk
      clear hq e2 htk
      obtain ⟨da, dc, hds⟩ := H6.out.sl
      obtain ⟨dn, hdn⟩ : ∃ dn, (srt (L.take j)).length = dn := ⟨_, rfl⟩
      rw [hdn] at hds
      subst hds
      obtain ⟨k0, hk0⟩ : ∃ k0, iQ (srt (L.take j)) q.2 = k0 := ⟨_, rfl⟩
      have hk0l : k0 ≤ dn := by rw [← hk0, ← hdn]; exact iQ_le _ _
      have HK0 := Lib.hid hk0
      have HDN := Lib.hid hdn
      have hdl : dn ≤ 100 := by rw [← hdn, srt_length]; exact hfl
      clear hk0 hdn
      go_wp2_with fail
      obtain ⟨w1, hw1⟩ : ∃ w1, w1 = wr := ⟨_, rfl⟩
      subst hw1
      go_loopw [5] (fun s9 wx => ∃ i : Nat, i ≤ k0 ∧ s9 = .int .i64 i ∧ (∃ nd, wx = w1.drewN nd)) (fun i _ => dn - (intOf i).toNat)
      case atStart => exact ⟨0, by omega, rfl, 0, rfl⟩
      case round =>
        obtain ⟨i, hii, rfl, nd, rfl⟩ := hrel
        have hcd0 : ∀ x, (w1.drewN nd).cell? x = w1.cell? x := fun x => rfl
        by_cases hik : i < k0
        · have hid : i < dn := by omega
          have hidb : decide ((i : Int) < (dn : Int)) = true := by simp; omega
          obtain ⟨p, hp⟩ : ∃ p, (srt (L.take j))[i]? = some p := ⟨_, List.getElem?_eq_getElem (by have := HDN.out; omega)⟩
          have hple : p.2 ≤ q.2 := iQ_lt (by rw [HK0.out]; exact hik) hp
          have hpb : decide (p.2 ≤ q.2) = true := by simpa using hple
          obtain ⟨g', c', hv', hgl', d0, d1⟩ := H6.out.at hp
          injection hv' with e1 e2 e3
          subst e1 e3
          clear hp e2
          go_wp2_with fail
          go_quiet (fail)
          go_wp2_with fail
          go_roundw
          case rel => exact ⟨i + 1, by omega, by go_num, _, rfl⟩
          case measure => simp [intOf]; omega
        · obtain rfl : i = k0 := by omega
          by_cases hid : i < dn
          · have hidb : decide ((i : Int) < (dn : Int)) = true := by simp; omega
            obtain ⟨p, hp⟩ : ∃ p, (srt (L.take j))[i]? = some p := ⟨_, List.getElem?_eq_getElem (by have := HDN.out; omega)⟩
            have hpgt : q.2 < p.2 := iQ_at (by rw [HK0.out]; exact hp)
            have hpb : decide (p.2 ≤ q.2) = false := by simp; omega
            have hpn : ¬ p.2 ≤ q.2 := by omega
            obtain ⟨g', c', hv', hgl', d0, d1⟩ := H6.out.at hp
            injection hv' with e1 e2 e3
            subst e1 e3
            clear hp e2
            go_wp2_with fail
            go_quiet (fail)
            go_wp2_with fail
            obtain ⟨wz, hwz⟩ : ∃ wz, wz = (w1.drewN nd).drewN nq := ⟨_, rfl⟩
            rw [← hwz]
            have hzs : wz.heap.size = w1.heap.size := by rw [hwz]; rfl
            have HBD : Hid (Below w1.heap.size w1 wz.drew) := by rw [hwz]; exact ⟨rfl, rfl, rfl, Nat.le_refl _, fun _ _ => rfl⟩
            have HB1 : Hid (∀ o, Below w1.heap.size w1 (wz.drew.alloc o)) := fun o => HBD.out.alloc (by show _ ≤ wz.heap.size; omega) o
            have HB2 : Hid (∀ o o', Below w1.heap.size w1 ((wz.drew.alloc o).alloc o')) := fun o o' => (HB1.out o).alloc (by simp; omega) o'
            have HSB : Hid (∀ W, Below w1.heap.size w1 W → W.cell? ⟨g, j * 2, none⟩ = some (.int .i64 q.1) ∧ W.cell? ⟨g, j * 2 + 1, none⟩ = some (.int .i64 q.2)) := fun W hW => ⟨(hW.cell (p := ⟨g, j * 2, none⟩) hgl).trans c0, (hW.cell (p := ⟨g, j * 2 + 1, none⟩) hgl).trans c1⟩
            have hz0 := (HSB.out wz.drew HBD.out).1
            have hz1 := (HSB.out wz.drew HBD.out).2
            have hgz : g < wz.heap.size := by omega
            obtain ⟨A0, hA0, hA1⟩ : ∃ A0 : Addr, (if dc = i then some ⟨g', 0, none⟩ else some ⟨g', i * 2, none⟩ : Option Addr) = some A0 ∧ (A0 = ⟨g', i * 2, none⟩ ∨ (srt (L.take j)).drop i = []) := by
              have hdd : dn ≤ dc := by
                rcases H6.out.shape with ⟨h1, _⟩ | ⟨g0, c0', cur, h1, h2, h3, h4, h5, h6⟩
                · cases h1
                · injection h1 with e1 e2 e3
                  have := HDN.out
                  omega
              by_cases hdi : dc = i
              · exact ⟨⟨g', 0, none⟩, if_pos hdi, .inr (List.drop_of_length_le (by have := HDN.out; omega))⟩
              · exact ⟨⟨g', i * 2, none⟩, if_neg hdi, .inl rfl⟩
            have hidc : i ≤ dc := by
              rcases H6.out.shape with ⟨h1, _⟩ | ⟨g0, c0', cur, h1, h2, h3, h4, h5, h6⟩
              · cases h1
              · injection h1 with e1 e2 e3
                have := HDN.out
                omega
            have HR1 : Hid (∀ W, Below w1.heap.size w1 W → ReadsP W (.slice (some ⟨g', 0, none⟩) i dc) ((srt (L.take j)).take i)) := fun W hW => reads_of_own (i := 0) H6.out hW (.inl rfl) (by rw [List.length_take]; have := HDN.out; omega) (fun t u hu => by rw [← pv_take] at hu; have ht := (List.getElem?_eq_some_iff.1 hu).1; rw [List.length_take] at ht; rw [List.getElem?_take, if_pos (by omega)] at hu; simpa using hu)
            have HR2 : Hid (∀ W, Below w1.heap.size w1 W → ReadsP W (.slice (some A0) (dn - i) (dc - i)) ((srt (L.take j)).drop i)) := fun W hW => reads_of_own (i := i) H6.out hW hA1 (by rw [List.length_drop, HDN.out]) (fun t u hu => by rw [← pv_drop, List.getElem?_drop] at hu; exact hu)
            have htl : ((srt (L.take j)).take i).length ≤ 200 := by rw [List.length_take]; omega
            have htl2 : ((srt (L.take j)).drop i).length ≤ 200 := by rw [List.length_drop]; have := HDN.out; omega
            have HTL := Lib.hid htl
            have HTL2 := Lib.hid htl2
            have HM := Lib.hid mixed
            clear hwz htl htl2 hA1 d0 d1
            have mixed := HM.out
            go_region_held_law (fun W => W.cell? ⟨g, j * 2, none⟩ = some (.int .i64 q.1) ∧ W.cell? ⟨g, j * 2 + 1, none⟩ = some (.int .i64 q.2)) (first | assumption | (exact ⟨hz0, hz1⟩) | (exact HSB.out _ (HB1.out _)) | (exact HSB.out _ (HB2.out _ _)) | (exact HSB.out _ (hb5.alloc hb5.size _)))
              (first
                | (refine step_appP (B := w1.heap.size) (w0 := w1) rfl (.tmp 31) (.tmp 34) rfl (v := .slice (some ⟨wz.heap.size, 0, none⟩) 0 0) (u := (.slice (some ⟨g', 0, none⟩) i dc)) (by simp [Act.eval, Act.put]) (by simp [Act.eval, Act.put]) (own_nil0 (by first | exact heap_alloc_new _ _ | exact heap_new1 _ _ _)) (HR1.out _ (by first | exact HB1.out _ | exact HB2.out _ _)) (by have h1 := HTL.out; simp only [List.length_append, List.length_nil, List.length_cons]; omega) (fun b hb => by simp [Value.ownBlock] at hb; omega) (by first | exact HB1.out _ | exact HB2.out _ _) (by simp; omega) HSB.out ?_; intro v5 w5 ho5 hf5 hb5 hg5 hS5)
                | (refine step_appP (B := w1.heap.size) (w0 := w1) rfl (.tmp 31) (.tmp 34) rfl (v := .slice (some ⟨wz.heap.size + 1, 0, none⟩) 0 0) (u := (.slice (some ⟨g', 0, none⟩) i dc)) (by simp [Act.eval, Act.put]) (by simp [Act.eval, Act.put]) (own_nil0 (heap_new2 _ _ _)) (HR1.out _ (by first | exact HB1.out _ | exact HB2.out _ _)) (by have h1 := HTL.out; simp only [List.length_append, List.length_nil, List.length_cons]; omega) (fun b hb => by simp [Value.ownBlock] at hb; omega) (by first | exact HB1.out _ | exact HB2.out _ _) (by simp; omega) HSB.out ?_; intro v5 w5 ho5 hf5 hb5 hg5 hS5)
                | (refine step_appP (B := w1.heap.size) (w0 := w1) rfl (.tmp 35) (.tmp 40) rfl (v := v5) (u := .slice (some ⟨w5.heap.size, 0, none⟩) 1 1) (by simp [Act.eval, Act.put]) (by simp [Act.eval, Act.put]) (ho5.alloc _) (one_reads127 (q := q) (heap_alloc_new _ _)) (by have h1 := HTL.out; simp only [List.length_append, List.length_nil, List.length_cons]; omega) hf5 (hb5.alloc hb5.size _) (by have := hb5.size; simp; omega) HSB.out ?_; intro v6 w6 ho6 hf6 hb6 hg6 hS6)
                | (refine step_appP (B := w1.heap.size) (w0 := w1) rfl (.tmp 35) (.tmp 40) rfl (v := v5) (u := .slice (some ⟨wz.heap.size + 1, 0, none⟩) 1 1) (by simp [Act.eval, Act.put]) (by simp [Act.eval, Act.put]) ho5 (one_reads127 (q := q) ((hg5.block _ (by simp <;> omega) (by simp [Value.ownBlock])).trans (heap_new2 _ _ _))) (by have h1 := HTL.out; simp only [List.length_append, List.length_nil, List.length_cons]; omega) hf5 hb5 hb5.size HSB.out ?_; intro v6 w6 ho6 hf6 hb6 hg6 hS6)
                | (refine step_appP (B := w1.heap.size) (w0 := w1) rfl (.tmp 35) (.tmp 40) rfl (v := v5) (u := .slice (some ⟨wz.heap.size, 0, none⟩) 1 1) (by simp [Act.eval, Act.put]) (by simp [Act.eval, Act.put]) ho5 (one_reads127 (q := q) ((hg5.block _ (by simp <;> omega) (by simp [Value.ownBlock])).trans (heap_new1 _ _ _))) (by have h1 := HTL.out; simp only [List.length_append, List.length_nil, List.length_cons]; omega) hf5 hb5 hb5.size HSB.out ?_; intro v6 w6 ho6 hf6 hb6 hg6 hS6)
                | (refine step_appP (B := w1.heap.size) (w0 := w1) rfl (.tmp 41) (.tmp 44) rfl (v := v6) (u := (.slice (some A0) (dn - i) (dc - i))) (by simp [Act.eval, Act.put]) (by simp [Act.eval, Act.put]) ho6 (HR2.out _ hb6) (by have h1 := HTL.out; have h2 := HTL2.out; simp only [List.length_append, List.length_nil, List.length_cons]; omega) hf6 hb6 hb6.size HSB.out ?_; intro v7 w7 ho7 hf7 hb7 hg7 hS7))
            all_goals
              have HO7 : Hid (OwnP 99 w7 v7 (srt (L.take (j + 1)))) := by
                unfold Hid
                rw [HTK.out, srt_snoc, insQ, HK0.out]
                simpa using ho7
              have HF1 : Hid (∀ b, v7.ownBlock = some b → w.heap.size ≤ b) := fun b hb => by have := hf7 b hb; have := HB.out.size; omega
              have HB7 : Hid (Below w.heap.size w w7) := HB.out.trans (hb7.mono HB.out.size)
              clear ho5 hf5 hb5 hg5 hS5 ho6 hf6 hb6 hg6 hS6 ho7 hf7 hb7 hg7 hS7
              go_wp2_with fail
              go_roundw
              case rel => exact ⟨j + 1, by omega, by go_num, HO7.out, HF1.out, HB7.out⟩
              case measure => simp [intOf]; omega
          · have hidb : decide ((i : Int) < (dn : Int)) = false := by simp; omega
            rcases H6.out.shape with ⟨hds, h0⟩ | ⟨g', cq, cur, hds, h2, h3, h4, h5, h6⟩
            · injection hds with e1 e2 e3
              subst e1 e2 e3
              obtain rfl : i = 0 := by omega
              go_wp2_with fail
              go_quiet (fail)
              go_wp2_with fail
              obtain ⟨wz, hwz⟩ : ∃ wz, wz = (w1.drewN nd).drewN nq := ⟨_, rfl⟩
              rw [← hwz]
              have hzs : wz.heap.size = w1.heap.size := by rw [hwz]; rfl
              have HBD : Hid (Below w1.heap.size w1 wz.drew) := by rw [hwz]; exact ⟨rfl, rfl, rfl, Nat.le_refl _, fun _ _ => rfl⟩
              have HB1 : Hid (∀ o, Below w1.heap.size w1 (wz.drew.alloc o)) := fun o => HBD.out.alloc (by show _ ≤ wz.heap.size; omega) o
              have HB2 : Hid (∀ o o', Below w1.heap.size w1 ((wz.drew.alloc o).alloc o')) := fun o o' => (HB1.out o).alloc (by simp; omega) o'
              have HSB : Hid (∀ W, Below w1.heap.size w1 W → W.cell? ⟨g, j * 2, none⟩ = some (.int .i64 q.1) ∧ W.cell? ⟨g, j * 2 + 1, none⟩ = some (.int .i64 q.2)) := fun W hW => ⟨(hW.cell (p := ⟨g, j * 2, none⟩) hgl).trans c0, (hW.cell (p := ⟨g, j * 2 + 1, none⟩) hgl).trans c1⟩
              have hz0 := (HSB.out wz.drew HBD.out).1
              have hz1 := (HSB.out wz.drew HBD.out).2
              have hgz : g < wz.heap.size := by omega
              have hsn : srt (L.take j) = [] := List.eq_nil_of_length_eq_zero HDN.out
              have HSN := Lib.hid hsn
              have HR1 : Hid (∀ W, Below w1.heap.size w1 W → ReadsP W (.slice none 0 0) ((srt (L.take j)).take 0)) := fun W _ => by rw [hsn]; exact reads_nil W 0
              have HR2 : Hid (∀ W, Below w1.heap.size w1 W → ReadsP W (.slice none 0 0) ((srt (L.take j)).drop 0)) := fun W _ => by rw [hsn]; exact reads_nil W 0
              have htl : ((srt (L.take j)).take 0).length ≤ 200 := by rw [List.length_take]; omega
              have htl2 : ((srt (L.take j)).drop 0).length ≤ 200 := by rw [List.length_drop]; have := HDN.out; omega
              have HTL := Lib.hid htl
              have HTL2 := Lib.hid htl2
              have HM := Lib.hid mixed
              clear hwz htl htl2 hsn
              have mixed := HM.out
              go_region_held_law (fun W => W.cell? ⟨g, j * 2, none⟩ = some (.int .i64 q.1) ∧ W.cell? ⟨g, j * 2 + 1, none⟩ = some (.int .i64 q.2)) (first | assumption | (exact ⟨hz0, hz1⟩) | (exact HSB.out _ (HB1.out _)) | (exact HSB.out _ (HB2.out _ _)) | (exact HSB.out _ (hb5.alloc hb5.size _)))
                (first
                  | (refine step_appP (B := w1.heap.size) (w0 := w1) rfl (.tmp 31) (.tmp 34) rfl (v := .slice (some ⟨wz.heap.size, 0, none⟩) 0 0) (u := (.slice none 0 0)) (by simp [Act.eval, Act.put]) (by simp [Act.eval, Act.put]) (own_nil0 (by first | exact heap_alloc_new _ _ | exact heap_new1 _ _ _)) (HR1.out _ (by first | exact HB1.out _ | exact HB2.out _ _)) (by have h1 := HTL.out; simp only [List.length_append, List.length_nil, List.length_cons]; omega) (fun b hb => by simp [Value.ownBlock] at hb; omega) (by first | exact HB1.out _ | exact HB2.out _ _) (by simp; omega) HSB.out ?_; intro v5 w5 ho5 hf5 hb5 hg5 hS5)
                  | (refine step_appP (B := w1.heap.size) (w0 := w1) rfl (.tmp 31) (.tmp 34) rfl (v := .slice (some ⟨wz.heap.size + 1, 0, none⟩) 0 0) (u := (.slice none 0 0)) (by simp [Act.eval, Act.put]) (by simp [Act.eval, Act.put]) (own_nil0 (heap_new2 _ _ _)) (HR1.out _ (by first | exact HB1.out _ | exact HB2.out _ _)) (by have h1 := HTL.out; simp only [List.length_append, List.length_nil, List.length_cons]; omega) (fun b hb => by simp [Value.ownBlock] at hb; omega) (by first | exact HB1.out _ | exact HB2.out _ _) (by simp; omega) HSB.out ?_; intro v5 w5 ho5 hf5 hb5 hg5 hS5)
                  | (refine step_appP (B := w1.heap.size) (w0 := w1) rfl (.tmp 35) (.tmp 40) rfl (v := v5) (u := .slice (some ⟨w5.heap.size, 0, none⟩) 1 1) (by simp [Act.eval, Act.put]) (by simp [Act.eval, Act.put]) (ho5.alloc _) (one_reads127 (q := q) (heap_alloc_new _ _)) (by have h1 := HTL.out; simp only [List.length_append, List.length_nil, List.length_cons]; omega) hf5 (hb5.alloc hb5.size _) (by have := hb5.size; simp; omega) HSB.out ?_; intro v6 w6 ho6 hf6 hb6 hg6 hS6)
                  | (refine step_appP (B := w1.heap.size) (w0 := w1) rfl (.tmp 35) (.tmp 40) rfl (v := v5) (u := .slice (some ⟨wz.heap.size + 1, 0, none⟩) 1 1) (by simp [Act.eval, Act.put]) (by simp [Act.eval, Act.put]) ho5 (one_reads127 (q := q) ((hg5.block _ (by simp <;> omega) (by simp [Value.ownBlock])).trans (heap_new2 _ _ _))) (by have h1 := HTL.out; simp only [List.length_append, List.length_nil, List.length_cons]; omega) hf5 hb5 hb5.size HSB.out ?_; intro v6 w6 ho6 hf6 hb6 hg6 hS6)
                  | (refine step_appP (B := w1.heap.size) (w0 := w1) rfl (.tmp 35) (.tmp 40) rfl (v := v5) (u := .slice (some ⟨wz.heap.size, 0, none⟩) 1 1) (by simp [Act.eval, Act.put]) (by simp [Act.eval, Act.put]) ho5 (one_reads127 (q := q) ((hg5.block _ (by simp <;> omega) (by simp [Value.ownBlock])).trans (heap_new1 _ _ _))) (by have h1 := HTL.out; simp only [List.length_append, List.length_nil, List.length_cons]; omega) hf5 hb5 hb5.size HSB.out ?_; intro v6 w6 ho6 hf6 hb6 hg6 hS6)
                  | (refine step_appP (B := w1.heap.size) (w0 := w1) rfl (.tmp 41) (.tmp 44) rfl (v := v6) (u := (.slice none 0 0)) (by simp [Act.eval, Act.put]) (by simp [Act.eval, Act.put]) ho6 (HR2.out _ hb6) (by have h1 := HTL.out; have h2 := HTL2.out; simp only [List.length_append, List.length_nil, List.length_cons]; omega) hf6 hb6 hb6.size HSB.out ?_; intro v7 w7 ho7 hf7 hb7 hg7 hS7))
              all_goals
                have HO7 : Hid (OwnP 99 w7 v7 (srt (L.take (j + 1)))) := by
                  unfold Hid
                  rw [HTK.out, srt_snoc, insQ, HK0.out]
                  simpa using ho7
                have HF1 : Hid (∀ b, v7.ownBlock = some b → w.heap.size ≤ b) := fun b hb => by have := hf7 b hb; have := HB.out.size; omega
                have HB7 : Hid (Below w.heap.size w w7) := HB.out.trans (hb7.mono HB.out.size)
                clear ho5 hf5 hb5 hg5 hS5 ho6 hf6 hb6 hg6 hS6 ho7 hf7 hb7 hg7 hS7
                go_wp2_with fail
                go_roundw
                case rel => exact ⟨j + 1, by omega, by go_num, HO7.out, HF1.out, HB7.out⟩
                case measure => simp [intOf]; omega
            · injection hds with e1 e2 e3
              subst e1 e3
              clear e2 h2 h3 h4 h5 h6
              go_wp2_with fail
              go_quiet (fail)
              go_wp2_with fail
              obtain ⟨wz, hwz⟩ : ∃ wz, wz = (w1.drewN nd).drewN nq := ⟨_, rfl⟩
              rw [← hwz]
              have hzs : wz.heap.size = w1.heap.size := by rw [hwz]; rfl
              have HBD : Hid (Below w1.heap.size w1 wz.drew) := by rw [hwz]; exact ⟨rfl, rfl, rfl, Nat.le_refl _, fun _ _ => rfl⟩
              have HB1 : Hid (∀ o, Below w1.heap.size w1 (wz.drew.alloc o)) := fun o => HBD.out.alloc (by show _ ≤ wz.heap.size; omega) o
              have HB2 : Hid (∀ o o', Below w1.heap.size w1 ((wz.drew.alloc o).alloc o')) := fun o o' => (HB1.out o).alloc (by simp; omega) o'
              have HSB : Hid (∀ W, Below w1.heap.size w1 W → W.cell? ⟨g, j * 2, none⟩ = some (.int .i64 q.1) ∧ W.cell? ⟨g, j * 2 + 1, none⟩ = some (.int .i64 q.2)) := fun W hW => ⟨(hW.cell (p := ⟨g, j * 2, none⟩) hgl).trans c0, (hW.cell (p := ⟨g, j * 2 + 1, none⟩) hgl).trans c1⟩
              have hz0 := (HSB.out wz.drew HBD.out).1
              have hz1 := (HSB.out wz.drew HBD.out).2
              have hgz : g < wz.heap.size := by omega
              obtain ⟨A0, hA0, hA1⟩ : ∃ A0 : Addr, (if dc = i then some ⟨g', 0, none⟩ else some ⟨g', i * 2, none⟩ : Option Addr) = some A0 ∧ (A0 = ⟨g', i * 2, none⟩ ∨ (srt (L.take j)).drop i = []) := by
                have hdd : dn ≤ dc := by
                  rcases H6.out.shape with ⟨h1, _⟩ | ⟨g0, c0', cur, h1, h2, h3, h4, h5, h6⟩
                  · cases h1
                  · injection h1 with e1 e2 e3
                    have := HDN.out
                    omega
                by_cases hdi : dc = i
                · exact ⟨⟨g', 0, none⟩, if_pos hdi, .inr (List.drop_of_length_le (by have := HDN.out; omega))⟩
                · exact ⟨⟨g', i * 2, none⟩, if_neg hdi, .inl rfl⟩
              have hidc : i ≤ dc := by
                rcases H6.out.shape with ⟨h1, _⟩ | ⟨g0, c0', cur, h1, h2, h3, h4, h5, h6⟩
                · cases h1
                · injection h1 with e1 e2 e3
                  have := HDN.out
                  omega
              have HR1 : Hid (∀ W, Below w1.heap.size w1 W → ReadsP W (.slice (some ⟨g', 0, none⟩) i dc) ((srt (L.take j)).take i)) := fun W hW => reads_of_own (i := 0) H6.out hW (.inl rfl) (by rw [List.length_take]; have := HDN.out; omega) (fun t u hu => by rw [← pv_take] at hu; have ht := (List.getElem?_eq_some_iff.1 hu).1; rw [List.length_take] at ht; rw [List.getElem?_take, if_pos (by omega)] at hu; simpa using hu)
              have HR2 : Hid (∀ W, Below w1.heap.size w1 W → ReadsP W (.slice (some A0) (dn - i) (dc - i)) ((srt (L.take j)).drop i)) := fun W hW => reads_of_own (i := i) H6.out hW hA1 (by rw [List.length_drop, HDN.out]) (fun t u hu => by rw [← pv_drop, List.getElem?_drop] at hu; exact hu)
              have htl : ((srt (L.take j)).take i).length ≤ 200 := by rw [List.length_take]; omega
              have htl2 : ((srt (L.take j)).drop i).length ≤ 200 := by rw [List.length_drop]; have := HDN.out; omega
              have HTL := Lib.hid htl
              have HTL2 := Lib.hid htl2
              have HM := Lib.hid mixed
              clear hwz htl htl2 hA1 
              have mixed := HM.out
              go_region_held_law (fun W => W.cell? ⟨g, j * 2, none⟩ = some (.int .i64 q.1) ∧ W.cell? ⟨g, j * 2 + 1, none⟩ = some (.int .i64 q.2)) (first | assumption | (exact ⟨hz0, hz1⟩) | (exact HSB.out _ (HB1.out _)) | (exact HSB.out _ (HB2.out _ _)) | (exact HSB.out _ (hb5.alloc hb5.size _)))
                (first
                  | (refine step_appP (B := w1.heap.size) (w0 := w1) rfl (.tmp 31) (.tmp 34) rfl (v := .slice (some ⟨wz.heap.size, 0, none⟩) 0 0) (u := (.slice (some ⟨g', 0, none⟩) i dc)) (by simp [Act.eval, Act.put]) (by simp [Act.eval, Act.put]) (own_nil0 (by first | exact heap_alloc_new _ _ | exact heap_new1 _ _ _)) (HR1.out _ (by first | exact HB1.out _ | exact HB2.out _ _)) (by have h1 := HTL.out; simp only [List.length_append, List.length_nil, List.length_cons]; omega) (fun b hb => by simp [Value.ownBlock] at hb; omega) (by first | exact HB1.out _ | exact HB2.out _ _) (by simp; omega) HSB.out ?_; intro v5 w5 ho5 hf5 hb5 hg5 hS5)
                  | (refine step_appP (B := w1.heap.size) (w0 := w1) rfl (.tmp 31) (.tmp 34) rfl (v := .slice (some ⟨wz.heap.size + 1, 0, none⟩) 0 0) (u := (.slice (some ⟨g', 0, none⟩) i dc)) (by simp [Act.eval, Act.put]) (by simp [Act.eval, Act.put]) (own_nil0 (heap_new2 _ _ _)) (HR1.out _ (by first | exact HB1.out _ | exact HB2.out _ _)) (by have h1 := HTL.out; simp only [List.length_append, List.length_nil, List.length_cons]; omega) (fun b hb => by simp [Value.ownBlock] at hb; omega) (by first | exact HB1.out _ | exact HB2.out _ _) (by simp; omega) HSB.out ?_; intro v5 w5 ho5 hf5 hb5 hg5 hS5)
                  | (refine step_appP (B := w1.heap.size) (w0 := w1) rfl (.tmp 35) (.tmp 40) rfl (v := v5) (u := .slice (some ⟨w5.heap.size, 0, none⟩) 1 1) (by simp [Act.eval, Act.put]) (by simp [Act.eval, Act.put]) (ho5.alloc _) (one_reads127 (q := q) (heap_alloc_new _ _)) (by have h1 := HTL.out; simp only [List.length_append, List.length_nil, List.length_cons]; omega) hf5 (hb5.alloc hb5.size _) (by have := hb5.size; simp; omega) HSB.out ?_; intro v6 w6 ho6 hf6 hb6 hg6 hS6)
                  | (refine step_appP (B := w1.heap.size) (w0 := w1) rfl (.tmp 35) (.tmp 40) rfl (v := v5) (u := .slice (some ⟨wz.heap.size + 1, 0, none⟩) 1 1) (by simp [Act.eval, Act.put]) (by simp [Act.eval, Act.put]) ho5 (one_reads127 (q := q) ((hg5.block _ (by simp <;> omega) (by simp [Value.ownBlock])).trans (heap_new2 _ _ _))) (by have h1 := HTL.out; simp only [List.length_append, List.length_nil, List.length_cons]; omega) hf5 hb5 hb5.size HSB.out ?_; intro v6 w6 ho6 hf6 hb6 hg6 hS6)
                  | (refine step_appP (B := w1.heap.size) (w0 := w1) rfl (.tmp 35) (.tmp 40) rfl (v := v5) (u := .slice (some ⟨wz.heap.size, 0, none⟩) 1 1) (by simp [Act.eval, Act.put]) (by simp [Act.eval, Act.put]) ho5 (one_reads127 (q := q) ((hg5.block _ (by simp <;> omega) (by simp [Value.ownBlock])).trans (heap_new1 _ _ _))) (by have h1 := HTL.out; simp only [List.length_append, List.length_nil, List.length_cons]; omega) hf5 hb5 hb5.size HSB.out ?_; intro v6 w6 ho6 hf6 hb6 hg6 hS6)
                  | (refine step_appP (B := w1.heap.size) (w0 := w1) rfl (.tmp 41) (.tmp 44) rfl (v := v6) (u := (.slice (some A0) (dn - i) (dc - i))) (by simp [Act.eval, Act.put]) (by simp [Act.eval, Act.put]) ho6 (HR2.out _ hb6) (by have h1 := HTL.out; have h2 := HTL2.out; simp only [List.length_append, List.length_nil, List.length_cons]; omega) hf6 hb6 hb6.size HSB.out ?_; intro v7 w7 ho7 hf7 hb7 hg7 hS7))
              all_goals
                have HO7 : Hid (OwnP 99 w7 v7 (srt (L.take (j + 1)))) := by
                  unfold Hid
                  rw [HTK.out, srt_snoc, insQ, HK0.out]
                  simpa using ho7
                have HF1 : Hid (∀ b, v7.ownBlock = some b → w.heap.size ≤ b) := fun b hb => by have := hf7 b hb; have := HB.out.size; omega
                have HB7 : Hid (Below w.heap.size w w7) := HB.out.trans (hb7.mono HB.out.size)
                clear ho5 hf5 hb5 hg5 hS5 ho6 hf6 hb6 hg6 hS6 ho7 hf7 hb7 hg7 hS7
                go_wp2_with fail
                go_roundw
                case rel => exact ⟨j + 1, by omega, by go_num, HO7.out, HF1.out, HB7.out⟩
                case measure => simp [intOf]; omega
    · obtain rfl : j = n := by omega
      have ho6 := H6.out
      rw [List.take_of_length_le (by have := HN.out; omega)] at ho6
      have HO6 := Lib.hid ho6
      clear ho6 H6 hfl hjn
      go_wp2_with fail
      go_ret
      exact ⟨_, rfl, HO6.out, HF6.out, HB.out⟩

end Go.Proofs.YtgnjenmicojgnaaGreat

namespace Go.Proofs.YtgnjenmicojgnaaGreat
set_option linter.unusedVariables false
set_option linter.unusedSimpArgs false
open Go.RowKit

set_option maxRecDepth 100000 in
set_option maxHeartbeats 4000000 in
theorem samet_any (x y : Value) (D1 D2 : List (Int × Int)) (w : World) (hx : OwnP 99 w x D1) (hy : OwnP 99 w y D2) (hl1 : D1.length ≤ 100) (hl2 : D2.length ≤ 100) :
    Calls Tryz.prog 24 #[x, y] w fun e w' => e = .returned (.bool (decide (srt D1 = srt D2))) ∧ Below w.heap.size w w' := by
  obtain ⟨xs, hxs⟩ : ∃ xs, srt D1 = xs := ⟨_, rfl⟩
  obtain ⟨ys, hys⟩ : ∃ ys, srt D2 = ys := ⟨_, rfl⟩
  obtain ⟨n, hn⟩ : ∃ n, xs.length = n := ⟨_, rfl⟩
  obtain ⟨m, hm⟩ : ∃ m, ys.length = m := ⟨_, rfl⟩
  have hl : n ≤ 100 := by rw [← hn, ← hxs, srt_length]; exact hl1
  have h1 := sorted_any x D1 w hx hl1
  have h2 := fun (W : World) (hb : Below w.heap.size w W) => sorted_any y D2 W (hy.below hb) hl2
  rw [hxs] at h1 ⊢
  rw [hys] at h2 ⊢
  have H1 := Lib.hid h1
  have H2 := Lib.hid h2
  have HN := Lib.hid hn
  have HM := Lib.hid hm
  clear hx hy hxs hys hn hm h1 h2
  go_enter Tryz.func24, Tryz.ntmps24
  go_wp2_with fail
  refine H1.out.mono ?_
  rintro e w1 ⟨u1, rfl, ho1, hf1, hb1⟩
  obtain ⟨ax, cx, hs1⟩ := ho1.sl
  rw [HN.out] at hs1
  subst hs1
  have HO1 := Lib.hid ho1
  have HB1 := Lib.hid hb1
  clear ho1 hf1 hb1 H1
  go_wp2_with fail
  refine (H2.out w1 HB1.out).mono ?_
  rintro e w2 ⟨u2, rfl, ho2, hf2, hb2⟩
  obtain ⟨ay, cy, hs2⟩ := ho2.sl
  rw [HM.out] at hs2
  subst hs2
  have HX := Lib.hid (HO1.out.below hb2)
  have HY := Lib.hid ho2
  have HB2 : Hid (Below w.heap.size w w2) := HB1.out.trans (hb2.mono HB1.out.size)
  clear ho2 hf2 hb2 HO1 HB1 H2
  by_cases hne : n = m
  · subst hne
    go_wp2_with fail
    go_loopw [5] (fun s13 wr => ∃ j : Nat, j ≤ n ∧ s13 = .int .i64 j ∧ (∀ (i : Nat), i < j → xs[i]? = ys[i]?) ∧ Below w2.heap.size w2 wr) (fun i _ => n - (intOf i).toNat)
    case atStart => exact ⟨0, by omega, rfl, fun _ hi => absurd hi (Nat.not_lt_zero _), Below.refl _ _⟩
    case round =>
      obtain ⟨j, hj, rfl, hal, hbr⟩ := hrel
      have HAL := Lib.hid hal
      have HB := Lib.hid hbr
      have hbs := hbr.size
      clear hal hbr
      by_cases hjn : j < n
      · obtain ⟨z, hz⟩ : ∃ z, xs[j]? = some z := ⟨_, List.getElem?_eq_getElem (by have := HN.out; omega)⟩
        obtain ⟨z', hz'⟩ : ∃ z, ys[j]? = some z := ⟨_, List.getElem?_eq_getElem (by have := HM.out; omega)⟩
        obtain ⟨b, c1, hv, hbl, e0, e1⟩ := (HX.out.below HB.out).at hz
        injection hv with q1 q2 q3
        subst q1 q3
        obtain ⟨b', c2, hv', hbl', e2, e3⟩ := (HY.out.below HB.out).at hz'
        injection hv' with q4 q5 q6
        subst q4 q6
        obtain ⟨z1, z2⟩ := z
        obtain ⟨y1, y2⟩ := z'
        have hj0 : (0 : Int) ≤ (j : Int) := by omega
        have hjn' : (j : Int) < (n : Int) := by omega
        clear q2 q5
        have HZ := Lib.hid hz
        have HZ' := Lib.hid hz'
        clear hz hz'
        by_cases hzz : (z1, z2) = (y1, y2)
        · have hneq : ∀ W : World, (binOp .neq 99 (.agg #[.int .i64 z1, .int .i64 z2]) (.agg #[.int .i64 y1, .int .i64 y2])).run Tryz.prog W = .ok (.bool false) W := fun W => by
            rw [neqP99, show (z1 == y1 && z2 == y2) = true by injection hzz with k1 k2; simp [k1, k2]]
            rfl
          go_wp2_with fail
          go_quiet (fail)
          go_wp2_with fail
          go_roundw
          case rel =>
            refine ⟨j + 1, by omega, by go_num, fun i hi => ?_, below_drewN HB.out _⟩
            by_cases e : i = j
            · subst e
              rw [HZ.out, HZ'.out, hzz]
            · exact HAL.out i (by omega)
          case measure => simp [intOf]; omega
        · have hneq : ∀ W : World, (binOp .neq 99 (.agg #[.int .i64 z1, .int .i64 z2]) (.agg #[.int .i64 y1, .int .i64 y2])).run Tryz.prog W = .ok (.bool true) W := fun W => by
            rw [neqP99, show (z1 == y1 && z2 == y2) = false by by_cases k1 : z1 = y1 <;> by_cases k2 : z2 = y2 <;> simp_all]
            rfl
          have hd : Hid (decide (xs = ys) = false) := by
            unfold Hid
            simp only [decide_eq_false_iff_not]
            rintro rfl
            have := HZ.out.symm.trans HZ'.out
            injection this with this
            exact hzz this
          go_wp2_with fail
          go_quiet (fail)
          go_wp2
          go_ret
          exact ⟨by rw [hd.out]; rfl, HB2.out.trans ((below_drewN HB.out _).mono HB2.out.size)⟩
      · have hd : Hid (decide (xs = ys) = true) := by
          unfold Hid
          simp only [decide_eq_true_eq]
          apply List.ext_getElem?
          intro i
          by_cases hi : i < n
          · exact HAL.out i (by omega)
          · rw [List.getElem?_eq_none_iff.2 (by have := HN.out; omega), List.getElem?_eq_none_iff.2 (by have := HM.out; omega)]
        go_wp2_with fail
        go_ret
        exact ⟨by rw [hd.out]; rfl, HB2.out.trans (HB.out.mono HB2.out.size)⟩
  · have hnb : ((n : Int) != (m : Int)) = true := by simp; omega
    have hd : Hid (decide (xs = ys) = false) := by
      unfold Hid
      simp only [decide_eq_false_iff_not]
      rintro rfl
      exact hne (HN.out.symm.trans HM.out)
    go_wp2_with fail
    go_ret
    exact ⟨by rw [hd.out]; rfl, HB2.out⟩


end Go.Proofs.YtgnjenmicojgnaaGreat

namespace Go.Proofs.YtgnjenmicojgnaaGreat
set_option linter.unusedVariables false
set_option linter.unusedSimpArgs false
open Go.RowKit

theorem seen_eq {p q : Pr} (hp : p.Ok) (hq : q.Ok) (h : sameB (seenP p) (seenP q) = true) : stateR p = stateR q ∧ curR p = curR q := by
  have hd : ∀ {r : Pr}, r.Ok → (seenP r).st = r.st ∧ (seenP r).held = r.held ∧ (seenP r).base = r.base ∧ (seenP r).raised = r.raised ∧ (seenP r).pri = r.pri := by
    intro r hr
    unfold seenP
    by_cases h0 : r.st = 0
    · obtain ⟨k1, k2, k3, -⟩ := hr.dorm h0
      simp [h0, sleepP, k1, k2, k3]
    · simp only [h0, if_false]
      refine ⟨?_, ?_, ?_, ?_, ?_⟩ <;> (repeat' split) <;> rfl
  obtain ⟨a1, a2, a3, a4, a5⟩ := hd hp
  obtain ⟨b1, b2, b3, b4, b5⟩ := hd hq
  unfold sameB at h
  rw [a1, a2, a3, a4, a5, b1, b2, b3, b4, b5] at h
  simp only [Bool.and_eq_true, beq_iff_eq] at h
  obtain ⟨e1, -, -, -, -, e2, e3, e4, e5, -⟩ := h
  constructor
  · unfold stateR
    rw [e2, e3]
  · unfold curR baseR
    rw [e1, e2, e4, e5]

theorem same_look {ps qs : List Pr} (hp : ∀ p, p ∈ ps → p.Ok) (hq : ∀ p, p ∈ qs → p.Ok) (h : sameL ps qs = true) : ps.length = qs.length ∧ ∀ i : Int, 0 ≤ i → i < ps.length → stateR (lookP ps i) = stateR (lookP qs i) ∧ curR (lookP ps i) = curR (lookP qs i) := by
  obtain ⟨h1, h2⟩ := sameL_iff.1 h
  refine ⟨h1, fun i h0 hi => ?_⟩
  have g1 := get_of_in h0 hi
  have g2 := get_of_in (ps := qs) h0 (by omega)
  exact seen_eq (hp _ (List.mem_of_getElem? g1)) (hq _ (List.mem_of_getElem? g2)) (h2 _ _ _ g1 g2)

theorem rowE_of_ids {ps : List Pr} {R : Nat → List Int} {D : List (Int × Int)} (h : RInv ps R D) : rowE R = ((rowE R).map Prod.fst).map (fun i => (i, curR (lookP ps i))) := by
  rw [List.map_map]
  conv => lhs; rw [← List.map_id (rowE R)]
  apply List.map_congr_left
  intro x hx
  obtain ⟨p, hp, hm, he⟩ := mem_rowN.1 hx
  have := (h.mem p x.1).1 hm
  show x = (x.1, curR (lookP ps x.1))
  rw [this.2.2.2, ← he]

theorem rowE_at (R : Nat → List Int) {p : Nat} (hp : p < 64) : R p = ((rowE R).filter (fun x => decide (x.2 = (p : Int)))).map Prod.fst := by
  have : ∀ n, p < n → R p = ((rowN R n).filter (fun x => decide (x.2 = (p : Int)))).map Prod.fst := by
    intro n
    induction n with
    | zero => intro h; omega
    | succ n ih =>
      intro h
      rw [rowN, List.filter_append, List.map_append]
      by_cases e : p = n
      · subst e
        have h1 : ((R p).map (fun i => (i, (p : Int)))).filter (fun x => decide (x.2 = (p : Int))) = (R p).map (fun i => (i, (p : Int))) := by
          rw [List.filter_eq_self]
          intro x hx
          obtain ⟨i, -, rfl⟩ := List.mem_map.1 hx
          simp
        have h2 : (rowN R p).filter (fun x => decide (x.2 = (p : Int))) = [] := by
          rw [List.filter_eq_nil_iff]
          intro x hx
          obtain ⟨q, hq, -, he⟩ := mem_rowN.1 hx
          simp
          omega
        rw [h1, h2, List.map_map]
        simp
        have e : (Prod.fst ∘ fun i : Int => (i, (p : Int))) = id := rfl
        rw [e, List.map_id]
      · have h1 : ((R n).map (fun i => (i, (n : Int)))).filter (fun x => decide (x.2 = (p : Int))) = [] := by
          rw [List.filter_eq_nil_iff]
          intro x hx
          obtain ⟨i, -, rfl⟩ := List.mem_map.1 hx
          simp
          omega
        rw [h1]
        simpa using ih (by omega)
  exact this 64 hp

/-- Of two like tables the rows are the same just if the ids are, in order. -/
theorem rows_iff {ps qs : List Pr} {R R' : Nat → List Int} {D D' : List (Int × Int)} (h : RInv ps R D) (h' : RInv qs R' D') (hs : sameL ps qs = true) : (∀ p, p < 64 → R p = R' p) ↔ (rowE R).map Prod.fst = (rowE R').map Prod.fst := by
  obtain ⟨hl, hst⟩ := same_look h.ok h'.ok hs
  constructor
  · intro he
    unfold rowE
    rw [rowN_congr 64 (fun p hp => he p hp)]
  · intro he p hp
    have e : rowE R = rowE R' := by
      rw [rowE_of_ids h, rowE_of_ids h', ← he]
      apply List.map_congr_left
      intro i hi
      obtain ⟨q, hq⟩ := h.ids_mem.1 hi
      have := (h.mem q i).1 hq
      rw [(hst i this.1 this.2.1).2]
    rw [rowE_at R hp, rowE_at R' hp, e]

end Go.Proofs.YtgnjenmicojgnaaGreat
