/-
  What the document's slices.Clone and Missed make of a slice of processes.
-/
import Derived.Test.YtgnjenmicojgnaaEa
import Derived.Test.YtgnjenmicojgnaaE2
import Derived.Test.YtgnjenmicojgnaaB4
namespace Go.Proofs.Ytgnjenmicojgnaa
set_option linter.unusedVariables false
set_option linter.unusedSimpArgs false
open Go.RowKit

/-- Is a deadline missed, that was not told yet? -/
def missR (now : Int) (p : Rf) : Bool := decide (0 < p.dl) && ((p.st == 1 || p.st == 2) && (!p.missed && decide (p.beg + p.dl ≤ now)))
def rmark (now : Int) (p : Rf) : Rf := if missR now p = true then { p with missed := true } else p
def rmarkTo (now : Int) (ps : List Rf) (k : Nat) : List Rf := (ps.take k).map (rmark now) ++ ps.drop k
def risMiss (now : Int) (ps : List Rf) (i : Nat) : Bool := ((ps[i]?).map (missR now)).getD false
def ridsTo (now : Int) (ps : List Rf) (k : Nat) : List Int := ((List.range k).filter (risMiss now ps)).map Int.ofNat

theorem rmarkTo_length (now : Int) (ps : List Rf) (k : Nat) : (rmarkTo now ps k).length = ps.length := by
  simp [rmarkTo]; omega
theorem rmarkTo_get (now : Int) (ps : List Rf) (k : Nat) (hk : k < ps.length) : (rmarkTo now ps k)[k]? = ps[k]? := by
  unfold rmarkTo
  rw [List.getElem?_append_right (by simp; omega)]
  simp [List.getElem?_drop]
  congr 1
  omega
theorem rmarkTo_succ (now : Int) (ps : List Rf) (k : Nat) (p : Rf) (h : ps[k]? = some p) : rmarkTo now ps (k + 1) = (rmarkTo now ps k).set k (rmark now p) := by
  have hk : k < ps.length := (List.getElem?_eq_some_iff.1 h).1
  unfold rmarkTo
  rw [take_snoc' ps k p h, List.map_append, List.map_singleton, List.append_assoc, List.set_append_right _ _ (by simp; omega)]
  congr 1
  have e : k - ((ps.take k).map (rmark now)).length = 0 := by simp; omega
  rw [e]
  have hd : ps.drop k = p :: ps.drop (k + 1) := by
    rw [List.drop_eq_getElem_cons hk]
    congr 1
    have := List.getElem?_eq_getElem hk
    rw [this] at h
    injection h
  rw [hd]
  rfl
theorem rmarkTo_same (now : Int) (ps : List Rf) (k : Nat) (p : Rf) (h : ps[k]? = some p) (hm : missR now p = false) : rmarkTo now ps (k + 1) = rmarkTo now ps k := by
  rw [rmarkTo_succ now ps k p h]
  have hk : k < ps.length := (List.getElem?_eq_some_iff.1 h).1
  have : rmark now p = p := by unfold rmark; rw [hm]; rfl
  rw [this]
  apply List.ext_getElem?
  intro j
  rw [List.getElem?_set]
  by_cases e : k = j
  · subst e
    rw [if_pos rfl, if_pos (by rw [rmarkTo_length]; exact hk), rmarkTo_get now ps k hk, h]
  · rw [if_neg e]
theorem ridsTo_miss (now : Int) (ps : List Rf) (k : Nat) (p : Rf) (h : ps[k]? = some p) (hm : missR now p = true) : ridsTo now ps (k + 1) = ridsTo now ps k ++ [(k : Int)] := by
  unfold ridsTo
  rw [List.range_succ, List.filter_append, List.map_append]
  have : risMiss now ps k = true := by simp [risMiss, h, hm]
  simp [List.filter_cons, this]
theorem ridsTo_none (now : Int) (ps : List Rf) (k : Nat) (p : Rf) (h : ps[k]? = some p) (hm : missR now p = false) : ridsTo now ps (k + 1) = ridsTo now ps k := by
  unfold ridsTo
  rw [List.range_succ, List.filter_append, List.map_append]
  have : risMiss now ps k = false := by simp [risMiss, h, hm]
  simp [List.filter_cons, this]
theorem ridsTo_length (now : Int) (ps : List Rf) (k : Nat) : (ridsTo now ps k).length ≤ k := by
  unfold ridsTo
  rw [List.length_map]
  have := List.length_filter_le (risMiss now ps) (List.range k)
  rw [List.length_range] at this
  exact this


theorem flatG_one (l : List Rf) : ∀ u ∈ flatG rfC l, u.oneCell' = true := by
  intro u hu
  unfold flatG at hu
  rw [List.mem_flatMap] at hu
  obtain ⟨p, _, hp⟩ := hu
  simp [rfC, Rf.cells] at hp
  rcases hp with h | h | h | h | h | h | h | h | h | h | h | h | h <;> subst h <;> rfl

/-- A slice of processes of my own: what it reads as, its block's form, and that it lies above base. -/
def RfOwn (w : World) (base : Nat) (A : Option Addr) (l : List Rf) : Prop :=
  l.length ≠ 0 → ∃ b, A = some ⟨b, 0, none⟩ ∧ base ≤ b ∧ Row w b 101 ∧ ∀ i a, l[i]? = some a → ∀ k, k < 13 → w.cell? ⟨b, i * 13 + k, none⟩ = (rfC a)[k]?

theorem RfOwn.rowG {w : World} {base : Nat} {A : Option Addr} {l : List Rf} (h : RfOwn w base A l) : RowG w rfC 13 A l := by
  intro hl
  obtain ⟨b, rfl, _, hr, hc⟩ := h hl
  exact ⟨b, 0, rfl, hr.lt, fun i a hi k hk => by rw [Nat.zero_add]; exact hc i a hi k hk⟩

theorem RfOwn.below {w w' : World} {base : Nat} {A : Option Addr} {l : List Rf} (h : RfOwn w base A l) (hb : Below w.heap.size w w') : RfOwn w' base A l := by
  intro hl
  obtain ⟨b, rfl, hbb, hr, hc⟩ := h hl
  have hlt := hr.lt
  exact ⟨b, rfl, hbb, by obtain ⟨C, hC⟩ := hr; exact ⟨C, (hb.block _ hlt).trans hC⟩, fun i a hi k hk => (hb.cell (p := ⟨b, i * 13 + k, none⟩) hlt).trans (hc i a hi k hk)⟩

theorem rfOwn_of {w : World} {base n : Nat} {v : Value} {l : List Rf} (hn : n = l.length) (h : w.ownsRow base 101 13 v n (flatG rfC l)) : ∃ A c, v = .slice A n c ∧ RfOwn w base A l := by
  rcases h.2 with ⟨rfl, h0⟩ | ⟨g, cap, cur, rfl, hg, hc, hr⟩
  · exact ⟨none, 0, by rw [h0], fun hl => absurd (hn.symm.trans h0) hl⟩
  · refine ⟨some ⟨g, 0, none⟩, cap, rfl, fun hl => ⟨g, rfl, hg, ⟨_, hc⟩, fun i a hi k hk => ?_⟩⟩
    have hil : i < l.length := (List.getElem?_eq_some_iff.1 hi).1
    have hle : (i + 1) * 13 ≤ n * 13 := Nat.mul_le_mul_right 13 (by omega)
    rw [Nat.add_mul] at hle
    rw [← flatG_get rfC_length l i k a hi hk]
    exact h.cellAt (i * 13 + k) (by omega)

theorem rfOwn_some {w : World} {base n : Nat} {v : Value} {l : List Rf} (hn : n = l.length) (hv : v ≠ .slice none 0 0) (h : w.ownsRow base 101 13 v n (flatG rfC l)) : ∃ b c, v = .slice (some ⟨b, 0, none⟩) n c ∧ base ≤ b ∧ Row w b 101 ∧ RfOwn w base (some ⟨b, 0, none⟩) l := by
  rcases h.2 with ⟨e, h0⟩ | ⟨g, cap, cur, rfl, hg, hc, hr⟩
  · exact absurd e hv
  · obtain ⟨A, c, e, ho⟩ := rfOwn_of hn h
    injection e with e1 e2 e3
    subst e1
    exact ⟨g, cap, rfl, hg, ⟨_, hc⟩, ho⟩

theorem RfOwn.set {w : World} {base b i j : Nat} {l : List Rf} {a a' : Rf} {u : Value} (h : RfOwn w base (some ⟨b, 0, none⟩) l) (hi : l[i]? = some a) (hj : j < 13) (hs : ∀ k, k < 13 → (rfC a')[k]? = if k = j then some u else (rfC a)[k]?) :
    RfOwn (w.setCell ⟨b, i * 13 + j, none⟩ u) base (some ⟨b, 0, none⟩) (l.set i a') := by
  intro hl
  have hil : i < l.length := (List.getElem?_eq_some_iff.1 hi).1
  obtain ⟨b', he, hbb, hr, hc⟩ := h (by omega)
  injection he with he
  injection he with he
  subst he
  refine ⟨b, rfl, hbb, hr.setCell _ _, fun i' x hx k hk => ?_⟩
  rw [List.getElem?_set] at hx
  by_cases e : i = i'
  · subst e
    rw [if_pos rfl, if_pos hil] at hx
    injection hx with hx
    subst hx
    rw [hs k hk]
    by_cases ek : k = j
    · subst ek
      rw [if_pos rfl]
      have hcell := hc i a hi k hk
      refine World.cell?_setCell_same' _ _ _ ?_
      rw [hcell, List.getElem?_eq_getElem (by rw [rfC_length]; exact hk)]
      rfl
    · rw [if_neg ek, World.cell?_setCell_other _ _ _ _ (by intro e'; injection e' with _ e'; omega)]
      exact hc i a hi k hk
  · rw [if_neg e] at hx
    rw [World.cell?_setCell_other _ _ _ _ (by intro e'; injection e' with _ e'; omega)]
    exact hc i' x hx k hk

def RCloneSl (w : World) (n : Nat) (l : List Rf) (e : Ending) (w' : World) : Prop := ∃ b c, e = .returned (.slice (some ⟨b, 0, none⟩) n c) ∧ w.heap.size ≤ b ∧ Row w' b 101 ∧ RfOwn w' w.heap.size (some ⟨b, 0, none⟩) l ∧ Below w.heap.size w w'

theorem rowG_news0 {w : World} {p : Addr} {l : List Rf} (h : RowG w rfC 13 (some p) l) : ∀ j u, (flatG rfC l)[j]? = some u → w.cell? (p.add j) = some u := by
  by_cases hl : l.length = 0
  · intro j u hu
    have : l = [] := List.eq_nil_of_length_eq_zero hl
    subst this
    simp [flatG] at hu
  · obtain ⟨b, o, he, hb, hc⟩ := h hl
    injection he with he
    subst he
    exact rowG_news (by omega) rfC_length hc

set_option maxRecDepth 100000 in
set_option maxHeartbeats 400000 in
theorem rclone_any (p : Addr) (n c : Nat) (l : List Rf) (w : World) (hn : l.length = n) (hA : RowG w rfC 13 (some p) l) (hm : n ≤ 1000) :
    Calls Try.prog 76 #[.slice (some p) n c] w (RCloneSl w n l) := by
  obtain ⟨i0, hi0, hz0, hz1, hz2⟩ := info_parts info101
  have hnil := fun (wx : World) (a : Option Addr) (n c n' c' : Nat) => Lib.run_eql_slice_nil (P := Try.prog) wx 48 101 a n c n' c' Try.underlying48
  have HN := Lib.hid hn
  have HA := Lib.hid hA
  have hfl := Lib.hid (flatG_length (f := rfC) rfC_length l)
  clear hn hA
  have HW := Lib.hid (rowG_news0 (HA.out.below (w' := w.alloc (.cells #[] 101)) ((Below.refl _ _).alloc (Nat.le_refl _) _)))
  go_enter Try.func76, Try.ntmps76
  go_wp2_with (first
    | (at_builtin
       refine wpList_append_own _ rfl (.tmp 5) (.tmp 6) 48 rfl w.heap.size 101 i0 _ 13 104 Try.underlying48 hi0 hz0 hz1 hz2 rfl (by decide) (.slice (some ⟨w.heap.size, 0, none⟩) 0 0) 0 [] rfl
         (by have := World.ownsRow_lit (base := w.heap.size) (e := 101) (size := 13) w #[] 0 (Nat.le_refl _) (by unfold maxLen; omega) rfl; exact this) p n c (flatG rfC l) rfl (by rw [hfl.out, HN.out]) HW.out (flatG_one l) (by unfold maxLen; omega) (by omega) (by simp) ?_
       intro v' w1 hown1 hgrow hiff))
  go_ret
  rw [Nat.zero_add, List.nil_append] at hown1
  have hb : Below w.heap.size w w1 := ((Below.refl w.heap.size w).alloc (Nat.le_refl _) _).grown hgrow (by simp) (fun k hk => by simp [Value.ownBlock] at hk; omega)
  obtain ⟨b', c', rfl, hbb, hrr, ho⟩ := rfOwn_some HN.out.symm (fun e => by have := (hiff.1 e).1; cases this) hown1
  exact ⟨b', c', rfl, hbb, hrr, ho, hb⟩

end Go.Proofs.Ytgnjenmicojgnaa
