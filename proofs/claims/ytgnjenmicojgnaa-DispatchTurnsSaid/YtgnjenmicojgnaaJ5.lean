/-
  A list of package ready: what Drop does.
-/
import Derived.Test.YtgnjenmicojgnaaJ4
namespace Go.Proofs.Ytgnjenmicojgnaa
set_option linter.unusedVariables false
set_option linter.unusedSimpArgs false
open Go.RowKit

set_option maxRecDepth 100000 in
set_option maxHeartbeats 1000000 in
theorem drop_none (l : Nat) (V : Nat → Value) (R : Nat → List Int) (id : Int) (w : World) (h : Rdy w l V R) (hno : prio R id = none) :
    Calls Try.prog 105 #[.pointer (some ⟨l, 0, none⟩), .int .i64 id] w fun e w' => e = .returned (.bool false) ∧ w' = w := by
  have HR := Lib.hid h
  have HNO := Lib.hid hno
  clear h hno
  go_enter Try.func105, Try.ntmps105
  go_wp2_with fail
  refine (prio_is (k := 0) (b := false) HR.out (by rw [HNO.out]; rfl) (by rw [HNO.out]; rfl)).mono ?_
  rintro e w1 ⟨rfl, rfl⟩
  go_wp2
  go_ret
  exact ⟨rfl, rfl⟩

theorem idx_first {xs : List Int} {id : Int} (h : id ∈ xs) : xs[xs.idxOf id]? = some id ∧ ∀ (j : Nat) (x : Int), j < xs.idxOf id → xs[j]? = some x → x ≠ id := by
  have hl := List.idxOf_lt_length_of_mem h
  refine ⟨by rw [List.getElem?_eq_getElem hl]; simp, fun j x hj hx => ?_⟩
  have hjl : j < xs.length := by omega
  rw [List.getElem?_eq_getElem hjl] at hx
  injection hx with hx
  subst hx
  intro e
  have := List.not_of_lt_findIdx (p := (· == id)) (xs := xs) (i := j) hj
  simp [e] at this

set_option maxRecDepth 100000 in
set_option maxHeartbeats 1000000 in
theorem drop_some (l p : Nat) (V : Nat → Value) (R : Nat → List Int) (id : Int) (w : World) (h : Rdy w l V R) (hpr : prio R id = some p) :
    Calls Try.prog 105 #[.pointer (some ⟨l, 0, none⟩), .int .i64 id] w (LPost w l V (upd R p ((R p).erase id)) (.bool true)) := by
  obtain ⟨hp, hmem⟩ := prio_some hpr
  obtain ⟨s, hh, hw⟩ := h.hdr
  have hrow := hh.row hp
  have hll := hh.lt
  obtain ⟨hi1, hi2⟩ := idx_first hmem
  obtain ⟨k, hk⟩ : ∃ k, (R p).idxOf id = k := ⟨_, rfl⟩
  rw [hk] at hi1 hi2
  have her : (R p).eraseIdx k = (R p).erase id := (List.erase_eq_eraseIdx_of_idxOf hk).symm
  have hkl : k < (R p).length := (List.getElem?_eq_some_iff.1 hi1).1
  have hown := h.rows p hp
  rcases hown.shape with ⟨_, h0⟩ | ⟨g, c, cur, hV, _, _, hnc, hm, _⟩
  · rw [h0] at hkl
    simp at hkl
  have hkb : k < 9223372036854775807 := by unfold maxLen at hm; omega
  obtain ⟨n, hn⟩ : ∃ n, (R p).length = n := ⟨_, rfl⟩
  rw [hn] at hV hkl
  rw [hV] at hrow hown
  have HR := Lib.hid h
  have HPR := Lib.hid hpr
  have HH := Lib.hid hh
  have HW := Lib.hid hw
  have HI1 := Lib.hid hi1
  have HI2 := Lib.hid hi2
  have HO := Lib.hid hown
  have HN := Lib.hid hn
  have HE := Lib.hid her
  have HV := Lib.hid hV
  clear h hpr hh hw hi1 hi2 hown hn her hV hmem hk hm hnc
  go_enter Try.func105, Try.ntmps105
  go_wp2_with fail
  refine (prio_is (k := p) (b := true) HR.out (by rw [HPR.out]; rfl) (by rw [HPR.out]; rfl)).mono ?_
  rintro e w1 ⟨rfl, rfl⟩
  go_wp2_with fail
  refine (index_any _ n c k (R p) id w1 HO.out HI1.out HI2.out).mono ?_
  rintro e w2 ⟨rfl, rfl⟩
  go_wp2_with fail
  refine (delete_any g n c k (k + 1) (R p) w2 HO.out HN.out.symm hkl rfl).mono ?_
  rintro e w3 ⟨rfl, ho3, hk3⟩
  rw [HE.out] at ho3
  have HO3 := Lib.hid ho3
  have HK3 : Hid (Kept w2 w3 (fun i => (V p).ownBlock = some i)) := hk3.mono (fun i _ e => by rw [HV.out, e]; rfl)
  have HH3 : Hid (Hdr w3 l V s) := HH.out.keep (hk3.block l hll (fun e => HR.out.lne p hp (by rw [HV.out, e]; rfl)))
  clear ho3 hk3
  obtain ⟨m, hm⟩ : ∃ m, n - 1 = m := ⟨_, rfl⟩
  rw [hm]
  rw [hm] at HO3
  have HM := Lib.hid hm
  clear hm
  go_wp2_with fail
  refine (note_any l p V s _ (some ⟨g, 0, none⟩) m c w3 HH3.out hp HW.out).mono ?_
  rintro e w4 ⟨rfl, s', hh4, hw4, hk4⟩
  have hml : m = ((R p).erase id).length := by rw [← HE.out, List.length_eraseIdx, if_pos (by have := HN.out; omega)]; have := HN.out; have := HM.out; omega
  obtain ⟨h1, h2, h3⟩ := HR.out.step hp HK3.out HO3.out hml (fun k hk' => .inl (by rw [HV.out]; exact hk')) hh4 hw4 hk4
  have HP : Hid (LPost w2 l V (upd R p ((R p).erase id)) (.bool true) (.returned (.bool true)) w4) := ⟨rfl, _, h1, h2, h3⟩
  clear hh4 hw4 hk4 h1 h2 h3
  go_wp2
  go_ret
  exact HP.out

end Go.Proofs.Ytgnjenmicojgnaa
