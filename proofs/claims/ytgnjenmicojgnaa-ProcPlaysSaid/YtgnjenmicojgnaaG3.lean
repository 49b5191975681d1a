/-
  What do answers of Missed's action.
-/
import Derived.Test.YtgnjenmicojgnaaG2
import Derived.Test.YtgnjenmicojgnaaC3
namespace Go.Proofs.Ytgnjenmicojgnaa
set_option linter.unusedVariables false
set_option linter.unusedSimpArgs false
open Go.RowKit

def DoPost (w : World) (t g c n : Nat) (A : Addr) (e : Ending) (w' : World) : Prop :=
  ∃ b c' ps' rs', e = .returned (.tuple #[.slice (some b) n c', .bool true]) ∧ Tab w' t g c ps' ∧ RowG w' rfC 13 (some b) rs' ∧ RelL ps' rs' ∧ (∀ p, p ∈ ps' → p.Ok) ∧ Apart w.heap.size w w' g ∧ rs'.length = n ∧
    (b = A ∨ ∃ k, b = ⟨k, 0, none⟩ ∧ w.heap.size ≤ k)

theorem mark_okL {ps : List Pr} (now : Int) (hok : ∀ p, p ∈ ps → p.Ok) (hrest : True) : ∀ p, p ∈ ps.map (markP now) → p.Ok := by
  intro p hp
  rw [List.mem_map] at hp
  obtain ⟨q, hq, rfl⟩ := hp
  have h := hok q hq
  unfold markP
  split
  · rename_i hm
    unfold missB Pr.busyB at hm
    simp only [Bool.and_eq_true, Bool.or_eq_true, beq_iff_eq, decide_eq_true_eq] at hm
    obtain ⟨h1, h2, h3, h4, h5, h6, h7, h8, h9, h10, h11, h12, h13⟩ := h
    exact ⟨h1, h2, h3, h4, h5, h6, h7, h8, h9, h10, h11, fun e => by simp only at e; omega, fun e => by simp only at e; omega⟩
  · exact h

set_option maxRecDepth 100000 in
set_option maxHeartbeats 2000000 in
theorem do_miss (t g c : Nat) (A : Addr) (n cc : Nat) (ps : List Pr) (rs : List Rf) (d i x : Int) (w : World) (hn : rs.length = n) (hd : 0 ≤ d ∧ d ≤ 255) (hm : d % 16 = 13) (hT : Tab w t g c ps) (hR : RowG w rfC 13 (some A) rs) (hrel : RelL ps rs) (hok : ∀ p, p ∈ ps → p.Ok)
    (hne : rs.length ≠ 0 → A.block ≠ g) :
    Calls Try.prog 23 #[.pointer (some ⟨t, 0, none⟩), .slice (some A) n cc, .agg #[.int .u8 d, .int .i64 i, .int .i64 x]] w (DoPost w t g c n A) := by
  obtain ⟨hd1, hd2⟩ := hd
  have hl := hT.len
  have hl2 := hrel.1
  have HN := Lib.hid hn
  have HT := Lib.hid hT
  have HR := Lib.hid hR
  have HREL := Lib.hid hrel
  have HOK := Lib.hid hok
  have HNE := Lib.hid hne
  have HB : Hid (∀ o, Below w.heap.size w (w.alloc o)) := fun o => (Below.refl _ _).alloc (Nat.le_refl _) o
  clear hn hT hR hrel hok hne
  by_cases hx : x < 0 ∨ 1099511627776 < x
  · have HP : Hid (∀ o, DoPost w t g c n A (.returned (.tuple #[.slice (some A) n cc, .bool true])) (w.alloc o)) := fun o =>
      ⟨A, cc, ps, rs, rfl, HT.out.alloc o, HR.out.below (HB.out o), HREL.out, HOK.out, Apart.of_below (HB.out o) (Nat.le_refl _), HN.out, .inl rfl⟩
    rcases hx with hx | hx
    · go_enter Try.func23, Try.ntmps23
      go_wp2
      go_ret2
      exact HP.out _
    · have hx0 : ¬ x < 0 := by omega
      go_enter Try.func23, Try.ntmps23
      go_wp2
      go_ret2
      exact HP.out _
  · have hx1 : 0 ≤ x := by omega
    have hx2 : x ≤ 1099511627776 := by omega
    clear hx
    go_enter Try.func23, Try.ntmps23
    go_wp2_with fail
    obtain ⟨W0, hW0⟩ : ∃ W0, W0 = w.alloc (.cells #[.int .u8 d, .int .i64 i, .int .i64 x] 52) := ⟨_, rfl⟩
    rw [← hW0]
    have HB0 : Hid (Below w.heap.size w W0) := by rw [hW0]; exact HB.out _
    have hc0 : ∀ j, W0.cell? ⟨w.heap.size, j, none⟩ = (#[.int .u8 d, .int .i64 i, .int .i64 x] : Array Value)[j]? := by rw [hW0]; intro j; simp
    have hs0 : w.heap.size < W0.heap.size := by rw [hW0]; simp
    clear hW0
    refine (rmissed_any A n cc rs x W0 HN.out (HR.out.below HB0.out) (by have := HN.out; omega) (fun r hr => ?_) ⟨hx1, hx2⟩).mono ?_
    · obtain ⟨k, hk⟩ := List.getElem?_of_mem hr
      have hkl : k < rs.length := (List.getElem?_eq_some_iff.1 hk).1
      obtain ⟨p, hp⟩ : ∃ p, ps[k]? = some p := ⟨_, List.getElem?_eq_getElem (by omega)⟩
      exact (HREL.out.2 k p r hp hk).ok
    rintro e w1 ⟨g1, c1, I, ic, rfl, hg1, hr1, ho1, hi1, hf1, hb1⟩
    have HF1 := Lib.hid hf1
    have HS01 := Lib.hid HB0.out.size
    clear hf1
    have hc1 : ∀ j, w1.cell? ⟨w.heap.size, j, none⟩ = (#[.int .u8 d, .int .i64 i, .int .i64 x] : Array Value)[j]? := fun j => (hb1.cell (p := ⟨w.heap.size, j, none⟩) hs0).trans (hc0 j)
    have hs1 : w.heap.size < w1.heap.size := by have := hb1.size; omega
    have HB1 : Hid (Below w.heap.size w w1) := HB0.out.trans (hb1.mono HB0.out.size)
    have HT1 := Lib.hid (HT.out.below HB1.out)
    have HO1 := Lib.hid ho1
    have HI1 := Lib.hid hi1
    have HG1 : Hid (w.heap.size ≤ g1) := Nat.le_trans HB0.out.size hg1
    clear hb1 hr1 ho1 hi1 hg1 hc0
    have E1 : Hid (idsTo x ps ps.length = ridsTo x rs n) := by unfold Hid; rw [miss_ids x HREL.out, HREL.out.1, HN.out]
    go_wp2_with fail
    refine (miss_is x E1.out rfl ⟨hx1, hx2⟩ HT1.out HOK.out).mono ?_
    rintro e w2 ⟨A2, cc2, rfl, hi2, hT2, hA2⟩
    have HI2 := Lib.hid hi2
    have HT2 := Lib.hid hT2
    have HA2 : Hid (Apart w.heap.size w w2 g) := (Apart.of_below HB1.out (Nat.le_refl _)).trans (hA2.mono HB1.out.size)
    have HA2' := Lib.hid hA2
    have HS2 := Lib.hid hA2.size
    clear hi2 hT2 hA2
    have HIA : Hid (Ints w2 I (ridsTo x rs n)) := by
      by_cases hz : ps.length = 0
      · intro hlz
        exfalso
        have h0 := ridsTo_length x rs n
        have := HREL.out.1
        have := HN.out
        omega
      · exact HI1.out.apart HF1.out HA2'.out (by have := HT.out.glt hz; have := HS01.out; omega)
    have HROW : Hid (RowG w2 rfC 13 (some ⟨g1, 0, none⟩) (rs.map (rmark x))) := by
      refine HO1.out.rowG.apart HA2'.out (fun hz b o e eb => ?_)
      injection e with e
      injection e with e1 e2
      subst e1
      have hz' : ps.length ≠ 0 := by have := HREL.out.1; simp at hz; intro h; apply hz; apply List.eq_nil_of_length_eq_zero; omega
      have := HT.out.glt hz'
      have := HG1.out
      omega
    go_wp2_with fail
    refine (equal_is (b := true) (by simp) HI2.out HIA.out (by have := ridsTo_length x rs n; have := HN.out; omega) rfl rfl).mono ?_
    rintro e w3 ⟨rfl, hb3⟩
    have HP : Hid (DoPost w t g c n A (.returned (.tuple #[.slice (some ⟨g1, 0, none⟩) n c1, .bool true])) w3) := by
      refine ⟨⟨g1, 0, none⟩, c1, ps.map (markP x), rs.map (rmark x), rfl, HT2.out.below hb3, HROW.out.below hb3, miss_relL x HREL.out, mark_okL x HOK.out trivial, HA2.out.trans (Apart.of_below hb3 HA2.out.size), by simpa using HN.out, .inr ⟨g1, rfl, HG1.out⟩⟩
    clear hb3
    go_wp2
    go_ret2
    exact HP.out

end Go.Proofs.Ytgnjenmicojgnaa
