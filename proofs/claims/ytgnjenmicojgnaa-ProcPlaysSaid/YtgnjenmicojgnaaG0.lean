/-
  What made answers of at most 20 attributes: the table and the document's slice, or neither.
-/
import Derived.Test.YtgnjenmicojgnaaE1
namespace Go.Proofs.Ytgnjenmicojgnaa
set_option linter.unusedVariables false
set_option linter.unusedSimpArgs false
open Go.RowKit

def MadePost (w : World) (l : List At) (n : Nat) (e : Ending) (w' : World) : Prop :=
  ((newOk l = true ∧ ∃ t g c b c', e = .returned (.tuple #[.pointer (some ⟨t, 0, none⟩), .slice (some ⟨b, 0, none⟩) n c', .bool true]) ∧ Tab w' t g c (l.map prOf) ∧ RowG w' rfC 13 (some ⟨b, 0, none⟩) (l.map rfOf) ∧ w.heap.size ≤ t ∧ (l.length ≠ 0 → w.heap.size ≤ g) ∧ w.heap.size ≤ b ∧ b ≠ t ∧ (l.length ≠ 0 → b ≠ g)) ∨
    (newOk l = false ∧ e = .returned (.tuple #[.pointer none, .slice none 0 0, .bool true]))) ∧ Below w.heap.size w w'

set_option maxRecDepth 100000 in
set_option maxHeartbeats 1000000 in
theorem made_any (A : Option Addr) (n cc : Nat) (l : List At) (w : World) (hn : l.length = n) (hA : AtRow w A l) (hm : n ≤ 20) :
    Calls Try.prog 22 #[.slice A n cc] w (MadePost w l n) := by
  have HN := Lib.hid hn
  have HA := Lib.hid hA
  clear hn hA
  go_enter Try.func22, Try.ntmps22
  go_wp2_with fail
  refine (attrs_any A n cc l w HN.out HA.out hm).mono ?_
  rintro e w1 ⟨A1, c1, rfl, hA1, hb1⟩
  have HA1 := Lib.hid hA1
  have HB1 := Lib.hid hb1
  clear hA1 hb1
  go_wp2_with fail
  refine (new_any A1 n c1 l w1 HN.out HA1.out (by omega)).mono ?_
  rintro e w2 ⟨hp, hb2⟩
  have HB2 : Hid (Below w.heap.size w w2) := HB1.out.trans (hb2.mono HB1.out.size)
  have HS2 := Lib.hid hb2.size
  clear hb2
  have HA2 := Lib.hid (HA.out.below HB2.out)
  rcases hp with ⟨hok, t, g, c, rfl, hT, ht, hg⟩ | ⟨hok, rfl⟩
  · have HOK := Lib.hid hok
    have HT := Lib.hid hT
    have HTT := Lib.hid ht
    have HG := Lib.hid hg
    clear hok hT ht hg
    go_wp2_with fail
    refine (rnew_any A n cc l w2 HN.out HA2.out (by omega)).mono ?_
    rintro e w3 ⟨hp, hb3⟩
    rcases hp with ⟨hok', b, c', rfl, hbb, hrr, hR⟩ | ⟨hok', rfl⟩
    · have HP : Hid (MadePost w l n (.returned (.tuple #[.pointer (some ⟨t, 0, none⟩), .slice (some ⟨b, 0, none⟩) n c', .bool true])) w3) := by
        have hs1 := HB1.out.size
        have hs2 := HB2.out.size
        refine ⟨.inl ⟨HOK.out, t, g, c, b, c', rfl, HT.out.below hb3, hR, Nat.le_trans hs1 HTT.out, fun h => Nat.le_trans hs1 (HG.out h), Nat.le_trans hs2 hbb, fun e => by have := HT.out.lt; omega, fun h e => ?_⟩, HB2.out.trans (hb3.mono hs2)⟩
        have := HT.out.glt (by rw [List.length_map]; exact h)
        omega
      clear hok' hbb hrr hR hb3
      go_wp2
      refine bodyPost_ret (v := .tuple #[.pointer (some ⟨t, 0, none⟩), .slice (some ⟨b, 0, none⟩) n c', .bool true]) (by simp [results, Try.results22, go_sem]) rfl ?_
      exact HP.out
    · exact absurd (HOK.out.symm.trans hok') (by simp)
  · have HOK := Lib.hid hok
    clear hok
    obtain ⟨ec, hec⟩ : ∃ ec : Int, ec = (if 16 < l.length then 8 else 2) := ⟨_, rfl⟩
    have hec0 : ec = 8 ∨ ec = 2 := by rw [hec]; split <;> simp
    rw [← hec]
    have HEC := Lib.hid hec
    clear hec
    have hec1 : (ec == 0) = false := by simp; omega
    clear hec0
    go_wp2_with fail
    refine (rnew_any A n cc l w2 HN.out HA2.out (by omega)).mono ?_
    rintro e w3 ⟨hp, hb3⟩
    rcases hp with ⟨hok', _⟩ | ⟨hok', rfl⟩
    · exact absurd (HOK.out.symm.trans hok') (by simp)
    · have HP : Hid (MadePost w l n (.returned (.tuple #[.pointer none, .slice none 0 0, .bool true])) w3) :=
        ⟨.inr ⟨HOK.out, rfl⟩, HB2.out.trans (hb3.mono HB2.out.size)⟩
      clear hok' hb3
      rw [← HEC.out]
      go_wp2
      refine bodyPost_ret (v := .tuple #[.pointer none, .slice none 0 0, .bool true]) (by simp [results, Try.results22, go_sem]) rfl ?_
      exact HP.out

end Go.Proofs.Ytgnjenmicojgnaa
