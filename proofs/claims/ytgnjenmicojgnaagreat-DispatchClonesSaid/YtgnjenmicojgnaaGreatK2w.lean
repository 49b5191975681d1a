/-
  What New, Raise of a Dispatch do; the document's Same of two slices of ints.
-/
import Derived.Test.YtgnjenmicojgnaaGreatK1w
namespace Go.Proofs.YtgnjenmicojgnaaGreat
set_option linter.unusedVariables false
set_option linter.unusedSimpArgs false
open Go.RowKit

def v0 : Nat → Value := fun _ => .slice none 0 0
def r0 : Nat → List Int := fun _ => []

theorem rdy_new {w : World} {l : Nat} (h : w.heap[l]? = some (.cells ((Array.replicate 64 (Value.slice none 0 0)).push (.int .u64 0)) 124 (0, 0))) : Rdy w l v0 r0 := by
  refine ⟨⟨0, ⟨_, h, by simp, fun p hp => ?_, ?_⟩, ⟨0#64, rfl, fun q hq => by simp [r0]⟩⟩, fun p hp => Own.nil w, fun p q _ _ _ k hk => by simp [v0, Value.ownBlock] at hk, fun p _ => by simp [v0, Value.ownBlock]⟩
  · rw [Array.getElem?_push, if_neg (by simp; omega), Array.getElem?_replicate, if_pos hp]
    rfl
  · rw [Array.getElem?_push, if_pos (by simp)]

set_option maxRecDepth 100000 in
set_option maxHeartbeats 1000000 in
theorem lnew_any (w : World) : Calls Tryz.prog 61 #[] w fun e w' => e = .returned (.pointer (some ⟨w.heap.size, 0, none⟩)) ∧ Rdy w' w.heap.size v0 r0 ∧ Below w.heap.size w w' ∧ w'.heap.size = w.heap.size + 1 := by
  have HP : Hid (∀ w', w' = w.alloc (.cells ((Array.replicate 64 (Value.slice none 0 0)).push (.int .u64 0)) 124) → Rdy w' w.heap.size v0 r0 ∧ Below w.heap.size w w' ∧ w'.heap.size = w.heap.size + 1) := by
    rintro w' rfl
    exact ⟨rdy_new (heap_alloc_new w _), (Below.refl _ _).alloc (Nat.le_refl _) _, by simp⟩
  go_enter Tryz.func61, Tryz.ntmps61
  go_wp2
  go_ret
  exact ⟨rfl, HP.out _ rfl⟩

set_option maxRecDepth 100000 in
set_option maxHeartbeats 1000000 in
theorem tnew_any (w : World) : Calls Tryz.prog 62 #[] w fun e w' => e = .returned (.pointer (some ⟨w.heap.size, 0, none⟩)) ∧ Tms w' w.heap.size (.slice none 0 0) [] ∧ Below w.heap.size w w' ∧ w'.heap.size = w.heap.size + 1 := by
  have HP : Hid (∀ w', w' = w.alloc (.cells #[.slice none 0 0] 133) → Tms w' w.heap.size (.slice none 0 0) [] ∧ Below w.heap.size w w' ∧ w'.heap.size = w.heap.size + 1) := by
    rintro w' rfl
    exact ⟨⟨heap_alloc_new w _, World.ownsRow_nil _ _ _ _, by simp [Value.ownBlock]⟩, (Below.refl _ _).alloc (Nat.le_refl _) _, by simp⟩
  go_enter Tryz.func62, Tryz.ntmps62
  go_wp2
  go_ret
  exact ⟨rfl, HP.out _ rfl⟩

theorem inL_new {l i : Nat} : inL l v0 i ↔ i = l := by
  constructor
  · rintro (h | ⟨p, _, h⟩)
    · exact h
    · simp [v0, Value.ownBlock] at h
  · exact fun h => .inl h
theorem inT_new {m i : Nat} : inT m (.slice none 0 0) i ↔ i = m := by
  constructor
  · rintro (h | h)
    · exact h
    · simp [Value.ownBlock] at h
  · exact fun h => .inl h

def DNew (w : World) (ps : List Pr) (e : Ending) (w' : World) : Prop :=
  ∃ d t g c l m, e = .returned (.tuple #[.pointer (some ⟨d, 0, none⟩), .int .i64 0]) ∧ Dsp w' d t g c l m v0 (.slice none 0 0) ps r0 [] ∧ (∀ i, inD d t g l m v0 (.slice none 0 0) i → w.heap.size ≤ i) ∧ Below w.heap.size w w'

set_option maxRecDepth 100000 in
set_option maxHeartbeats 1000000 in
theorem dnew_any (A : Option Addr) (n cc : Nat) (l : List At) (w : World) (hn : l.length = n) (hA : AtRow w A l) (hm : n ≤ 140737488355328) (hok : newOk l = true) :
    Calls Tryz.prog 25 #[.slice A n cc] w (DNew w (l.map prOf)) := by
  have HC := Lib.hid (new_any A n cc l w hn hA hm)
  have HOK := Lib.hid hok
  clear hn hA hok
  go_enter Tryz.func25, Tryz.ntmps25
  go_wp2_with fail
  refine HC.out.mono ?_
  rintro e w1 ⟨hp, hb1⟩
  rcases hp with ⟨_, t, g, c, rfl, hT, ht, hg⟩ | ⟨hno, _⟩
  rotate_left
  · exact absurd (HOK.out.symm.trans hno) (by simp)
  have HB1 := Lib.hid hb1
  have HT := Lib.hid hT
  have HTT := Lib.hid ht
  have HG := Lib.hid hg
  clear hT ht hg hb1
  go_wp2_with fail
  refine (lnew_any w1).mono ?_
  rintro e w2 ⟨rfl, hL, hb2, hs2⟩
  have HL := Lib.hid hL
  have HB2 := Lib.hid hb2
  have HS2 := Lib.hid hs2
  clear hL hb2 hs2
  go_wp2_with fail
  refine (tnew_any w2).mono ?_
  rintro e w3 ⟨rfl, hM, hb3, hs3⟩
  have HM := Lib.hid hM
  have HB3 := Lib.hid hb3
  have HS3 := Lib.hid hs3
  clear hM hb3 hs3
  have HP : Hid (∀ w', w' = w3.alloc (.cells #[.pointer (some ⟨t, 0, none⟩), .pointer (some ⟨w1.heap.size, 0, none⟩), .pointer (some ⟨w2.heap.size, 0, none⟩)] 76) → DNew w (l.map prOf) (.returned (.tuple #[.pointer (some ⟨w3.heap.size, 0, none⟩), .int .i64 0])) w') := by
    rintro w' hw'
    have hba : Below w3.heap.size w3 w' := by rw [hw']; exact (Below.refl _ _).alloc (Nat.le_refl _) _
    have hsz : w'.heap.size = w3.heap.size + 1 := by rw [hw']; simp
    have hcell : ∀ j, w'.cell? ⟨w3.heap.size, j, none⟩ = (#[.pointer (some ⟨t, 0, none⟩), .pointer (some ⟨w1.heap.size, 0, none⟩), .pointer (some ⟨w2.heap.size, 0, none⟩)] : Array Value)[j]? := by rw [hw']; intro j; simp
    have hs1 := HB1.out.size
    have hs2 := HS2.out
    have hs3 := HS3.out
    have hT3 := ((HT.out.below HB2.out).below HB3.out).below hba
    have hL3 := (HL.out.below HB3.out).below hba
    have hM3 := HM.out.below hba
    have hbel : Below w.heap.size w w' := ((HB1.out.trans (HB2.out.mono hs1)).trans (HB3.out.mono (by omega))).trans (hba.mono (by omega))
    have htl := HT.out.lt
    have ht := HTT.out
    obtain ⟨g', hT', hg1, hg2⟩ : ∃ g', Tab w' t g' c (l.map prOf) ∧ g' < w1.heap.size ∧ w.heap.size ≤ g' := by
      by_cases hz : l.length = 0
      · exact ⟨t, by
          refine ⟨?_, fun hn => absurd (by simpa using hz) hn, hT3.len⟩
          have := hT3.hdr
          unfold slc at this ⊢
          rw [if_pos (by simpa using hz)] at this ⊢
          exact this, htl, ht⟩
      · exact ⟨g, hT3, HT.out.glt (by simpa using hz), HG.out hz⟩
    refine ⟨w3.heap.size, t, g', c, w1.heap.size, w2.heap.size, rfl, ⟨hcell 0, hcell 1, hcell 2, by omega, by omega, hT', (fun p hp => by rw [List.mem_map] at hp; obtain ⟨a, ha, rfl⟩ := hp; have := HOK.out; unfold newOk at this; rw [Bool.and_eq_true] at this; exact ok_fresh (List.all_eq_true.1 this.2 a ha)), hL3, hM3, by omega, ?_, ?_, ?_, ?_, ?_, ?_, ?_⟩, ?_, hbel⟩
    · rw [inL_new]; omega
    · rw [inT_new]; omega
    · rw [inL_new]; omega
    · rw [inT_new]; omega
    · rw [inL_new]; omega
    · rw [inT_new]; omega
    · intro i hi
      rw [inL_new] at hi
      rw [inT_new]
      omega
    · rintro i (rfl | rfl | rfl | hi | hi)
      · omega
      · omega
      · omega
      · rw [inL_new] at hi; omega
      · rw [inT_new] at hi; omega
  go_wp2
  go_ret2
  exact HP.out _ rfl

end Go.Proofs.YtgnjenmicojgnaaGreat
