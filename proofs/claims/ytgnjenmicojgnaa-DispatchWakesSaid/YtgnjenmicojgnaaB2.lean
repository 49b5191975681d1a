/-
  What New makes of a list of at most 2 to the 47 attributes.
-/
import Derived.Test.YtgnjenmicojgnaaB1
namespace Go.Proofs.Ytgnjenmicojgnaa
set_option linter.unusedVariables false
set_option linter.unusedSimpArgs false
open Go.RowKit

def NewPost (w : World) (l : List At) (e : Ending) (w' : World) : Prop :=
  ((newOk l = true ∧ ∃ t g c, e = .returned (.tuple #[.pointer (some ⟨t, 0, none⟩), .int .i64 0]) ∧ Tab w' t g c (l.map prOf) ∧ w.heap.size ≤ t ∧ (l.length ≠ 0 → w.heap.size ≤ g)) ∨
    (newOk l = false ∧ e = .returned (.tuple #[.pointer none, .int .i64 (if 16 < l.length then 8 else 2)]))) ∧ Below w.heap.size w w'

set_option maxRecDepth 100000 in
set_option maxHeartbeats 1000000 in
theorem new_any (A : Option Addr) (n cc : Nat) (l : List At) (w : World) (hn : l.length = n) (hA : AtRow w A l) (hm : n ≤ 140737488355328) :
    Calls Try.prog 12 #[.slice A n cc] w (NewPost w l) := by
  by_cases hs : n ≤ 16
  case neg =>
    have HP : Hid (NewPost w l (.returned (.tuple #[.pointer none, .int .i64 8])) w) := by
      refine ⟨.inr ⟨?_, ?_⟩, Below.refl _ _⟩
      · unfold newOk; simp; omega
      · rw [if_pos (by omega)]
    clear hn hA
    go_enter Try.func12, Try.ntmps12
    go_wp2
    go_ret2
    exact HP.out
  case pos =>
  obtain ⟨i0, hi0, hz0, hz1, hz2⟩ := info_parts info86
  have HN := Lib.hid hn
  have HA := Lib.hid hA
  clear hn hA
  go_enter Try.func12, Try.ntmps12
  go_wp2_with fail
  go_loopw [14] (fun i wr => ∃ k : Nat, k ≤ n ∧ i = .int .i64 k ∧ ∃ va vc, NewRel w l k va vc wr) (fun i _ => n - (intOf i).toNat)
  case atStart => exact ⟨0, Nat.zero_le _, rfl, none, 0, new_start w l⟩
  case round =>
    obtain ⟨k, hk, rfl, va, vc, hrel⟩ := hrel
    have HREL := Lib.hid hrel
    have hb := hrel.2.2.1
    have htl : w.heap.size < wr.heap.size := Row.lt ⟨_, hrel.1⟩
    by_cases hlt : k < n
    · obtain ⟨b, o, rfl, hbl, hel⟩ := HA.out (by have := HN.out; omega)
      obtain ⟨a, hlk⟩ : ∃ a, l[k]? = some a := ⟨_, List.getElem?_eq_getElem (by have := HN.out; omega)⟩
      have hE := hel k a hlk
      have hbr := hb.size
      have e0 := (hb.cell (p := ⟨b, o + k * 5, none⟩) hbl).trans hE.c0
      have e1 := (hb.cell (p := ⟨b, o + k * 5 + 1, none⟩) hbl).trans hE.c1
      have e2 := (hb.cell (p := ⟨b, o + k * 5 + 2, none⟩) hbl).trans hE.c2
      have e3 := (hb.cell (p := ⟨b, o + k * 5 + 3, none⟩) hbl).trans hE.c3
      have e4 := (hb.cell (p := ⟨b, o + k * 5 + 4, none⟩) hbl).trans hE.c4
      have hbl' : b < wr.heap.size := by omega
      have HLK := Lib.hid hlk
      clear hlk hel hE hrel
      go_wp2_with fail
      refine (may_any a.pri a.per a.cap a.dl a.off _).mono ?_
      rintro e w1 ⟨rfl, hb1⟩
      cases hmay : mayB a.pri a.per a.cap a.dl a.off with
      | false =>
        have HP : Hid (NewPost w l (.returned (.tuple #[.pointer none, .int .i64 2])) w1) := by
          have hf : a.may = false := hmay
          refine ⟨.inr ⟨?_, ?_⟩, (hb.alloc hb.size _).trans (hb1.mono (by simp; omega))⟩
          · have hmem : a ∈ l := List.mem_of_getElem? HLK.out
            have : l.all At.may = false := List.all_eq_false.2 ⟨a, hmem, by simp [hf]⟩
            unfold newOk
            rw [this, Bool.and_false]
          · rw [if_neg (by have := HN.out; omega)]
        have HB1 := Lib.hid hb1
        clear hb1
        go_wp2
        go_ret2
        exact HP.out
      | true =>
        have hs1 := hb1.size
        rw [World.size_alloc] at hs1
        obtain ⟨hh, hown, -⟩ := HREL.out
        have hh1 : w1.heap[w.heap.size]? = some (.cells #[.slice va k vc] 80 (0, 0)) := (hb1.block _ (by simp; omega)).trans ((Below.heap_alloc _ _ _ htl).trans hh)
        have hown1 : w1.ownsRow (w.heap.size + 1) 86 13 (.slice va k vc) k (flat ((l.take k).map prOf)) := (hown.alloc _).kept (row := none) ⟨hb1.os, hb1.tape, hb1.output, hb1.size, fun i hi _ => hb1.block i hi⟩ (by cases h : Value.ownBlock (.slice va k vc) <;> simp)
        have q0 : w1.cell? ⟨wr.heap.size, 0, none⟩ = some (.int .i64 a.pri) := (hb1.cell (p := ⟨wr.heap.size, 0, none⟩) (by simp)).trans (by simp)
        have q1 : w1.cell? ⟨wr.heap.size, 1, none⟩ = some (.int .i64 a.per) := (hb1.cell (p := ⟨wr.heap.size, 1, none⟩) (by simp)).trans (by simp)
        have q2 : w1.cell? ⟨wr.heap.size, 2, none⟩ = some (.int .i64 a.cap) := (hb1.cell (p := ⟨wr.heap.size, 2, none⟩) (by simp)).trans (by simp)
        have q3 : w1.cell? ⟨wr.heap.size, 3, none⟩ = some (.int .i64 a.dl) := (hb1.cell (p := ⟨wr.heap.size, 3, none⟩) (by simp)).trans (by simp)
        have q4 : w1.cell? ⟨wr.heap.size, 4, none⟩ = some (.int .i64 a.off) := (hb1.cell (p := ⟨wr.heap.size, 4, none⟩) (by simp)).trans (by simp)
        have t0 : w1.cell? ⟨w.heap.size, 0, none⟩ = some (.slice va k vc) := by simp [World.cell?, hh1]
        have tf : w1.frozen? ⟨w.heap.size, 0, none⟩ = false := Row.fz ⟨_, hh1⟩ 0
        have htl1 : w.heap.size < w1.heap.size := by omega
        have hrl1 : wr.heap.size < w1.heap.size := by omega
        have HNE : Hid (some w.heap.size ≠ Value.ownBlock (.slice va k vc)) := fun he => by have := (hown1.lt _ he.symm).1; omega
        have HMAY : Hid (a.may = true) := hmay
        have HOWN1 := Lib.hid hown1
        have HB1 := Lib.hid hb1
        clear hh hown hh1 hown1 hb1
        go_wp2_with fail
        go_region_law (
          (refine step_append_lies _ (by rfl) _ _ _ (by rfl) (w.heap.size + 1) 86 i0 _ 13 104 Try.underlying78 hi0 hz0 hz1 hz2 rfl (by omega) (.slice va k vc) k (flat ((l.take k).map prOf)) (by rfl) ((HOWN1.out.alloc _).drew)
              ⟨w1.heap.size, 0, none⟩ 1 1 (prOf a).cells.toList (by rfl) (by rfl) (World.news_of_block (cs := (prOf a).cells) (t := 86) (fr := (0, 0)) (heap_alloc_new w1 _)) (by simp [Value.oneCell', prOf, Pr.cells])
              (by omega) (by unfold maxLen; omega) (by omega) (by simp; omega) (w1.heap.size + 1) (by simp) ?_
           intro gg cap w2 hown2 hgrow hat hlt2
           have t2 : w2.cell? ⟨w.heap.size, 0, none⟩ = some (.slice va k vc) := (hgrow.cell_far ⟨w.heap.size, 0, none⟩ (by simp; omega) HNE.out).trans (by simp [World.cell?_alloc_lt, htl1, t0])
           have tf2 : w2.frozen? ⟨w.heap.size, 0, none⟩ = false := (hgrow.frozen_far ⟨w.heap.size, 0, none⟩ (by simp; omega) HNE.out).trans (by go_simp)))
        all_goals
          have HR := Lib.hid (new_step HREL.out HLK.out HMAY.out HB1.out hown2 hgrow)
          clear hown2 hgrow
          go_wp2
          go_roundw
          case rel => exact ⟨k + 1, by omega, by go_num, some ⟨gg, 0, none⟩, cap, HR.out⟩
          case measure => simp [intOf]; omega
    · have hkn : k = n := by omega
      have HP : Hid (NewPost w l (.returned (.tuple #[.pointer (some ⟨w.heap.size, 0, none⟩), .int .i64 0])) wr) := by
        obtain ⟨hh, hown, hb, h0, hall⟩ := hrel
        have hl := HN.out
        have htk : l.take k = l := List.take_of_length_le (by omega)
        rw [htk] at hown hall
        have e1 : (l.map prOf).length = k := by rw [List.length_map]; omega
        obtain ⟨g, c, hT, hg⟩ := tab_of_own (t := w.heap.size) (base := w.heap.size + 1) (va := va) (vc := vc) (ps := l.map prOf) (by rw [e1]; exact hh) (by rw [e1]; exact hown) (by rw [e1]; exact h0) (by omega)
        refine ⟨.inl ⟨?_, w.heap.size, g, c, rfl, hT, Nat.le_refl _, fun h => ?_⟩, hb⟩
        · unfold newOk
          rw [hall]
          simp
          omega
        · have := hg (by rw [e1]; omega)
          omega
      clear hrel
      go_wp2_with fail
      go_ret2
      exact HP.out

end Go.Proofs.Ytgnjenmicojgnaa
