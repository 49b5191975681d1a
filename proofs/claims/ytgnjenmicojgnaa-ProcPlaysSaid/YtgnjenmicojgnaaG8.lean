/-
  What do answers of Done and Charge, in range.
-/
import Derived.Test.YtgnjenmicojgnaaG4
namespace Go.Proofs.Ytgnjenmicojgnaa
set_option linter.unusedVariables false
set_option linter.unusedSimpArgs false
open Go.RowKit

set_option maxRecDepth 100000 in
set_option maxHeartbeats 2000000 in
theorem do_done7 (t g c : Nat) (A : Addr) (n cc : Nat) (ps : List Pr) (rs : List Rf) (d i x : Int) (w : World) (hn : rs.length = n) (hd : 0 ≤ d ∧ d ≤ 255) (hm : d % 16 = 7) (hT : Tab w t g c ps) (hR : RowG w rfC 13 (some A) rs) (hrel : RelL ps rs) (hok : ∀ p, p ∈ ps → p.Ok)
    (hne : A.block ≠ g) (hg : g < w.heap.size) (hi : 0 ≤ i ∧ i < n) :
    Calls Try.prog 23 #[.pointer (some ⟨t, 0, none⟩), .slice (some A) n cc, .agg #[.int .u8 d, .int .i64 i, .int .i64 x]] w (DoPost w t g c n A) := by
  obtain ⟨hd1, hd2⟩ := hd
  obtain ⟨hi1, hi2⟩ := hi
  have hl := hT.len
  have hl2 := hrel.1
  obtain ⟨k, rfl⟩ : ∃ k : Nat, i = k := ⟨i.toNat, by omega⟩
  obtain ⟨r, hrk⟩ : ∃ r, rs[k]? = some r := ⟨_, List.getElem?_eq_getElem (by omega)⟩
  obtain ⟨b, o, hge, hgl, hgc⟩ := hR (by omega)
  injection hge with hge
  subst hge
  have hck : ∀ j, j < 13 → w.cell? ⟨b, o + k * 13 + j, none⟩ = (rfC r)[j]? := fun j hj => hgc k r hrk j hj
  have c0 : w.cell? ⟨b, o + k * 13, none⟩ = some (.int .i64 r.pri) := hck 0 (by omega)
  have c1 : w.cell? ⟨b, o + k * 13 + 1, none⟩ = some (.int .i64 r.per) := hck 1 (by omega)
  have c2 : w.cell? ⟨b, o + k * 13 + 2, none⟩ = some (.int .i64 r.cap) := hck 2 (by omega)
  have c3 : w.cell? ⟨b, o + k * 13 + 3, none⟩ = some (.int .i64 r.dl) := hck 3 (by omega)
  have c4 : w.cell? ⟨b, o + k * 13 + 4, none⟩ = some (.int .i64 r.off) := hck 4 (by omega)
  have c5 : w.cell? ⟨b, o + k * 13 + 5, none⟩ = some (.int .i64 r.st) := hck 5 (by omega)
  have c6 : w.cell? ⟨b, o + k * 13 + 6, none⟩ = some (.bool r.held) := hck 6 (by omega)
  have c7 : w.cell? ⟨b, o + k * 13 + 7, none⟩ = some (.int .i64 r.til) := hck 7 (by omega)
  have c8 : w.cell? ⟨b, o + k * 13 + 8, none⟩ = some (.int .i64 r.beg) := hck 8 (by omega)
  have c9 : w.cell? ⟨b, o + k * 13 + 9, none⟩ = some (.int .i64 r.used) := hck 9 (by omega)
  have c10 : w.cell? ⟨b, o + k * 13 + 10, none⟩ = some (.bool r.missed) := hck 10 (by omega)
  have c11 : w.cell? ⟨b, o + k * 13 + 11, none⟩ = some (.int .i64 r.base) := hck 11 (by omega)
  have c12 : w.cell? ⟨b, o + k * 13 + 12, none⟩ = some (.int .i64 r.raised) := hck 12 (by omega)
  have HN := Lib.hid hn
  have HT := Lib.hid hT
  have HR := Lib.hid hR
  have HREL := Lib.hid hrel
  have HOK := Lib.hid hok
  have HNE := Lib.hid hne
  have HG := Lib.hid hg
  have HRK := Lib.hid hrk
  clear hn hT hR hrel hok hne hg hrk hgc hck
  go_enter Try.func23, Try.ntmps23
  go_wp2_with fail
  obtain ⟨W0, hW0⟩ : ∃ W0, W0 = (w.alloc (.cells #[.int .u8 d, .int .i64 k, .int .i64 x] 52)).alloc (.cells #[.int .i64 r.pri, .int .i64 r.per, .int .i64 r.cap, .int .i64 r.dl, .int .i64 r.off, .int .i64 r.st, .bool r.held, .int .i64 r.til, .int .i64 r.beg, .int .i64 r.used, .bool r.missed, .int .i64 r.base, .int .i64 r.raised] 101) := ⟨_, rfl⟩
  rw [← hW0]
  have HB0 : Hid (Below w.heap.size w W0) := by rw [hW0]; exact ((Below.refl _ _).alloc (Nat.le_refl _) _).alloc (by simp) _
  have hp0 : ∀ j, W0.cell? ⟨w.heap.size, j, none⟩ = (#[.int .u8 d, .int .i64 k, .int .i64 x] : Array Value)[j]? := by rw [hW0]; intro j; go_simp
  have hr0 : ∀ j, W0.cell? ⟨w.heap.size + 1, j, none⟩ = (#[.int .i64 r.pri, .int .i64 r.per, .int .i64 r.cap, .int .i64 r.dl, .int .i64 r.off, .int .i64 r.st, .bool r.held, .int .i64 r.til, .int .i64 r.beg, .int .i64 r.used, .bool r.missed, .int .i64 r.base, .int .i64 r.raised] : Array Value)[j]? := by rw [hW0]; intro j; go_simp
  have hf0 : ∀ j, W0.frozen? ⟨w.heap.size + 1, j, none⟩ = false := by rw [hW0]; intro j; go_simp
  have hs0 : w.heap.size + 1 < W0.heap.size := by rw [hW0]; simp
  clear hW0 c0 c1 c2 c3 c4 c5 c6 c7 c8 c9 c10 c11 c12
  obtain ⟨ec, hec⟩ : ∃ ec, (doneRf x r).2.2 = ec := ⟨_, rfl⟩
  obtain ⟨xw, hxw⟩ : ∃ xw, (doneRf x r).2.1 = xw := ⟨_, rfl⟩
  obtain ⟨r', hr'⟩ : ∃ r', (doneRf x r).1 = r' := ⟨_, rfl⟩
  have hact := done_rel x HREL.out HOK.out (i := (k : Int)) (by omega) (r := r) (by simpa using HRK.out)
  rw [hec, hxw, hr'] at hact
  have HACT := Lib.hid hact
  have HOKR : Hid r.Ok := by
    have hkl : k < rs.length := (List.getElem?_eq_some_iff.1 HRK.out).1
    obtain ⟨p, hp⟩ : ∃ p, ps[k]? = some p := ⟨_, List.getElem?_eq_getElem (by omega)⟩
    exact (HREL.out.2 k p r hp HRK.out).ok
  have HEC := Lib.hid hec
  have HXW := Lib.hid hxw
  have HR' := Lib.hid hr'
  clear hact hec hr' hxw
  refine (done_any t g c ps k x W0 (HT.out.below HB0.out) HOK.out).mono ?_
  rw [HACT.out.1, HACT.out.2.1]
  rintro e w1 ⟨rfl, hT1, hA1⟩
  have hp1 : ∀ j, w1.cell? ⟨w.heap.size, j, none⟩ = (#[.int .u8 d, .int .i64 k, .int .i64 x] : Array Value)[j]? := fun j => (World.cell?_of_block (w := W0) (a := ⟨w.heap.size, j, none⟩) (hA1.block _ (by show w.heap.size < _; omega) (by have := HG.out; show w.heap.size ≠ g; omega))).trans (hp0 j)
  have hr1 : ∀ j, w1.cell? ⟨w.heap.size + 1, j, none⟩ = (#[.int .i64 r.pri, .int .i64 r.per, .int .i64 r.cap, .int .i64 r.dl, .int .i64 r.off, .int .i64 r.st, .bool r.held, .int .i64 r.til, .int .i64 r.beg, .int .i64 r.used, .bool r.missed, .int .i64 r.base, .int .i64 r.raised] : Array Value)[j]? := fun j => (World.cell?_of_block (w := W0) (a := ⟨w.heap.size + 1, j, none⟩) (hA1.block _ (by show w.heap.size + 1 < _; omega) (by have := HG.out; show w.heap.size + 1 ≠ g; omega))).trans (hr0 j)
  have hs1 : w.heap.size + 1 < w1.heap.size := by have := hA1.size; omega
  have HT1 := Lib.hid hT1
  have HA1 : Hid (Apart w.heap.size w w1 g) := (Apart.of_below HB0.out (Nat.le_refl _)).trans (hA1.mono HB0.out.size)
  have hf1 : ∀ j, w1.frozen? ⟨w.heap.size + 1, j, none⟩ = false := fun j => (World.frozen?_of_block (w := W0) (a := ⟨w.heap.size + 1, j, none⟩) (hA1.block _ (by show w.heap.size + 1 < _; omega) (by have := HG.out; show w.heap.size + 1 ≠ g; omega))).trans (hf0 j)
  clear hp0 hr0 hs0 hT1 hA1 hf0
  go_wp2_with fail
  refine (rdone_any r x w1 HOKR.out).mono ?_
  rw [HEC.out, HXW.out, HR'.out]
  unfold Rf.cells
  rintro e w2 ⟨rfl, hb2⟩
  have hp2 : ∀ j, w2.cell? ⟨w.heap.size, j, none⟩ = (#[.int .u8 d, .int .i64 k, .int .i64 x] : Array Value)[j]? := fun j => (hb2.cell (p := ⟨w.heap.size, j, none⟩) (by show w.heap.size < _; omega)).trans (hp1 j)
  have hr2 : ∀ j, w2.cell? ⟨w.heap.size + 1, j, none⟩ = (#[.int .i64 r.pri, .int .i64 r.per, .int .i64 r.cap, .int .i64 r.dl, .int .i64 r.off, .int .i64 r.st, .bool r.held, .int .i64 r.til, .int .i64 r.beg, .int .i64 r.used, .bool r.missed, .int .i64 r.base, .int .i64 r.raised] : Array Value)[j]? := fun j => (hb2.cell (p := ⟨w.heap.size + 1, j, none⟩) hs1).trans (hr1 j)
  have hf2 : ∀ j, w2.frozen? ⟨w.heap.size + 1, j, none⟩ = false := fun j => (hb2.frozen (p := ⟨w.heap.size + 1, j, none⟩) hs1).trans (hf1 j)
  have hs2 : w.heap.size + 1 < w2.heap.size := by have := hb2.size; omega
  have HT2 := Lib.hid (HT1.out.below hb2)
  have HA2 : Hid (Apart w.heap.size w w2 g) := HA1.out.trans (Apart.of_below hb2 HA1.out.size)
  clear hp1 hr1 hf1 hs1 hb2
  go_wp2_with fail
  change Calls _ _ _ (put13 w2 (w.heap.size + 1) 0 r') _
  obtain ⟨W3, hW3⟩ : ∃ W3, W3 = put13 w2 (w.heap.size + 1) 0 r' := ⟨_, rfl⟩
  rw [← hW3]
  have HB3 : Hid (Below (w.heap.size + 1) w2 W3) := by rw [hW3]; exact put13_below r' (Below.refl _ _) (Nat.le_refl _)
  have hr3 : ∀ j, j < 13 → W3.cell? ⟨w.heap.size + 1, j, none⟩ = (rfC r')[j]? := fun j hj => by
    rw [hW3]
    have := put13_cell (w := w2) (b := w.heap.size + 1) (o := 0) r' (fun j hj => by rw [Nat.zero_add, hr2 j]; match j, hj with | 0, _ => rfl | 1, _ => rfl | 2, _ => rfl | 3, _ => rfl | 4, _ => rfl | 5, _ => rfl | 6, _ => rfl | 7, _ => rfl | 8, _ => rfl | 9, _ => rfl | 10, _ => rfl | 11, _ => rfl | 12, _ => rfl) j hj
    rwa [Nat.zero_add] at this
  have hp3 : ∀ j, W3.cell? ⟨w.heap.size, j, none⟩ = (#[.int .u8 d, .int .i64 k, .int .i64 x] : Array Value)[j]? := fun j => (HB3.out.cell (p := ⟨w.heap.size, j, none⟩) (by show w.heap.size < _; omega)).trans (hp2 j)
  have hs3 : w.heap.size + 1 < W3.heap.size := by have := HB3.out.size; omega
  have HA3 : Hid (Apart w.heap.size w W3 g) := HA2.out.trans ⟨HB3.out.os, HB3.out.tape, HB3.out.output, HB3.out.size, fun i hi _ => HB3.out.block i (by omega)⟩
  have HT3 : Hid (Tab W3 t g c (act (doneF x) (tickB x) ps k).1) := HT2.out.keep2 (HB3.out.block t (by have := HT.out.lt; omega)) (HB3.out.block g (by have := HG.out; omega))
  have HR3 : Hid (RowG W3 rfC 13 (some ⟨b, o, none⟩) rs) := HR.out.apart HA3.out (fun _ b' o' e => by injection e with e; injection e with e1 e2; subst e1; exact HNE.out)
  clear hW3 hp2 hr2 hf2 hs2
  refine (rclone_any ⟨b, o, none⟩ n cc rs W3 HN.out HR3.out (by have := HN.out; omega)).mono ?_
  rintro e w4 ⟨b4, c4, rfl, hb4, hrow4, ho4, hbel4⟩
  have hp4 : ∀ j, w4.cell? ⟨w.heap.size, j, none⟩ = (#[.int .u8 d, .int .i64 k, .int .i64 x] : Array Value)[j]? := fun j => (hbel4.cell (p := ⟨w.heap.size, j, none⟩) (by show w.heap.size < _; omega)).trans (hp3 j)
  have hr4 : ∀ j, j < 13 → w4.cell? ⟨w.heap.size + 1, j, none⟩ = (rfC r')[j]? := fun j hj => (hbel4.cell (p := ⟨w.heap.size + 1, j, none⟩) hs3).trans (hr3 j hj)
  have d0 : w4.cell? ⟨w.heap.size + 1, 0, none⟩ = some (.int .i64 r'.pri) := hr4 0 (by omega)
  have d1 : w4.cell? ⟨w.heap.size + 1, 1, none⟩ = some (.int .i64 r'.per) := hr4 1 (by omega)
  have d2 : w4.cell? ⟨w.heap.size + 1, 2, none⟩ = some (.int .i64 r'.cap) := hr4 2 (by omega)
  have d3 : w4.cell? ⟨w.heap.size + 1, 3, none⟩ = some (.int .i64 r'.dl) := hr4 3 (by omega)
  have d4 : w4.cell? ⟨w.heap.size + 1, 4, none⟩ = some (.int .i64 r'.off) := hr4 4 (by omega)
  have d5 : w4.cell? ⟨w.heap.size + 1, 5, none⟩ = some (.int .i64 r'.st) := hr4 5 (by omega)
  have d6 : w4.cell? ⟨w.heap.size + 1, 6, none⟩ = some (.bool r'.held) := hr4 6 (by omega)
  have d7 : w4.cell? ⟨w.heap.size + 1, 7, none⟩ = some (.int .i64 r'.til) := hr4 7 (by omega)
  have d8 : w4.cell? ⟨w.heap.size + 1, 8, none⟩ = some (.int .i64 r'.beg) := hr4 8 (by omega)
  have d9 : w4.cell? ⟨w.heap.size + 1, 9, none⟩ = some (.int .i64 r'.used) := hr4 9 (by omega)
  have d10 : w4.cell? ⟨w.heap.size + 1, 10, none⟩ = some (.bool r'.missed) := hr4 10 (by omega)
  have d11 : w4.cell? ⟨w.heap.size + 1, 11, none⟩ = some (.int .i64 r'.base) := hr4 11 (by omega)
  have d12 : w4.cell? ⟨w.heap.size + 1, 12, none⟩ = some (.int .i64 r'.raised) := hr4 12 (by omega)
  have hs4 : w.heap.size + 1 < w4.heap.size := by have := hbel4.size; omega
  have hl4 := hrow4.lt
  have hz4 := hrow4.fz
  have HT4 := Lib.hid (HT3.out.below hbel4)
  have HA4 : Hid (Apart w.heap.size w w4 g) := HA3.out.trans (Apart.of_below hbel4 HA3.out.size)
  have HO4 := Lib.hid ho4
  obtain ⟨bb, hbe, _, _, hc4⟩ := ho4 (by have := HN.out; omega)
  injection hbe with hbe
  injection hbe with hbe
  subst hbe
  have f0 : w4.cell? ⟨b4, k * 13, none⟩ = some (.int .i64 r.pri) := hc4 k r HRK.out 0 (by omega)
  have f1 : w4.cell? ⟨b4, k * 13 + 1, none⟩ = some (.int .i64 r.per) := hc4 k r HRK.out 1 (by omega)
  have f2 : w4.cell? ⟨b4, k * 13 + 2, none⟩ = some (.int .i64 r.cap) := hc4 k r HRK.out 2 (by omega)
  have f3 : w4.cell? ⟨b4, k * 13 + 3, none⟩ = some (.int .i64 r.dl) := hc4 k r HRK.out 3 (by omega)
  have f4 : w4.cell? ⟨b4, k * 13 + 4, none⟩ = some (.int .i64 r.off) := hc4 k r HRK.out 4 (by omega)
  have f5 : w4.cell? ⟨b4, k * 13 + 5, none⟩ = some (.int .i64 r.st) := hc4 k r HRK.out 5 (by omega)
  have f6 : w4.cell? ⟨b4, k * 13 + 6, none⟩ = some (.bool r.held) := hc4 k r HRK.out 6 (by omega)
  have f7 : w4.cell? ⟨b4, k * 13 + 7, none⟩ = some (.int .i64 r.til) := hc4 k r HRK.out 7 (by omega)
  have f8 : w4.cell? ⟨b4, k * 13 + 8, none⟩ = some (.int .i64 r.beg) := hc4 k r HRK.out 8 (by omega)
  have f9 : w4.cell? ⟨b4, k * 13 + 9, none⟩ = some (.int .i64 r.used) := hc4 k r HRK.out 9 (by omega)
  have f10 : w4.cell? ⟨b4, k * 13 + 10, none⟩ = some (.bool r.missed) := hc4 k r HRK.out 10 (by omega)
  have f11 : w4.cell? ⟨b4, k * 13 + 11, none⟩ = some (.int .i64 r.base) := hc4 k r HRK.out 11 (by omega)
  have f12 : w4.cell? ⟨b4, k * 13 + 12, none⟩ = some (.int .i64 r.raised) := hc4 k r HRK.out 12 (by omega)
  have HB4 : Hid (w.heap.size + 1 < b4) := by have := hs3; unfold Hid; omega
  have HROW4 := Lib.hid hrow4
  clear hp3 hr3 hr4 hs3 hbel4 hc4 hrow4
  have HP : Hid (DoPost w t g c n ⟨b, o, none⟩ (.returned (.tuple #[.slice (some ⟨b4, 0, none⟩) n c4, .bool true])) (put13 w4 b4 (k * 13) r')) := by
    have hpb : Below (w.heap.size + 1) w4 (put13 w4 b4 (k * 13) r') := put13_below r' (Below.refl _ _) (by have := HB4.out; omega)
    refine ⟨⟨b4, 0, none⟩, c4, (act (doneF x) (tickB x) ps k).1, rs.set k r', rfl, HT4.out.keep2 (hpb.block t (by have := HT.out.lt; omega)) (hpb.block g (by have := HG.out; omega)), (rfOwn_put13 HO4.out HRK.out).rowG, by simpa using HACT.out.2.2, act_ok (keeps_done x) HOK.out k, HA4.out.trans ⟨hpb.os, hpb.tape, hpb.output, hpb.size, fun i hi _ => hpb.block i (by omega)⟩, by simpa using HN.out, .inr ⟨b4, rfl, Nat.le_of_lt (Nat.lt_of_succ_lt HB4.out)⟩⟩
  go_wp2_with fail
  go_ret2
  exact HP.out

set_option maxRecDepth 100000 in
set_option maxHeartbeats 2000000 in
theorem do_done8 (t g c : Nat) (A : Addr) (n cc : Nat) (ps : List Pr) (rs : List Rf) (d i x : Int) (w : World) (hn : rs.length = n) (hd : 0 ≤ d ∧ d ≤ 255) (hm : d % 16 = 8) (hT : Tab w t g c ps) (hR : RowG w rfC 13 (some A) rs) (hrel : RelL ps rs) (hok : ∀ p, p ∈ ps → p.Ok)
    (hne : A.block ≠ g) (hg : g < w.heap.size) (hi : 0 ≤ i ∧ i < n) :
    Calls Try.prog 23 #[.pointer (some ⟨t, 0, none⟩), .slice (some A) n cc, .agg #[.int .u8 d, .int .i64 i, .int .i64 x]] w (DoPost w t g c n A) := by
  obtain ⟨hd1, hd2⟩ := hd
  obtain ⟨hi1, hi2⟩ := hi
  have hl := hT.len
  have hl2 := hrel.1
  obtain ⟨k, rfl⟩ : ∃ k : Nat, i = k := ⟨i.toNat, by omega⟩
  obtain ⟨r, hrk⟩ : ∃ r, rs[k]? = some r := ⟨_, List.getElem?_eq_getElem (by omega)⟩
  obtain ⟨b, o, hge, hgl, hgc⟩ := hR (by omega)
  injection hge with hge
  subst hge
  have hck : ∀ j, j < 13 → w.cell? ⟨b, o + k * 13 + j, none⟩ = (rfC r)[j]? := fun j hj => hgc k r hrk j hj
  have c0 : w.cell? ⟨b, o + k * 13, none⟩ = some (.int .i64 r.pri) := hck 0 (by omega)
  have c1 : w.cell? ⟨b, o + k * 13 + 1, none⟩ = some (.int .i64 r.per) := hck 1 (by omega)
  have c2 : w.cell? ⟨b, o + k * 13 + 2, none⟩ = some (.int .i64 r.cap) := hck 2 (by omega)
  have c3 : w.cell? ⟨b, o + k * 13 + 3, none⟩ = some (.int .i64 r.dl) := hck 3 (by omega)
  have c4 : w.cell? ⟨b, o + k * 13 + 4, none⟩ = some (.int .i64 r.off) := hck 4 (by omega)
  have c5 : w.cell? ⟨b, o + k * 13 + 5, none⟩ = some (.int .i64 r.st) := hck 5 (by omega)
  have c6 : w.cell? ⟨b, o + k * 13 + 6, none⟩ = some (.bool r.held) := hck 6 (by omega)
  have c7 : w.cell? ⟨b, o + k * 13 + 7, none⟩ = some (.int .i64 r.til) := hck 7 (by omega)
  have c8 : w.cell? ⟨b, o + k * 13 + 8, none⟩ = some (.int .i64 r.beg) := hck 8 (by omega)
  have c9 : w.cell? ⟨b, o + k * 13 + 9, none⟩ = some (.int .i64 r.used) := hck 9 (by omega)
  have c10 : w.cell? ⟨b, o + k * 13 + 10, none⟩ = some (.bool r.missed) := hck 10 (by omega)
  have c11 : w.cell? ⟨b, o + k * 13 + 11, none⟩ = some (.int .i64 r.base) := hck 11 (by omega)
  have c12 : w.cell? ⟨b, o + k * 13 + 12, none⟩ = some (.int .i64 r.raised) := hck 12 (by omega)
  have HN := Lib.hid hn
  have HT := Lib.hid hT
  have HR := Lib.hid hR
  have HREL := Lib.hid hrel
  have HOK := Lib.hid hok
  have HNE := Lib.hid hne
  have HG := Lib.hid hg
  have HRK := Lib.hid hrk
  clear hn hT hR hrel hok hne hg hrk hgc hck
  go_enter Try.func23, Try.ntmps23
  go_wp2_with fail
  obtain ⟨W0, hW0⟩ : ∃ W0, W0 = (w.alloc (.cells #[.int .u8 d, .int .i64 k, .int .i64 x] 52)).alloc (.cells #[.int .i64 r.pri, .int .i64 r.per, .int .i64 r.cap, .int .i64 r.dl, .int .i64 r.off, .int .i64 r.st, .bool r.held, .int .i64 r.til, .int .i64 r.beg, .int .i64 r.used, .bool r.missed, .int .i64 r.base, .int .i64 r.raised] 101) := ⟨_, rfl⟩
  rw [← hW0]
  have HB0 : Hid (Below w.heap.size w W0) := by rw [hW0]; exact ((Below.refl _ _).alloc (Nat.le_refl _) _).alloc (by simp) _
  have hp0 : ∀ j, W0.cell? ⟨w.heap.size, j, none⟩ = (#[.int .u8 d, .int .i64 k, .int .i64 x] : Array Value)[j]? := by rw [hW0]; intro j; go_simp
  have hr0 : ∀ j, W0.cell? ⟨w.heap.size + 1, j, none⟩ = (#[.int .i64 r.pri, .int .i64 r.per, .int .i64 r.cap, .int .i64 r.dl, .int .i64 r.off, .int .i64 r.st, .bool r.held, .int .i64 r.til, .int .i64 r.beg, .int .i64 r.used, .bool r.missed, .int .i64 r.base, .int .i64 r.raised] : Array Value)[j]? := by rw [hW0]; intro j; go_simp
  have hf0 : ∀ j, W0.frozen? ⟨w.heap.size + 1, j, none⟩ = false := by rw [hW0]; intro j; go_simp
  have hs0 : w.heap.size + 1 < W0.heap.size := by rw [hW0]; simp
  clear hW0 c0 c1 c2 c3 c4 c5 c6 c7 c8 c9 c10 c11 c12
  obtain ⟨ec, hec⟩ : ∃ ec, (doneRf x r).2.2 = ec := ⟨_, rfl⟩
  obtain ⟨xw, hxw⟩ : ∃ xw, (doneRf x r).2.1 = xw := ⟨_, rfl⟩
  obtain ⟨r', hr'⟩ : ∃ r', (doneRf x r).1 = r' := ⟨_, rfl⟩
  have hact := done_rel x HREL.out HOK.out (i := (k : Int)) (by omega) (r := r) (by simpa using HRK.out)
  rw [hec, hxw, hr'] at hact
  have HACT := Lib.hid hact
  have HOKR : Hid r.Ok := by
    have hkl : k < rs.length := (List.getElem?_eq_some_iff.1 HRK.out).1
    obtain ⟨p, hp⟩ : ∃ p, ps[k]? = some p := ⟨_, List.getElem?_eq_getElem (by omega)⟩
    exact (HREL.out.2 k p r hp HRK.out).ok
  have HEC := Lib.hid hec
  have HXW := Lib.hid hxw
  have HR' := Lib.hid hr'
  clear hact hec hr' hxw
  refine (done_any t g c ps k x W0 (HT.out.below HB0.out) HOK.out).mono ?_
  rw [HACT.out.1, HACT.out.2.1]
  rintro e w1 ⟨rfl, hT1, hA1⟩
  have hp1 : ∀ j, w1.cell? ⟨w.heap.size, j, none⟩ = (#[.int .u8 d, .int .i64 k, .int .i64 x] : Array Value)[j]? := fun j => (World.cell?_of_block (w := W0) (a := ⟨w.heap.size, j, none⟩) (hA1.block _ (by show w.heap.size < _; omega) (by have := HG.out; show w.heap.size ≠ g; omega))).trans (hp0 j)
  have hr1 : ∀ j, w1.cell? ⟨w.heap.size + 1, j, none⟩ = (#[.int .i64 r.pri, .int .i64 r.per, .int .i64 r.cap, .int .i64 r.dl, .int .i64 r.off, .int .i64 r.st, .bool r.held, .int .i64 r.til, .int .i64 r.beg, .int .i64 r.used, .bool r.missed, .int .i64 r.base, .int .i64 r.raised] : Array Value)[j]? := fun j => (World.cell?_of_block (w := W0) (a := ⟨w.heap.size + 1, j, none⟩) (hA1.block _ (by show w.heap.size + 1 < _; omega) (by have := HG.out; show w.heap.size + 1 ≠ g; omega))).trans (hr0 j)
  have hs1 : w.heap.size + 1 < w1.heap.size := by have := hA1.size; omega
  have HT1 := Lib.hid hT1
  have HA1 : Hid (Apart w.heap.size w w1 g) := (Apart.of_below HB0.out (Nat.le_refl _)).trans (hA1.mono HB0.out.size)
  have hf1 : ∀ j, w1.frozen? ⟨w.heap.size + 1, j, none⟩ = false := fun j => (World.frozen?_of_block (w := W0) (a := ⟨w.heap.size + 1, j, none⟩) (hA1.block _ (by show w.heap.size + 1 < _; omega) (by have := HG.out; show w.heap.size + 1 ≠ g; omega))).trans (hf0 j)
  clear hp0 hr0 hs0 hT1 hA1 hf0
  go_wp2_with fail
  refine (rdone_any r x w1 HOKR.out).mono ?_
  rw [HEC.out, HXW.out, HR'.out]
  unfold Rf.cells
  rintro e w2 ⟨rfl, hb2⟩
  have hp2 : ∀ j, w2.cell? ⟨w.heap.size, j, none⟩ = (#[.int .u8 d, .int .i64 k, .int .i64 x] : Array Value)[j]? := fun j => (hb2.cell (p := ⟨w.heap.size, j, none⟩) (by show w.heap.size < _; omega)).trans (hp1 j)
  have hr2 : ∀ j, w2.cell? ⟨w.heap.size + 1, j, none⟩ = (#[.int .i64 r.pri, .int .i64 r.per, .int .i64 r.cap, .int .i64 r.dl, .int .i64 r.off, .int .i64 r.st, .bool r.held, .int .i64 r.til, .int .i64 r.beg, .int .i64 r.used, .bool r.missed, .int .i64 r.base, .int .i64 r.raised] : Array Value)[j]? := fun j => (hb2.cell (p := ⟨w.heap.size + 1, j, none⟩) hs1).trans (hr1 j)
  have hf2 : ∀ j, w2.frozen? ⟨w.heap.size + 1, j, none⟩ = false := fun j => (hb2.frozen (p := ⟨w.heap.size + 1, j, none⟩) hs1).trans (hf1 j)
  have hs2 : w.heap.size + 1 < w2.heap.size := by have := hb2.size; omega
  have HT2 := Lib.hid (HT1.out.below hb2)
  have HA2 : Hid (Apart w.heap.size w w2 g) := HA1.out.trans (Apart.of_below hb2 HA1.out.size)
  clear hp1 hr1 hf1 hs1 hb2
  go_wp2_with fail
  change Calls _ _ _ (put13 w2 (w.heap.size + 1) 0 r') _
  obtain ⟨W3, hW3⟩ : ∃ W3, W3 = put13 w2 (w.heap.size + 1) 0 r' := ⟨_, rfl⟩
  rw [← hW3]
  have HB3 : Hid (Below (w.heap.size + 1) w2 W3) := by rw [hW3]; exact put13_below r' (Below.refl _ _) (Nat.le_refl _)
  have hr3 : ∀ j, j < 13 → W3.cell? ⟨w.heap.size + 1, j, none⟩ = (rfC r')[j]? := fun j hj => by
    rw [hW3]
    have := put13_cell (w := w2) (b := w.heap.size + 1) (o := 0) r' (fun j hj => by rw [Nat.zero_add, hr2 j]; match j, hj with | 0, _ => rfl | 1, _ => rfl | 2, _ => rfl | 3, _ => rfl | 4, _ => rfl | 5, _ => rfl | 6, _ => rfl | 7, _ => rfl | 8, _ => rfl | 9, _ => rfl | 10, _ => rfl | 11, _ => rfl | 12, _ => rfl) j hj
    rwa [Nat.zero_add] at this
  have hp3 : ∀ j, W3.cell? ⟨w.heap.size, j, none⟩ = (#[.int .u8 d, .int .i64 k, .int .i64 x] : Array Value)[j]? := fun j => (HB3.out.cell (p := ⟨w.heap.size, j, none⟩) (by show w.heap.size < _; omega)).trans (hp2 j)
  have hs3 : w.heap.size + 1 < W3.heap.size := by have := HB3.out.size; omega
  have HA3 : Hid (Apart w.heap.size w W3 g) := HA2.out.trans ⟨HB3.out.os, HB3.out.tape, HB3.out.output, HB3.out.size, fun i hi _ => HB3.out.block i (by omega)⟩
  have HT3 : Hid (Tab W3 t g c (act (doneF x) (tickB x) ps k).1) := HT2.out.keep2 (HB3.out.block t (by have := HT.out.lt; omega)) (HB3.out.block g (by have := HG.out; omega))
  have HR3 : Hid (RowG W3 rfC 13 (some ⟨b, o, none⟩) rs) := HR.out.apart HA3.out (fun _ b' o' e => by injection e with e; injection e with e1 e2; subst e1; exact HNE.out)
  clear hW3 hp2 hr2 hf2 hs2
  refine (rclone_any ⟨b, o, none⟩ n cc rs W3 HN.out HR3.out (by have := HN.out; omega)).mono ?_
  rintro e w4 ⟨b4, c4, rfl, hb4, hrow4, ho4, hbel4⟩
  have hp4 : ∀ j, w4.cell? ⟨w.heap.size, j, none⟩ = (#[.int .u8 d, .int .i64 k, .int .i64 x] : Array Value)[j]? := fun j => (hbel4.cell (p := ⟨w.heap.size, j, none⟩) (by show w.heap.size < _; omega)).trans (hp3 j)
  have hr4 : ∀ j, j < 13 → w4.cell? ⟨w.heap.size + 1, j, none⟩ = (rfC r')[j]? := fun j hj => (hbel4.cell (p := ⟨w.heap.size + 1, j, none⟩) hs3).trans (hr3 j hj)
  have d0 : w4.cell? ⟨w.heap.size + 1, 0, none⟩ = some (.int .i64 r'.pri) := hr4 0 (by omega)
  have d1 : w4.cell? ⟨w.heap.size + 1, 1, none⟩ = some (.int .i64 r'.per) := hr4 1 (by omega)
  have d2 : w4.cell? ⟨w.heap.size + 1, 2, none⟩ = some (.int .i64 r'.cap) := hr4 2 (by omega)
  have d3 : w4.cell? ⟨w.heap.size + 1, 3, none⟩ = some (.int .i64 r'.dl) := hr4 3 (by omega)
  have d4 : w4.cell? ⟨w.heap.size + 1, 4, none⟩ = some (.int .i64 r'.off) := hr4 4 (by omega)
  have d5 : w4.cell? ⟨w.heap.size + 1, 5, none⟩ = some (.int .i64 r'.st) := hr4 5 (by omega)
  have d6 : w4.cell? ⟨w.heap.size + 1, 6, none⟩ = some (.bool r'.held) := hr4 6 (by omega)
  have d7 : w4.cell? ⟨w.heap.size + 1, 7, none⟩ = some (.int .i64 r'.til) := hr4 7 (by omega)
  have d8 : w4.cell? ⟨w.heap.size + 1, 8, none⟩ = some (.int .i64 r'.beg) := hr4 8 (by omega)
  have d9 : w4.cell? ⟨w.heap.size + 1, 9, none⟩ = some (.int .i64 r'.used) := hr4 9 (by omega)
  have d10 : w4.cell? ⟨w.heap.size + 1, 10, none⟩ = some (.bool r'.missed) := hr4 10 (by omega)
  have d11 : w4.cell? ⟨w.heap.size + 1, 11, none⟩ = some (.int .i64 r'.base) := hr4 11 (by omega)
  have d12 : w4.cell? ⟨w.heap.size + 1, 12, none⟩ = some (.int .i64 r'.raised) := hr4 12 (by omega)
  have hs4 : w.heap.size + 1 < w4.heap.size := by have := hbel4.size; omega
  have hl4 := hrow4.lt
  have hz4 := hrow4.fz
  have HT4 := Lib.hid (HT3.out.below hbel4)
  have HA4 : Hid (Apart w.heap.size w w4 g) := HA3.out.trans (Apart.of_below hbel4 HA3.out.size)
  have HO4 := Lib.hid ho4
  obtain ⟨bb, hbe, _, _, hc4⟩ := ho4 (by have := HN.out; omega)
  injection hbe with hbe
  injection hbe with hbe
  subst hbe
  have f0 : w4.cell? ⟨b4, k * 13, none⟩ = some (.int .i64 r.pri) := hc4 k r HRK.out 0 (by omega)
  have f1 : w4.cell? ⟨b4, k * 13 + 1, none⟩ = some (.int .i64 r.per) := hc4 k r HRK.out 1 (by omega)
  have f2 : w4.cell? ⟨b4, k * 13 + 2, none⟩ = some (.int .i64 r.cap) := hc4 k r HRK.out 2 (by omega)
  have f3 : w4.cell? ⟨b4, k * 13 + 3, none⟩ = some (.int .i64 r.dl) := hc4 k r HRK.out 3 (by omega)
  have f4 : w4.cell? ⟨b4, k * 13 + 4, none⟩ = some (.int .i64 r.off) := hc4 k r HRK.out 4 (by omega)
  have f5 : w4.cell? ⟨b4, k * 13 + 5, none⟩ = some (.int .i64 r.st) := hc4 k r HRK.out 5 (by omega)
  have f6 : w4.cell? ⟨b4, k * 13 + 6, none⟩ = some (.bool r.held) := hc4 k r HRK.out 6 (by omega)
  have f7 : w4.cell? ⟨b4, k * 13 + 7, none⟩ = some (.int .i64 r.til) := hc4 k r HRK.out 7 (by omega)
  have f8 : w4.cell? ⟨b4, k * 13 + 8, none⟩ = some (.int .i64 r.beg) := hc4 k r HRK.out 8 (by omega)
  have f9 : w4.cell? ⟨b4, k * 13 + 9, none⟩ = some (.int .i64 r.used) := hc4 k r HRK.out 9 (by omega)
  have f10 : w4.cell? ⟨b4, k * 13 + 10, none⟩ = some (.bool r.missed) := hc4 k r HRK.out 10 (by omega)
  have f11 : w4.cell? ⟨b4, k * 13 + 11, none⟩ = some (.int .i64 r.base) := hc4 k r HRK.out 11 (by omega)
  have f12 : w4.cell? ⟨b4, k * 13 + 12, none⟩ = some (.int .i64 r.raised) := hc4 k r HRK.out 12 (by omega)
  have HB4 : Hid (w.heap.size + 1 < b4) := by have := hs3; unfold Hid; omega
  have HROW4 := Lib.hid hrow4
  clear hp3 hr3 hr4 hs3 hbel4 hc4 hrow4
  have HP : Hid (DoPost w t g c n ⟨b, o, none⟩ (.returned (.tuple #[.slice (some ⟨b4, 0, none⟩) n c4, .bool true])) (put13 w4 b4 (k * 13) r')) := by
    have hpb : Below (w.heap.size + 1) w4 (put13 w4 b4 (k * 13) r') := put13_below r' (Below.refl _ _) (by have := HB4.out; omega)
    refine ⟨⟨b4, 0, none⟩, c4, (act (doneF x) (tickB x) ps k).1, rs.set k r', rfl, HT4.out.keep2 (hpb.block t (by have := HT.out.lt; omega)) (hpb.block g (by have := HG.out; omega)), (rfOwn_put13 HO4.out HRK.out).rowG, by simpa using HACT.out.2.2, act_ok (keeps_done x) HOK.out k, HA4.out.trans ⟨hpb.os, hpb.tape, hpb.output, hpb.size, fun i hi _ => hpb.block i (by omega)⟩, by simpa using HN.out, .inr ⟨b4, rfl, Nat.le_of_lt (Nat.lt_of_succ_lt HB4.out)⟩⟩
  go_wp2_with fail
  go_ret2
  exact HP.out

set_option maxRecDepth 100000 in
set_option maxHeartbeats 2000000 in
theorem do_charge11 (t g c : Nat) (A : Addr) (n cc : Nat) (ps : List Pr) (rs : List Rf) (d i x : Int) (w : World) (hn : rs.length = n) (hd : 0 ≤ d ∧ d ≤ 255) (hm : d % 16 = 11) (hT : Tab w t g c ps) (hR : RowG w rfC 13 (some A) rs) (hrel : RelL ps rs) (hok : ∀ p, p ∈ ps → p.Ok)
    (hne : A.block ≠ g) (hg : g < w.heap.size) (hi : 0 ≤ i ∧ i < n) :
    Calls Try.prog 23 #[.pointer (some ⟨t, 0, none⟩), .slice (some A) n cc, .agg #[.int .u8 d, .int .i64 i, .int .i64 x]] w (DoPost w t g c n A) := by
  obtain ⟨hd1, hd2⟩ := hd
  obtain ⟨hi1, hi2⟩ := hi
  have hl := hT.len
  have hl2 := hrel.1
  obtain ⟨k, rfl⟩ : ∃ k : Nat, i = k := ⟨i.toNat, by omega⟩
  obtain ⟨r, hrk⟩ : ∃ r, rs[k]? = some r := ⟨_, List.getElem?_eq_getElem (by omega)⟩
  obtain ⟨b, o, hge, hgl, hgc⟩ := hR (by omega)
  injection hge with hge
  subst hge
  have hck : ∀ j, j < 13 → w.cell? ⟨b, o + k * 13 + j, none⟩ = (rfC r)[j]? := fun j hj => hgc k r hrk j hj
  have c0 : w.cell? ⟨b, o + k * 13, none⟩ = some (.int .i64 r.pri) := hck 0 (by omega)
  have c1 : w.cell? ⟨b, o + k * 13 + 1, none⟩ = some (.int .i64 r.per) := hck 1 (by omega)
  have c2 : w.cell? ⟨b, o + k * 13 + 2, none⟩ = some (.int .i64 r.cap) := hck 2 (by omega)
  have c3 : w.cell? ⟨b, o + k * 13 + 3, none⟩ = some (.int .i64 r.dl) := hck 3 (by omega)
  have c4 : w.cell? ⟨b, o + k * 13 + 4, none⟩ = some (.int .i64 r.off) := hck 4 (by omega)
  have c5 : w.cell? ⟨b, o + k * 13 + 5, none⟩ = some (.int .i64 r.st) := hck 5 (by omega)
  have c6 : w.cell? ⟨b, o + k * 13 + 6, none⟩ = some (.bool r.held) := hck 6 (by omega)
  have c7 : w.cell? ⟨b, o + k * 13 + 7, none⟩ = some (.int .i64 r.til) := hck 7 (by omega)
  have c8 : w.cell? ⟨b, o + k * 13 + 8, none⟩ = some (.int .i64 r.beg) := hck 8 (by omega)
  have c9 : w.cell? ⟨b, o + k * 13 + 9, none⟩ = some (.int .i64 r.used) := hck 9 (by omega)
  have c10 : w.cell? ⟨b, o + k * 13 + 10, none⟩ = some (.bool r.missed) := hck 10 (by omega)
  have c11 : w.cell? ⟨b, o + k * 13 + 11, none⟩ = some (.int .i64 r.base) := hck 11 (by omega)
  have c12 : w.cell? ⟨b, o + k * 13 + 12, none⟩ = some (.int .i64 r.raised) := hck 12 (by omega)
  have HN := Lib.hid hn
  have HT := Lib.hid hT
  have HR := Lib.hid hR
  have HREL := Lib.hid hrel
  have HOK := Lib.hid hok
  have HNE := Lib.hid hne
  have HG := Lib.hid hg
  have HRK := Lib.hid hrk
  clear hn hT hR hrel hok hne hg hrk hgc hck
  go_enter Try.func23, Try.ntmps23
  go_wp2_with fail
  obtain ⟨W0, hW0⟩ : ∃ W0, W0 = (w.alloc (.cells #[.int .u8 d, .int .i64 k, .int .i64 x] 52)).alloc (.cells #[.int .i64 r.pri, .int .i64 r.per, .int .i64 r.cap, .int .i64 r.dl, .int .i64 r.off, .int .i64 r.st, .bool r.held, .int .i64 r.til, .int .i64 r.beg, .int .i64 r.used, .bool r.missed, .int .i64 r.base, .int .i64 r.raised] 101) := ⟨_, rfl⟩
  rw [← hW0]
  have HB0 : Hid (Below w.heap.size w W0) := by rw [hW0]; exact ((Below.refl _ _).alloc (Nat.le_refl _) _).alloc (by simp) _
  have hp0 : ∀ j, W0.cell? ⟨w.heap.size, j, none⟩ = (#[.int .u8 d, .int .i64 k, .int .i64 x] : Array Value)[j]? := by rw [hW0]; intro j; go_simp
  have hr0 : ∀ j, W0.cell? ⟨w.heap.size + 1, j, none⟩ = (#[.int .i64 r.pri, .int .i64 r.per, .int .i64 r.cap, .int .i64 r.dl, .int .i64 r.off, .int .i64 r.st, .bool r.held, .int .i64 r.til, .int .i64 r.beg, .int .i64 r.used, .bool r.missed, .int .i64 r.base, .int .i64 r.raised] : Array Value)[j]? := by rw [hW0]; intro j; go_simp
  have hf0 : ∀ j, W0.frozen? ⟨w.heap.size + 1, j, none⟩ = false := by rw [hW0]; intro j; go_simp
  have hs0 : w.heap.size + 1 < W0.heap.size := by rw [hW0]; simp
  clear hW0 c0 c1 c2 c3 c4 c5 c6 c7 c8 c9 c10 c11 c12
  obtain ⟨ec, hec⟩ : ∃ ec, (chargeRf x r).2 = ec := ⟨_, rfl⟩
  obtain ⟨r', hr'⟩ : ∃ r', (chargeRf x r).1 = r' := ⟨_, rfl⟩
  have hact := charge_rel x HREL.out HOK.out (i := (k : Int)) (by omega) (r := r) (by simpa using HRK.out)
  rw [hec, hr'] at hact
  have HACT := Lib.hid hact
  have HOKR : Hid r.Ok := by
    have hkl : k < rs.length := (List.getElem?_eq_some_iff.1 HRK.out).1
    obtain ⟨p, hp⟩ : ∃ p, ps[k]? = some p := ⟨_, List.getElem?_eq_getElem (by omega)⟩
    exact (HREL.out.2 k p r hp HRK.out).ok
  have HEC := Lib.hid hec
  have HR' := Lib.hid hr'
  clear hact hec hr'
  refine (charge_any t g c ps k x W0 (HT.out.below HB0.out) HOK.out).mono ?_
  rw [HACT.out.1]
  rintro e w1 ⟨rfl, hT1, hA1⟩
  have hp1 : ∀ j, w1.cell? ⟨w.heap.size, j, none⟩ = (#[.int .u8 d, .int .i64 k, .int .i64 x] : Array Value)[j]? := fun j => (World.cell?_of_block (w := W0) (a := ⟨w.heap.size, j, none⟩) (hA1.block _ (by show w.heap.size < _; omega) (by have := HG.out; show w.heap.size ≠ g; omega))).trans (hp0 j)
  have hr1 : ∀ j, w1.cell? ⟨w.heap.size + 1, j, none⟩ = (#[.int .i64 r.pri, .int .i64 r.per, .int .i64 r.cap, .int .i64 r.dl, .int .i64 r.off, .int .i64 r.st, .bool r.held, .int .i64 r.til, .int .i64 r.beg, .int .i64 r.used, .bool r.missed, .int .i64 r.base, .int .i64 r.raised] : Array Value)[j]? := fun j => (World.cell?_of_block (w := W0) (a := ⟨w.heap.size + 1, j, none⟩) (hA1.block _ (by show w.heap.size + 1 < _; omega) (by have := HG.out; show w.heap.size + 1 ≠ g; omega))).trans (hr0 j)
  have hs1 : w.heap.size + 1 < w1.heap.size := by have := hA1.size; omega
  have HT1 := Lib.hid hT1
  have HA1 : Hid (Apart w.heap.size w w1 g) := (Apart.of_below HB0.out (Nat.le_refl _)).trans (hA1.mono HB0.out.size)
  have hf1 : ∀ j, w1.frozen? ⟨w.heap.size + 1, j, none⟩ = false := fun j => (World.frozen?_of_block (w := W0) (a := ⟨w.heap.size + 1, j, none⟩) (hA1.block _ (by show w.heap.size + 1 < _; omega) (by have := HG.out; show w.heap.size + 1 ≠ g; omega))).trans (hf0 j)
  clear hp0 hr0 hs0 hT1 hA1 hf0
  go_wp2_with fail
  refine (rcharge_any r x w1 HOKR.out).mono ?_
  rw [HEC.out, HR'.out]
  unfold Rf.cells
  rintro e w2 ⟨rfl, hb2⟩
  have hp2 : ∀ j, w2.cell? ⟨w.heap.size, j, none⟩ = (#[.int .u8 d, .int .i64 k, .int .i64 x] : Array Value)[j]? := fun j => (hb2.cell (p := ⟨w.heap.size, j, none⟩) (by show w.heap.size < _; omega)).trans (hp1 j)
  have hr2 : ∀ j, w2.cell? ⟨w.heap.size + 1, j, none⟩ = (#[.int .i64 r.pri, .int .i64 r.per, .int .i64 r.cap, .int .i64 r.dl, .int .i64 r.off, .int .i64 r.st, .bool r.held, .int .i64 r.til, .int .i64 r.beg, .int .i64 r.used, .bool r.missed, .int .i64 r.base, .int .i64 r.raised] : Array Value)[j]? := fun j => (hb2.cell (p := ⟨w.heap.size + 1, j, none⟩) hs1).trans (hr1 j)
  have hf2 : ∀ j, w2.frozen? ⟨w.heap.size + 1, j, none⟩ = false := fun j => (hb2.frozen (p := ⟨w.heap.size + 1, j, none⟩) hs1).trans (hf1 j)
  have hs2 : w.heap.size + 1 < w2.heap.size := by have := hb2.size; omega
  have HT2 := Lib.hid (HT1.out.below hb2)
  have HA2 : Hid (Apart w.heap.size w w2 g) := HA1.out.trans (Apart.of_below hb2 HA1.out.size)
  clear hp1 hr1 hf1 hs1 hb2
  go_wp2_with fail
  change Calls _ _ _ (put13 w2 (w.heap.size + 1) 0 r') _
  obtain ⟨W3, hW3⟩ : ∃ W3, W3 = put13 w2 (w.heap.size + 1) 0 r' := ⟨_, rfl⟩
  rw [← hW3]
  have HB3 : Hid (Below (w.heap.size + 1) w2 W3) := by rw [hW3]; exact put13_below r' (Below.refl _ _) (Nat.le_refl _)
  have hr3 : ∀ j, j < 13 → W3.cell? ⟨w.heap.size + 1, j, none⟩ = (rfC r')[j]? := fun j hj => by
    rw [hW3]
    have := put13_cell (w := w2) (b := w.heap.size + 1) (o := 0) r' (fun j hj => by rw [Nat.zero_add, hr2 j]; match j, hj with | 0, _ => rfl | 1, _ => rfl | 2, _ => rfl | 3, _ => rfl | 4, _ => rfl | 5, _ => rfl | 6, _ => rfl | 7, _ => rfl | 8, _ => rfl | 9, _ => rfl | 10, _ => rfl | 11, _ => rfl | 12, _ => rfl) j hj
    rwa [Nat.zero_add] at this
  have hp3 : ∀ j, W3.cell? ⟨w.heap.size, j, none⟩ = (#[.int .u8 d, .int .i64 k, .int .i64 x] : Array Value)[j]? := fun j => (HB3.out.cell (p := ⟨w.heap.size, j, none⟩) (by show w.heap.size < _; omega)).trans (hp2 j)
  have hs3 : w.heap.size + 1 < W3.heap.size := by have := HB3.out.size; omega
  have HA3 : Hid (Apart w.heap.size w W3 g) := HA2.out.trans ⟨HB3.out.os, HB3.out.tape, HB3.out.output, HB3.out.size, fun i hi _ => HB3.out.block i (by omega)⟩
  have HT3 : Hid (Tab W3 t g c (act (chargeF x) (tickB x) ps k).1) := HT2.out.keep2 (HB3.out.block t (by have := HT.out.lt; omega)) (HB3.out.block g (by have := HG.out; omega))
  have HR3 : Hid (RowG W3 rfC 13 (some ⟨b, o, none⟩) rs) := HR.out.apart HA3.out (fun _ b' o' e => by injection e with e; injection e with e1 e2; subst e1; exact HNE.out)
  clear hW3 hp2 hr2 hf2 hs2
  refine (rclone_any ⟨b, o, none⟩ n cc rs W3 HN.out HR3.out (by have := HN.out; omega)).mono ?_
  rintro e w4 ⟨b4, c4, rfl, hb4, hrow4, ho4, hbel4⟩
  have hp4 : ∀ j, w4.cell? ⟨w.heap.size, j, none⟩ = (#[.int .u8 d, .int .i64 k, .int .i64 x] : Array Value)[j]? := fun j => (hbel4.cell (p := ⟨w.heap.size, j, none⟩) (by show w.heap.size < _; omega)).trans (hp3 j)
  have hr4 : ∀ j, j < 13 → w4.cell? ⟨w.heap.size + 1, j, none⟩ = (rfC r')[j]? := fun j hj => (hbel4.cell (p := ⟨w.heap.size + 1, j, none⟩) hs3).trans (hr3 j hj)
  have d0 : w4.cell? ⟨w.heap.size + 1, 0, none⟩ = some (.int .i64 r'.pri) := hr4 0 (by omega)
  have d1 : w4.cell? ⟨w.heap.size + 1, 1, none⟩ = some (.int .i64 r'.per) := hr4 1 (by omega)
  have d2 : w4.cell? ⟨w.heap.size + 1, 2, none⟩ = some (.int .i64 r'.cap) := hr4 2 (by omega)
  have d3 : w4.cell? ⟨w.heap.size + 1, 3, none⟩ = some (.int .i64 r'.dl) := hr4 3 (by omega)
  have d4 : w4.cell? ⟨w.heap.size + 1, 4, none⟩ = some (.int .i64 r'.off) := hr4 4 (by omega)
  have d5 : w4.cell? ⟨w.heap.size + 1, 5, none⟩ = some (.int .i64 r'.st) := hr4 5 (by omega)
  have d6 : w4.cell? ⟨w.heap.size + 1, 6, none⟩ = some (.bool r'.held) := hr4 6 (by omega)
  have d7 : w4.cell? ⟨w.heap.size + 1, 7, none⟩ = some (.int .i64 r'.til) := hr4 7 (by omega)
  have d8 : w4.cell? ⟨w.heap.size + 1, 8, none⟩ = some (.int .i64 r'.beg) := hr4 8 (by omega)
  have d9 : w4.cell? ⟨w.heap.size + 1, 9, none⟩ = some (.int .i64 r'.used) := hr4 9 (by omega)
  have d10 : w4.cell? ⟨w.heap.size + 1, 10, none⟩ = some (.bool r'.missed) := hr4 10 (by omega)
  have d11 : w4.cell? ⟨w.heap.size + 1, 11, none⟩ = some (.int .i64 r'.base) := hr4 11 (by omega)
  have d12 : w4.cell? ⟨w.heap.size + 1, 12, none⟩ = some (.int .i64 r'.raised) := hr4 12 (by omega)
  have hs4 : w.heap.size + 1 < w4.heap.size := by have := hbel4.size; omega
  have hl4 := hrow4.lt
  have hz4 := hrow4.fz
  have HT4 := Lib.hid (HT3.out.below hbel4)
  have HA4 : Hid (Apart w.heap.size w w4 g) := HA3.out.trans (Apart.of_below hbel4 HA3.out.size)
  have HO4 := Lib.hid ho4
  obtain ⟨bb, hbe, _, _, hc4⟩ := ho4 (by have := HN.out; omega)
  injection hbe with hbe
  injection hbe with hbe
  subst hbe
  have f0 : w4.cell? ⟨b4, k * 13, none⟩ = some (.int .i64 r.pri) := hc4 k r HRK.out 0 (by omega)
  have f1 : w4.cell? ⟨b4, k * 13 + 1, none⟩ = some (.int .i64 r.per) := hc4 k r HRK.out 1 (by omega)
  have f2 : w4.cell? ⟨b4, k * 13 + 2, none⟩ = some (.int .i64 r.cap) := hc4 k r HRK.out 2 (by omega)
  have f3 : w4.cell? ⟨b4, k * 13 + 3, none⟩ = some (.int .i64 r.dl) := hc4 k r HRK.out 3 (by omega)
  have f4 : w4.cell? ⟨b4, k * 13 + 4, none⟩ = some (.int .i64 r.off) := hc4 k r HRK.out 4 (by omega)
  have f5 : w4.cell? ⟨b4, k * 13 + 5, none⟩ = some (.int .i64 r.st) := hc4 k r HRK.out 5 (by omega)
  have f6 : w4.cell? ⟨b4, k * 13 + 6, none⟩ = some (.bool r.held) := hc4 k r HRK.out 6 (by omega)
  have f7 : w4.cell? ⟨b4, k * 13 + 7, none⟩ = some (.int .i64 r.til) := hc4 k r HRK.out 7 (by omega)
  have f8 : w4.cell? ⟨b4, k * 13 + 8, none⟩ = some (.int .i64 r.beg) := hc4 k r HRK.out 8 (by omega)
  have f9 : w4.cell? ⟨b4, k * 13 + 9, none⟩ = some (.int .i64 r.used) := hc4 k r HRK.out 9 (by omega)
  have f10 : w4.cell? ⟨b4, k * 13 + 10, none⟩ = some (.bool r.missed) := hc4 k r HRK.out 10 (by omega)
  have f11 : w4.cell? ⟨b4, k * 13 + 11, none⟩ = some (.int .i64 r.base) := hc4 k r HRK.out 11 (by omega)
  have f12 : w4.cell? ⟨b4, k * 13 + 12, none⟩ = some (.int .i64 r.raised) := hc4 k r HRK.out 12 (by omega)
  have HB4 : Hid (w.heap.size + 1 < b4) := by have := hs3; unfold Hid; omega
  have HROW4 := Lib.hid hrow4
  clear hp3 hr3 hr4 hs3 hbel4 hc4 hrow4
  have HP : Hid (DoPost w t g c n ⟨b, o, none⟩ (.returned (.tuple #[.slice (some ⟨b4, 0, none⟩) n c4, .bool true])) (put13 w4 b4 (k * 13) r')) := by
    have hpb : Below (w.heap.size + 1) w4 (put13 w4 b4 (k * 13) r') := put13_below r' (Below.refl _ _) (by have := HB4.out; omega)
    refine ⟨⟨b4, 0, none⟩, c4, (act (chargeF x) (tickB x) ps k).1, rs.set k r', rfl, HT4.out.keep2 (hpb.block t (by have := HT.out.lt; omega)) (hpb.block g (by have := HG.out; omega)), (rfOwn_put13 HO4.out HRK.out).rowG, by simpa using HACT.out.2, act_ok (keeps_charge x) HOK.out k, HA4.out.trans ⟨hpb.os, hpb.tape, hpb.output, hpb.size, fun i hi _ => hpb.block i (by omega)⟩, by simpa using HN.out, .inr ⟨b4, rfl, Nat.le_of_lt (Nat.lt_of_succ_lt HB4.out)⟩⟩
  go_wp2_with fail
  go_ret2
  exact HP.out

set_option maxRecDepth 100000 in
set_option maxHeartbeats 2000000 in
theorem do_charge12 (t g c : Nat) (A : Addr) (n cc : Nat) (ps : List Pr) (rs : List Rf) (d i x : Int) (w : World) (hn : rs.length = n) (hd : 0 ≤ d ∧ d ≤ 255) (hm : d % 16 = 12) (hT : Tab w t g c ps) (hR : RowG w rfC 13 (some A) rs) (hrel : RelL ps rs) (hok : ∀ p, p ∈ ps → p.Ok)
    (hne : A.block ≠ g) (hg : g < w.heap.size) (hi : 0 ≤ i ∧ i < n) :
    Calls Try.prog 23 #[.pointer (some ⟨t, 0, none⟩), .slice (some A) n cc, .agg #[.int .u8 d, .int .i64 i, .int .i64 x]] w (DoPost w t g c n A) := by
  obtain ⟨hd1, hd2⟩ := hd
  obtain ⟨hi1, hi2⟩ := hi
  have hl := hT.len
  have hl2 := hrel.1
  obtain ⟨k, rfl⟩ : ∃ k : Nat, i = k := ⟨i.toNat, by omega⟩
  obtain ⟨r, hrk⟩ : ∃ r, rs[k]? = some r := ⟨_, List.getElem?_eq_getElem (by omega)⟩
  obtain ⟨b, o, hge, hgl, hgc⟩ := hR (by omega)
  injection hge with hge
  subst hge
  have hck : ∀ j, j < 13 → w.cell? ⟨b, o + k * 13 + j, none⟩ = (rfC r)[j]? := fun j hj => hgc k r hrk j hj
  have c0 : w.cell? ⟨b, o + k * 13, none⟩ = some (.int .i64 r.pri) := hck 0 (by omega)
  have c1 : w.cell? ⟨b, o + k * 13 + 1, none⟩ = some (.int .i64 r.per) := hck 1 (by omega)
  have c2 : w.cell? ⟨b, o + k * 13 + 2, none⟩ = some (.int .i64 r.cap) := hck 2 (by omega)
  have c3 : w.cell? ⟨b, o + k * 13 + 3, none⟩ = some (.int .i64 r.dl) := hck 3 (by omega)
  have c4 : w.cell? ⟨b, o + k * 13 + 4, none⟩ = some (.int .i64 r.off) := hck 4 (by omega)
  have c5 : w.cell? ⟨b, o + k * 13 + 5, none⟩ = some (.int .i64 r.st) := hck 5 (by omega)
  have c6 : w.cell? ⟨b, o + k * 13 + 6, none⟩ = some (.bool r.held) := hck 6 (by omega)
  have c7 : w.cell? ⟨b, o + k * 13 + 7, none⟩ = some (.int .i64 r.til) := hck 7 (by omega)
  have c8 : w.cell? ⟨b, o + k * 13 + 8, none⟩ = some (.int .i64 r.beg) := hck 8 (by omega)
  have c9 : w.cell? ⟨b, o + k * 13 + 9, none⟩ = some (.int .i64 r.used) := hck 9 (by omega)
  have c10 : w.cell? ⟨b, o + k * 13 + 10, none⟩ = some (.bool r.missed) := hck 10 (by omega)
  have c11 : w.cell? ⟨b, o + k * 13 + 11, none⟩ = some (.int .i64 r.base) := hck 11 (by omega)
  have c12 : w.cell? ⟨b, o + k * 13 + 12, none⟩ = some (.int .i64 r.raised) := hck 12 (by omega)
  have HN := Lib.hid hn
  have HT := Lib.hid hT
  have HR := Lib.hid hR
  have HREL := Lib.hid hrel
  have HOK := Lib.hid hok
  have HNE := Lib.hid hne
  have HG := Lib.hid hg
  have HRK := Lib.hid hrk
  clear hn hT hR hrel hok hne hg hrk hgc hck
  go_enter Try.func23, Try.ntmps23
  go_wp2_with fail
  obtain ⟨W0, hW0⟩ : ∃ W0, W0 = (w.alloc (.cells #[.int .u8 d, .int .i64 k, .int .i64 x] 52)).alloc (.cells #[.int .i64 r.pri, .int .i64 r.per, .int .i64 r.cap, .int .i64 r.dl, .int .i64 r.off, .int .i64 r.st, .bool r.held, .int .i64 r.til, .int .i64 r.beg, .int .i64 r.used, .bool r.missed, .int .i64 r.base, .int .i64 r.raised] 101) := ⟨_, rfl⟩
  rw [← hW0]
  have HB0 : Hid (Below w.heap.size w W0) := by rw [hW0]; exact ((Below.refl _ _).alloc (Nat.le_refl _) _).alloc (by simp) _
  have hp0 : ∀ j, W0.cell? ⟨w.heap.size, j, none⟩ = (#[.int .u8 d, .int .i64 k, .int .i64 x] : Array Value)[j]? := by rw [hW0]; intro j; go_simp
  have hr0 : ∀ j, W0.cell? ⟨w.heap.size + 1, j, none⟩ = (#[.int .i64 r.pri, .int .i64 r.per, .int .i64 r.cap, .int .i64 r.dl, .int .i64 r.off, .int .i64 r.st, .bool r.held, .int .i64 r.til, .int .i64 r.beg, .int .i64 r.used, .bool r.missed, .int .i64 r.base, .int .i64 r.raised] : Array Value)[j]? := by rw [hW0]; intro j; go_simp
  have hf0 : ∀ j, W0.frozen? ⟨w.heap.size + 1, j, none⟩ = false := by rw [hW0]; intro j; go_simp
  have hs0 : w.heap.size + 1 < W0.heap.size := by rw [hW0]; simp
  clear hW0 c0 c1 c2 c3 c4 c5 c6 c7 c8 c9 c10 c11 c12
  obtain ⟨ec, hec⟩ : ∃ ec, (chargeRf x r).2 = ec := ⟨_, rfl⟩
  obtain ⟨r', hr'⟩ : ∃ r', (chargeRf x r).1 = r' := ⟨_, rfl⟩
  have hact := charge_rel x HREL.out HOK.out (i := (k : Int)) (by omega) (r := r) (by simpa using HRK.out)
  rw [hec, hr'] at hact
  have HACT := Lib.hid hact
  have HOKR : Hid r.Ok := by
    have hkl : k < rs.length := (List.getElem?_eq_some_iff.1 HRK.out).1
    obtain ⟨p, hp⟩ : ∃ p, ps[k]? = some p := ⟨_, List.getElem?_eq_getElem (by omega)⟩
    exact (HREL.out.2 k p r hp HRK.out).ok
  have HEC := Lib.hid hec
  have HR' := Lib.hid hr'
  clear hact hec hr'
  refine (charge_any t g c ps k x W0 (HT.out.below HB0.out) HOK.out).mono ?_
  rw [HACT.out.1]
  rintro e w1 ⟨rfl, hT1, hA1⟩
  have hp1 : ∀ j, w1.cell? ⟨w.heap.size, j, none⟩ = (#[.int .u8 d, .int .i64 k, .int .i64 x] : Array Value)[j]? := fun j => (World.cell?_of_block (w := W0) (a := ⟨w.heap.size, j, none⟩) (hA1.block _ (by show w.heap.size < _; omega) (by have := HG.out; show w.heap.size ≠ g; omega))).trans (hp0 j)
  have hr1 : ∀ j, w1.cell? ⟨w.heap.size + 1, j, none⟩ = (#[.int .i64 r.pri, .int .i64 r.per, .int .i64 r.cap, .int .i64 r.dl, .int .i64 r.off, .int .i64 r.st, .bool r.held, .int .i64 r.til, .int .i64 r.beg, .int .i64 r.used, .bool r.missed, .int .i64 r.base, .int .i64 r.raised] : Array Value)[j]? := fun j => (World.cell?_of_block (w := W0) (a := ⟨w.heap.size + 1, j, none⟩) (hA1.block _ (by show w.heap.size + 1 < _; omega) (by have := HG.out; show w.heap.size + 1 ≠ g; omega))).trans (hr0 j)
  have hs1 : w.heap.size + 1 < w1.heap.size := by have := hA1.size; omega
  have HT1 := Lib.hid hT1
  have HA1 : Hid (Apart w.heap.size w w1 g) := (Apart.of_below HB0.out (Nat.le_refl _)).trans (hA1.mono HB0.out.size)
  have hf1 : ∀ j, w1.frozen? ⟨w.heap.size + 1, j, none⟩ = false := fun j => (World.frozen?_of_block (w := W0) (a := ⟨w.heap.size + 1, j, none⟩) (hA1.block _ (by show w.heap.size + 1 < _; omega) (by have := HG.out; show w.heap.size + 1 ≠ g; omega))).trans (hf0 j)
  clear hp0 hr0 hs0 hT1 hA1 hf0
  go_wp2_with fail
  refine (rcharge_any r x w1 HOKR.out).mono ?_
  rw [HEC.out, HR'.out]
  unfold Rf.cells
  rintro e w2 ⟨rfl, hb2⟩
  have hp2 : ∀ j, w2.cell? ⟨w.heap.size, j, none⟩ = (#[.int .u8 d, .int .i64 k, .int .i64 x] : Array Value)[j]? := fun j => (hb2.cell (p := ⟨w.heap.size, j, none⟩) (by show w.heap.size < _; omega)).trans (hp1 j)
  have hr2 : ∀ j, w2.cell? ⟨w.heap.size + 1, j, none⟩ = (#[.int .i64 r.pri, .int .i64 r.per, .int .i64 r.cap, .int .i64 r.dl, .int .i64 r.off, .int .i64 r.st, .bool r.held, .int .i64 r.til, .int .i64 r.beg, .int .i64 r.used, .bool r.missed, .int .i64 r.base, .int .i64 r.raised] : Array Value)[j]? := fun j => (hb2.cell (p := ⟨w.heap.size + 1, j, none⟩) hs1).trans (hr1 j)
  have hf2 : ∀ j, w2.frozen? ⟨w.heap.size + 1, j, none⟩ = false := fun j => (hb2.frozen (p := ⟨w.heap.size + 1, j, none⟩) hs1).trans (hf1 j)
  have hs2 : w.heap.size + 1 < w2.heap.size := by have := hb2.size; omega
  have HT2 := Lib.hid (HT1.out.below hb2)
  have HA2 : Hid (Apart w.heap.size w w2 g) := HA1.out.trans (Apart.of_below hb2 HA1.out.size)
  clear hp1 hr1 hf1 hs1 hb2
  go_wp2_with fail
  change Calls _ _ _ (put13 w2 (w.heap.size + 1) 0 r') _
  obtain ⟨W3, hW3⟩ : ∃ W3, W3 = put13 w2 (w.heap.size + 1) 0 r' := ⟨_, rfl⟩
  rw [← hW3]
  have HB3 : Hid (Below (w.heap.size + 1) w2 W3) := by rw [hW3]; exact put13_below r' (Below.refl _ _) (Nat.le_refl _)
  have hr3 : ∀ j, j < 13 → W3.cell? ⟨w.heap.size + 1, j, none⟩ = (rfC r')[j]? := fun j hj => by
    rw [hW3]
    have := put13_cell (w := w2) (b := w.heap.size + 1) (o := 0) r' (fun j hj => by rw [Nat.zero_add, hr2 j]; match j, hj with | 0, _ => rfl | 1, _ => rfl | 2, _ => rfl | 3, _ => rfl | 4, _ => rfl | 5, _ => rfl | 6, _ => rfl | 7, _ => rfl | 8, _ => rfl | 9, _ => rfl | 10, _ => rfl | 11, _ => rfl | 12, _ => rfl) j hj
    rwa [Nat.zero_add] at this
  have hp3 : ∀ j, W3.cell? ⟨w.heap.size, j, none⟩ = (#[.int .u8 d, .int .i64 k, .int .i64 x] : Array Value)[j]? := fun j => (HB3.out.cell (p := ⟨w.heap.size, j, none⟩) (by show w.heap.size < _; omega)).trans (hp2 j)
  have hs3 : w.heap.size + 1 < W3.heap.size := by have := HB3.out.size; omega
  have HA3 : Hid (Apart w.heap.size w W3 g) := HA2.out.trans ⟨HB3.out.os, HB3.out.tape, HB3.out.output, HB3.out.size, fun i hi _ => HB3.out.block i (by omega)⟩
  have HT3 : Hid (Tab W3 t g c (act (chargeF x) (tickB x) ps k).1) := HT2.out.keep2 (HB3.out.block t (by have := HT.out.lt; omega)) (HB3.out.block g (by have := HG.out; omega))
  have HR3 : Hid (RowG W3 rfC 13 (some ⟨b, o, none⟩) rs) := HR.out.apart HA3.out (fun _ b' o' e => by injection e with e; injection e with e1 e2; subst e1; exact HNE.out)
  clear hW3 hp2 hr2 hf2 hs2
  refine (rclone_any ⟨b, o, none⟩ n cc rs W3 HN.out HR3.out (by have := HN.out; omega)).mono ?_
  rintro e w4 ⟨b4, c4, rfl, hb4, hrow4, ho4, hbel4⟩
  have hp4 : ∀ j, w4.cell? ⟨w.heap.size, j, none⟩ = (#[.int .u8 d, .int .i64 k, .int .i64 x] : Array Value)[j]? := fun j => (hbel4.cell (p := ⟨w.heap.size, j, none⟩) (by show w.heap.size < _; omega)).trans (hp3 j)
  have hr4 : ∀ j, j < 13 → w4.cell? ⟨w.heap.size + 1, j, none⟩ = (rfC r')[j]? := fun j hj => (hbel4.cell (p := ⟨w.heap.size + 1, j, none⟩) hs3).trans (hr3 j hj)
  have d0 : w4.cell? ⟨w.heap.size + 1, 0, none⟩ = some (.int .i64 r'.pri) := hr4 0 (by omega)
  have d1 : w4.cell? ⟨w.heap.size + 1, 1, none⟩ = some (.int .i64 r'.per) := hr4 1 (by omega)
  have d2 : w4.cell? ⟨w.heap.size + 1, 2, none⟩ = some (.int .i64 r'.cap) := hr4 2 (by omega)
  have d3 : w4.cell? ⟨w.heap.size + 1, 3, none⟩ = some (.int .i64 r'.dl) := hr4 3 (by omega)
  have d4 : w4.cell? ⟨w.heap.size + 1, 4, none⟩ = some (.int .i64 r'.off) := hr4 4 (by omega)
  have d5 : w4.cell? ⟨w.heap.size + 1, 5, none⟩ = some (.int .i64 r'.st) := hr4 5 (by omega)
  have d6 : w4.cell? ⟨w.heap.size + 1, 6, none⟩ = some (.bool r'.held) := hr4 6 (by omega)
  have d7 : w4.cell? ⟨w.heap.size + 1, 7, none⟩ = some (.int .i64 r'.til) := hr4 7 (by omega)
  have d8 : w4.cell? ⟨w.heap.size + 1, 8, none⟩ = some (.int .i64 r'.beg) := hr4 8 (by omega)
  have d9 : w4.cell? ⟨w.heap.size + 1, 9, none⟩ = some (.int .i64 r'.used) := hr4 9 (by omega)
  have d10 : w4.cell? ⟨w.heap.size + 1, 10, none⟩ = some (.bool r'.missed) := hr4 10 (by omega)
  have d11 : w4.cell? ⟨w.heap.size + 1, 11, none⟩ = some (.int .i64 r'.base) := hr4 11 (by omega)
  have d12 : w4.cell? ⟨w.heap.size + 1, 12, none⟩ = some (.int .i64 r'.raised) := hr4 12 (by omega)
  have hs4 : w.heap.size + 1 < w4.heap.size := by have := hbel4.size; omega
  have hl4 := hrow4.lt
  have hz4 := hrow4.fz
  have HT4 := Lib.hid (HT3.out.below hbel4)
  have HA4 : Hid (Apart w.heap.size w w4 g) := HA3.out.trans (Apart.of_below hbel4 HA3.out.size)
  have HO4 := Lib.hid ho4
  obtain ⟨bb, hbe, _, _, hc4⟩ := ho4 (by have := HN.out; omega)
  injection hbe with hbe
  injection hbe with hbe
  subst hbe
  have f0 : w4.cell? ⟨b4, k * 13, none⟩ = some (.int .i64 r.pri) := hc4 k r HRK.out 0 (by omega)
  have f1 : w4.cell? ⟨b4, k * 13 + 1, none⟩ = some (.int .i64 r.per) := hc4 k r HRK.out 1 (by omega)
  have f2 : w4.cell? ⟨b4, k * 13 + 2, none⟩ = some (.int .i64 r.cap) := hc4 k r HRK.out 2 (by omega)
  have f3 : w4.cell? ⟨b4, k * 13 + 3, none⟩ = some (.int .i64 r.dl) := hc4 k r HRK.out 3 (by omega)
  have f4 : w4.cell? ⟨b4, k * 13 + 4, none⟩ = some (.int .i64 r.off) := hc4 k r HRK.out 4 (by omega)
  have f5 : w4.cell? ⟨b4, k * 13 + 5, none⟩ = some (.int .i64 r.st) := hc4 k r HRK.out 5 (by omega)
  have f6 : w4.cell? ⟨b4, k * 13 + 6, none⟩ = some (.bool r.held) := hc4 k r HRK.out 6 (by omega)
  have f7 : w4.cell? ⟨b4, k * 13 + 7, none⟩ = some (.int .i64 r.til) := hc4 k r HRK.out 7 (by omega)
  have f8 : w4.cell? ⟨b4, k * 13 + 8, none⟩ = some (.int .i64 r.beg) := hc4 k r HRK.out 8 (by omega)
  have f9 : w4.cell? ⟨b4, k * 13 + 9, none⟩ = some (.int .i64 r.used) := hc4 k r HRK.out 9 (by omega)
  have f10 : w4.cell? ⟨b4, k * 13 + 10, none⟩ = some (.bool r.missed) := hc4 k r HRK.out 10 (by omega)
  have f11 : w4.cell? ⟨b4, k * 13 + 11, none⟩ = some (.int .i64 r.base) := hc4 k r HRK.out 11 (by omega)
  have f12 : w4.cell? ⟨b4, k * 13 + 12, none⟩ = some (.int .i64 r.raised) := hc4 k r HRK.out 12 (by omega)
  have HB4 : Hid (w.heap.size + 1 < b4) := by have := hs3; unfold Hid; omega
  have HROW4 := Lib.hid hrow4
  clear hp3 hr3 hr4 hs3 hbel4 hc4 hrow4
  have HP : Hid (DoPost w t g c n ⟨b, o, none⟩ (.returned (.tuple #[.slice (some ⟨b4, 0, none⟩) n c4, .bool true])) (put13 w4 b4 (k * 13) r')) := by
    have hpb : Below (w.heap.size + 1) w4 (put13 w4 b4 (k * 13) r') := put13_below r' (Below.refl _ _) (by have := HB4.out; omega)
    refine ⟨⟨b4, 0, none⟩, c4, (act (chargeF x) (tickB x) ps k).1, rs.set k r', rfl, HT4.out.keep2 (hpb.block t (by have := HT.out.lt; omega)) (hpb.block g (by have := HG.out; omega)), (rfOwn_put13 HO4.out HRK.out).rowG, by simpa using HACT.out.2, act_ok (keeps_charge x) HOK.out k, HA4.out.trans ⟨hpb.os, hpb.tape, hpb.output, hpb.size, fun i hi _ => hpb.block i (by omega)⟩, by simpa using HN.out, .inr ⟨b4, rfl, Nat.le_of_lt (Nat.lt_of_succ_lt HB4.out)⟩⟩
  go_wp2_with fail
  go_ret2
  exact HP.out


end Go.Proofs.Ytgnjenmicojgnaa
