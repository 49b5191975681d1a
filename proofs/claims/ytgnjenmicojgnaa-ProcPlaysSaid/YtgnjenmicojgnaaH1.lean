/-
  What do answers of acts out of range.
-/
import Derived.Test.YtgnjenmicojgnaaG4
namespace Go.Proofs.Ytgnjenmicojgnaa
set_option linter.unusedVariables false
set_option linter.unusedSimpArgs false
open Go.RowKit

set_option maxRecDepth 100000 in
set_option maxHeartbeats 2000000 in
theorem out_start0n (t g c : Nat) (A : Addr) (n cc : Nat) (ps : List Pr) (rs : List Rf) (d i x : Int) (w : World) (hn : rs.length = n) (hd : 0 ≤ d ∧ d ≤ 255) (hm : d % 16 = 0) (hT : Tab w t g c ps) (hR : RowG w rfC 13 (some A) rs) (hrel : RelL ps rs) (hok : ∀ p, p ∈ ps → p.Ok)
    (hne : rs.length ≠ 0 → A.block ≠ g) (hg : g < w.heap.size) (hi : i < 0) :
    Calls Try.prog 23 #[.pointer (some ⟨t, 0, none⟩), .slice (some A) n cc, .agg #[.int .u8 d, .int .i64 i, .int .i64 x]] w (DoPost w t g c n A) := by
  obtain ⟨hd1, hd2⟩ := hd
  have hl := hT.len
  have hl2 := hrel.1
  have HN := Lib.hid hn
  have HT := Lib.hid hT
  have HR := Lib.hid hR
  have HREL := Lib.hid hrel
  have HOK := Lib.hid hok
  have HNE := Lib.hid hne
  have HG := Lib.hid hg
  have HACT : Hid (act (startF x) (tickB x) ps i = (ps, 9)) := act_out (by omega)
  clear hn hT hR hrel hok hne hg
  go_enter Try.func23, Try.ntmps23
  go_wp2_with fail
  obtain ⟨W0, hW0⟩ : ∃ W0, W0 = (w.alloc (.cells #[.int .u8 d, .int .i64 i, .int .i64 x] 52)).alloc (.cells #[.int .i64 0, .int .i64 0, .int .i64 0, .int .i64 0, .int .i64 0, .int .i64 0, .bool false, .int .i64 0, .int .i64 0, .int .i64 0, .bool false, .int .i64 0, .int .i64 0] 101) := ⟨_, rfl⟩
  rw [← hW0]
  have HB0 : Hid (Below w.heap.size w W0) := by rw [hW0]; exact ((Below.refl _ _).alloc (Nat.le_refl _) _).alloc (by simp) _
  have hp0 : ∀ j, W0.cell? ⟨w.heap.size, j, none⟩ = (#[.int .u8 d, .int .i64 i, .int .i64 x] : Array Value)[j]? := by rw [hW0]; intro j; go_simp
  have hr0 : ∀ j, W0.cell? ⟨w.heap.size + 1, j, none⟩ = (#[.int .i64 0, .int .i64 0, .int .i64 0, .int .i64 0, .int .i64 0, .int .i64 0, .bool false, .int .i64 0, .int .i64 0, .int .i64 0, .bool false, .int .i64 0, .int .i64 0] : Array Value)[j]? := by rw [hW0]; intro j; go_simp
  have hf0 : ∀ j, W0.frozen? ⟨w.heap.size + 1, j, none⟩ = false := by rw [hW0]; intro j; go_simp
  have hs0 : w.heap.size + 1 < W0.heap.size := by rw [hW0]; simp
  clear hW0
  obtain ⟨r', hr'⟩ : ∃ r', (startR x rz).1 = r' := ⟨_, rfl⟩
  have HR' := Lib.hid hr'
  clear hr'
  refine (start_is (i) x (k := 9) HACT.out (HT.out.below HB0.out) HOK.out).mono ?_
  rintro e w1 ⟨rfl, hT1, hA1⟩
  have hp1 : ∀ j, w1.cell? ⟨w.heap.size, j, none⟩ = (#[.int .u8 d, .int .i64 i, .int .i64 x] : Array Value)[j]? := fun j => (World.cell?_of_block (w := W0) (a := ⟨w.heap.size, j, none⟩) (hA1.block _ (by show w.heap.size < _; omega) (by have := HG.out; show w.heap.size ≠ g; omega))).trans (hp0 j)
  have hr1 : ∀ j, w1.cell? ⟨w.heap.size + 1, j, none⟩ = (#[.int .i64 0, .int .i64 0, .int .i64 0, .int .i64 0, .int .i64 0, .int .i64 0, .bool false, .int .i64 0, .int .i64 0, .int .i64 0, .bool false, .int .i64 0, .int .i64 0] : Array Value)[j]? := fun j => (World.cell?_of_block (w := W0) (a := ⟨w.heap.size + 1, j, none⟩) (hA1.block _ (by show w.heap.size + 1 < _; omega) (by have := HG.out; show w.heap.size + 1 ≠ g; omega))).trans (hr0 j)
  have hs1 : w.heap.size + 1 < w1.heap.size := by have := hA1.size; omega
  have HT1 := Lib.hid hT1
  have HA1 : Hid (Apart w.heap.size w w1 g) := (Apart.of_below HB0.out (Nat.le_refl _)).trans (hA1.mono HB0.out.size)
  have hf1 : ∀ j, w1.frozen? ⟨w.heap.size + 1, j, none⟩ = false := fun j => (World.frozen?_of_block (w := W0) (a := ⟨w.heap.size + 1, j, none⟩) (hA1.block _ (by show w.heap.size + 1 < _; omega) (by have := HG.out; show w.heap.size + 1 ≠ g; omega))).trans (hf0 j)
  clear hp0 hr0 hs0 hT1 hA1 hf0
  go_wp2_with fail
  refine (rstart_any rz x w1 rz_ok).mono ?_
  rw [HR'.out]
  unfold Rf.cells
  rintro e w2 ⟨rfl, hb2⟩
  have hp2 : ∀ j, w2.cell? ⟨w.heap.size, j, none⟩ = (#[.int .u8 d, .int .i64 i, .int .i64 x] : Array Value)[j]? := fun j => (hb2.cell (p := ⟨w.heap.size, j, none⟩) (by show w.heap.size < _; omega)).trans (hp1 j)
  have hr2 : ∀ j, w2.cell? ⟨w.heap.size + 1, j, none⟩ = (#[.int .i64 0, .int .i64 0, .int .i64 0, .int .i64 0, .int .i64 0, .int .i64 0, .bool false, .int .i64 0, .int .i64 0, .int .i64 0, .bool false, .int .i64 0, .int .i64 0] : Array Value)[j]? := fun j => (hb2.cell (p := ⟨w.heap.size + 1, j, none⟩) hs1).trans (hr1 j)
  have hf2 : ∀ j, w2.frozen? ⟨w.heap.size + 1, j, none⟩ = false := fun j => (hb2.frozen (p := ⟨w.heap.size + 1, j, none⟩) hs1).trans (hf1 j)
  have HP : Hid (DoPost w t g c n A (.returned (.tuple #[.slice (some A) n cc, .bool true])) (put13 w2 (w.heap.size + 1) 0 r')) := by
    have hpb : Below (w.heap.size + 1) w2 (put13 w2 (w.heap.size + 1) 0 r') := put13_below r' (Below.refl _ _) (Nat.le_refl _)
    have ha2 : Apart w.heap.size w w2 g := HA1.out.trans (Apart.of_below hb2 HA1.out.size)
    have hs2 := hb2.size
    have ha3 : Apart w.heap.size w (put13 w2 (w.heap.size + 1) 0 r') g := ha2.trans ⟨hpb.os, hpb.tape, hpb.output, hpb.size, fun i hi _ => hpb.block i (by omega)⟩
    have hT2 := HT1.out.below hb2
    exact ⟨A, cc, ps, rs, rfl, hT2.keep2 (hpb.block t (by have := HT.out.lt; omega)) (hpb.block g (by have := HG.out; omega)), HR.out.apart ha3 (fun hz b' o' e => by injection e with e; subst e; exact HNE.out hz), HREL.out, HOK.out, ha3, HN.out, .inl rfl⟩
  have hs2 : w.heap.size + 1 < w2.heap.size := by have := hb2.size; omega
  clear hp1 hr1 hf1 hs1 hb2
  go_wp2_with fail
  go_ret2
  exact HP.out

set_option maxRecDepth 100000 in
set_option maxHeartbeats 2000000 in
theorem out_start0p (t g c : Nat) (A : Addr) (n cc : Nat) (ps : List Pr) (rs : List Rf) (d i x : Int) (w : World) (hn : rs.length = n) (hd : 0 ≤ d ∧ d ≤ 255) (hm : d % 16 = 0) (hT : Tab w t g c ps) (hR : RowG w rfC 13 (some A) rs) (hrel : RelL ps rs) (hok : ∀ p, p ∈ ps → p.Ok)
    (hne : rs.length ≠ 0 → A.block ≠ g) (hg : g < w.heap.size) (hi : 0 ≤ i ∧ (n : Int) ≤ i) :
    Calls Try.prog 23 #[.pointer (some ⟨t, 0, none⟩), .slice (some A) n cc, .agg #[.int .u8 d, .int .i64 i, .int .i64 x]] w (DoPost w t g c n A) := by
  obtain ⟨hd1, hd2⟩ := hd
  obtain ⟨hi1, hi2⟩ := hi
  have hi3 : ¬ (i < (n : Int)) := by omega
  have hi4 : decide (i < (n : Int)) = false := by simp; omega
  have hl := hT.len
  have hl2 := hrel.1
  have HN := Lib.hid hn
  have HT := Lib.hid hT
  have HR := Lib.hid hR
  have HREL := Lib.hid hrel
  have HOK := Lib.hid hok
  have HNE := Lib.hid hne
  have HG := Lib.hid hg
  have HACT : Hid (act (startF x) (tickB x) ps i = (ps, 9)) := act_out (by omega)
  clear hn hT hR hrel hok hne hg
  go_enter Try.func23, Try.ntmps23
  go_wp2_with fail
  obtain ⟨W0, hW0⟩ : ∃ W0, W0 = (w.alloc (.cells #[.int .u8 d, .int .i64 i, .int .i64 x] 52)).alloc (.cells #[.int .i64 0, .int .i64 0, .int .i64 0, .int .i64 0, .int .i64 0, .int .i64 0, .bool false, .int .i64 0, .int .i64 0, .int .i64 0, .bool false, .int .i64 0, .int .i64 0] 101) := ⟨_, rfl⟩
  rw [← hW0]
  have HB0 : Hid (Below w.heap.size w W0) := by rw [hW0]; exact ((Below.refl _ _).alloc (Nat.le_refl _) _).alloc (by simp) _
  have hp0 : ∀ j, W0.cell? ⟨w.heap.size, j, none⟩ = (#[.int .u8 d, .int .i64 i, .int .i64 x] : Array Value)[j]? := by rw [hW0]; intro j; go_simp
  have hr0 : ∀ j, W0.cell? ⟨w.heap.size + 1, j, none⟩ = (#[.int .i64 0, .int .i64 0, .int .i64 0, .int .i64 0, .int .i64 0, .int .i64 0, .bool false, .int .i64 0, .int .i64 0, .int .i64 0, .bool false, .int .i64 0, .int .i64 0] : Array Value)[j]? := by rw [hW0]; intro j; go_simp
  have hf0 : ∀ j, W0.frozen? ⟨w.heap.size + 1, j, none⟩ = false := by rw [hW0]; intro j; go_simp
  have hs0 : w.heap.size + 1 < W0.heap.size := by rw [hW0]; simp
  clear hW0
  obtain ⟨r', hr'⟩ : ∃ r', (startR x rz).1 = r' := ⟨_, rfl⟩
  have HR' := Lib.hid hr'
  clear hr'
  refine (start_is (i) x (k := 9) HACT.out (HT.out.below HB0.out) HOK.out).mono ?_
  rintro e w1 ⟨rfl, hT1, hA1⟩
  have hp1 : ∀ j, w1.cell? ⟨w.heap.size, j, none⟩ = (#[.int .u8 d, .int .i64 i, .int .i64 x] : Array Value)[j]? := fun j => (World.cell?_of_block (w := W0) (a := ⟨w.heap.size, j, none⟩) (hA1.block _ (by show w.heap.size < _; omega) (by have := HG.out; show w.heap.size ≠ g; omega))).trans (hp0 j)
  have hr1 : ∀ j, w1.cell? ⟨w.heap.size + 1, j, none⟩ = (#[.int .i64 0, .int .i64 0, .int .i64 0, .int .i64 0, .int .i64 0, .int .i64 0, .bool false, .int .i64 0, .int .i64 0, .int .i64 0, .bool false, .int .i64 0, .int .i64 0] : Array Value)[j]? := fun j => (World.cell?_of_block (w := W0) (a := ⟨w.heap.size + 1, j, none⟩) (hA1.block _ (by show w.heap.size + 1 < _; omega) (by have := HG.out; show w.heap.size + 1 ≠ g; omega))).trans (hr0 j)
  have hs1 : w.heap.size + 1 < w1.heap.size := by have := hA1.size; omega
  have HT1 := Lib.hid hT1
  have HA1 : Hid (Apart w.heap.size w w1 g) := (Apart.of_below HB0.out (Nat.le_refl _)).trans (hA1.mono HB0.out.size)
  have hf1 : ∀ j, w1.frozen? ⟨w.heap.size + 1, j, none⟩ = false := fun j => (World.frozen?_of_block (w := W0) (a := ⟨w.heap.size + 1, j, none⟩) (hA1.block _ (by show w.heap.size + 1 < _; omega) (by have := HG.out; show w.heap.size + 1 ≠ g; omega))).trans (hf0 j)
  clear hp0 hr0 hs0 hT1 hA1 hf0
  go_wp2_with fail
  refine (rstart_any rz x w1 rz_ok).mono ?_
  rw [HR'.out]
  unfold Rf.cells
  rintro e w2 ⟨rfl, hb2⟩
  have hp2 : ∀ j, w2.cell? ⟨w.heap.size, j, none⟩ = (#[.int .u8 d, .int .i64 i, .int .i64 x] : Array Value)[j]? := fun j => (hb2.cell (p := ⟨w.heap.size, j, none⟩) (by show w.heap.size < _; omega)).trans (hp1 j)
  have hr2 : ∀ j, w2.cell? ⟨w.heap.size + 1, j, none⟩ = (#[.int .i64 0, .int .i64 0, .int .i64 0, .int .i64 0, .int .i64 0, .int .i64 0, .bool false, .int .i64 0, .int .i64 0, .int .i64 0, .bool false, .int .i64 0, .int .i64 0] : Array Value)[j]? := fun j => (hb2.cell (p := ⟨w.heap.size + 1, j, none⟩) hs1).trans (hr1 j)
  have hf2 : ∀ j, w2.frozen? ⟨w.heap.size + 1, j, none⟩ = false := fun j => (hb2.frozen (p := ⟨w.heap.size + 1, j, none⟩) hs1).trans (hf1 j)
  have HP : Hid (DoPost w t g c n A (.returned (.tuple #[.slice (some A) n cc, .bool true])) (put13 w2 (w.heap.size + 1) 0 r')) := by
    have hpb : Below (w.heap.size + 1) w2 (put13 w2 (w.heap.size + 1) 0 r') := put13_below r' (Below.refl _ _) (Nat.le_refl _)
    have ha2 : Apart w.heap.size w w2 g := HA1.out.trans (Apart.of_below hb2 HA1.out.size)
    have hs2 := hb2.size
    have ha3 : Apart w.heap.size w (put13 w2 (w.heap.size + 1) 0 r') g := ha2.trans ⟨hpb.os, hpb.tape, hpb.output, hpb.size, fun i hi _ => hpb.block i (by omega)⟩
    have hT2 := HT1.out.below hb2
    exact ⟨A, cc, ps, rs, rfl, hT2.keep2 (hpb.block t (by have := HT.out.lt; omega)) (hpb.block g (by have := HG.out; omega)), HR.out.apart ha3 (fun hz b' o' e => by injection e with e; subst e; exact HNE.out hz), HREL.out, HOK.out, ha3, HN.out, .inl rfl⟩
  have hs2 : w.heap.size + 1 < w2.heap.size := by have := hb2.size; omega
  clear hp1 hr1 hf1 hs1 hb2
  go_wp2_with fail
  go_ret2
  exact HP.out

set_option maxRecDepth 100000 in
set_option maxHeartbeats 2000000 in
theorem out_start1n (t g c : Nat) (A : Addr) (n cc : Nat) (ps : List Pr) (rs : List Rf) (d i x : Int) (w : World) (hn : rs.length = n) (hd : 0 ≤ d ∧ d ≤ 255) (hm : d % 16 = 1) (hT : Tab w t g c ps) (hR : RowG w rfC 13 (some A) rs) (hrel : RelL ps rs) (hok : ∀ p, p ∈ ps → p.Ok)
    (hne : rs.length ≠ 0 → A.block ≠ g) (hg : g < w.heap.size) (hi : i < 0) :
    Calls Try.prog 23 #[.pointer (some ⟨t, 0, none⟩), .slice (some A) n cc, .agg #[.int .u8 d, .int .i64 i, .int .i64 x]] w (DoPost w t g c n A) := by
  obtain ⟨hd1, hd2⟩ := hd
  have hl := hT.len
  have hl2 := hrel.1
  have HN := Lib.hid hn
  have HT := Lib.hid hT
  have HR := Lib.hid hR
  have HREL := Lib.hid hrel
  have HOK := Lib.hid hok
  have HNE := Lib.hid hne
  have HG := Lib.hid hg
  have HACT : Hid (act (startF x) (tickB x) ps i = (ps, 9)) := act_out (by omega)
  clear hn hT hR hrel hok hne hg
  go_enter Try.func23, Try.ntmps23
  go_wp2_with fail
  obtain ⟨W0, hW0⟩ : ∃ W0, W0 = (w.alloc (.cells #[.int .u8 d, .int .i64 i, .int .i64 x] 52)).alloc (.cells #[.int .i64 0, .int .i64 0, .int .i64 0, .int .i64 0, .int .i64 0, .int .i64 0, .bool false, .int .i64 0, .int .i64 0, .int .i64 0, .bool false, .int .i64 0, .int .i64 0] 101) := ⟨_, rfl⟩
  rw [← hW0]
  have HB0 : Hid (Below w.heap.size w W0) := by rw [hW0]; exact ((Below.refl _ _).alloc (Nat.le_refl _) _).alloc (by simp) _
  have hp0 : ∀ j, W0.cell? ⟨w.heap.size, j, none⟩ = (#[.int .u8 d, .int .i64 i, .int .i64 x] : Array Value)[j]? := by rw [hW0]; intro j; go_simp
  have hr0 : ∀ j, W0.cell? ⟨w.heap.size + 1, j, none⟩ = (#[.int .i64 0, .int .i64 0, .int .i64 0, .int .i64 0, .int .i64 0, .int .i64 0, .bool false, .int .i64 0, .int .i64 0, .int .i64 0, .bool false, .int .i64 0, .int .i64 0] : Array Value)[j]? := by rw [hW0]; intro j; go_simp
  have hf0 : ∀ j, W0.frozen? ⟨w.heap.size + 1, j, none⟩ = false := by rw [hW0]; intro j; go_simp
  have hs0 : w.heap.size + 1 < W0.heap.size := by rw [hW0]; simp
  clear hW0
  obtain ⟨r', hr'⟩ : ∃ r', (startR x rz).1 = r' := ⟨_, rfl⟩
  have HR' := Lib.hid hr'
  clear hr'
  refine (start_is (i) x (k := 9) HACT.out (HT.out.below HB0.out) HOK.out).mono ?_
  rintro e w1 ⟨rfl, hT1, hA1⟩
  have hp1 : ∀ j, w1.cell? ⟨w.heap.size, j, none⟩ = (#[.int .u8 d, .int .i64 i, .int .i64 x] : Array Value)[j]? := fun j => (World.cell?_of_block (w := W0) (a := ⟨w.heap.size, j, none⟩) (hA1.block _ (by show w.heap.size < _; omega) (by have := HG.out; show w.heap.size ≠ g; omega))).trans (hp0 j)
  have hr1 : ∀ j, w1.cell? ⟨w.heap.size + 1, j, none⟩ = (#[.int .i64 0, .int .i64 0, .int .i64 0, .int .i64 0, .int .i64 0, .int .i64 0, .bool false, .int .i64 0, .int .i64 0, .int .i64 0, .bool false, .int .i64 0, .int .i64 0] : Array Value)[j]? := fun j => (World.cell?_of_block (w := W0) (a := ⟨w.heap.size + 1, j, none⟩) (hA1.block _ (by show w.heap.size + 1 < _; omega) (by have := HG.out; show w.heap.size + 1 ≠ g; omega))).trans (hr0 j)
  have hs1 : w.heap.size + 1 < w1.heap.size := by have := hA1.size; omega
  have HT1 := Lib.hid hT1
  have HA1 : Hid (Apart w.heap.size w w1 g) := (Apart.of_below HB0.out (Nat.le_refl _)).trans (hA1.mono HB0.out.size)
  have hf1 : ∀ j, w1.frozen? ⟨w.heap.size + 1, j, none⟩ = false := fun j => (World.frozen?_of_block (w := W0) (a := ⟨w.heap.size + 1, j, none⟩) (hA1.block _ (by show w.heap.size + 1 < _; omega) (by have := HG.out; show w.heap.size + 1 ≠ g; omega))).trans (hf0 j)
  clear hp0 hr0 hs0 hT1 hA1 hf0
  go_wp2_with fail
  refine (rstart_any rz x w1 rz_ok).mono ?_
  rw [HR'.out]
  unfold Rf.cells
  rintro e w2 ⟨rfl, hb2⟩
  have hp2 : ∀ j, w2.cell? ⟨w.heap.size, j, none⟩ = (#[.int .u8 d, .int .i64 i, .int .i64 x] : Array Value)[j]? := fun j => (hb2.cell (p := ⟨w.heap.size, j, none⟩) (by show w.heap.size < _; omega)).trans (hp1 j)
  have hr2 : ∀ j, w2.cell? ⟨w.heap.size + 1, j, none⟩ = (#[.int .i64 0, .int .i64 0, .int .i64 0, .int .i64 0, .int .i64 0, .int .i64 0, .bool false, .int .i64 0, .int .i64 0, .int .i64 0, .bool false, .int .i64 0, .int .i64 0] : Array Value)[j]? := fun j => (hb2.cell (p := ⟨w.heap.size + 1, j, none⟩) hs1).trans (hr1 j)
  have hf2 : ∀ j, w2.frozen? ⟨w.heap.size + 1, j, none⟩ = false := fun j => (hb2.frozen (p := ⟨w.heap.size + 1, j, none⟩) hs1).trans (hf1 j)
  have HP : Hid (DoPost w t g c n A (.returned (.tuple #[.slice (some A) n cc, .bool true])) (put13 w2 (w.heap.size + 1) 0 r')) := by
    have hpb : Below (w.heap.size + 1) w2 (put13 w2 (w.heap.size + 1) 0 r') := put13_below r' (Below.refl _ _) (Nat.le_refl _)
    have ha2 : Apart w.heap.size w w2 g := HA1.out.trans (Apart.of_below hb2 HA1.out.size)
    have hs2 := hb2.size
    have ha3 : Apart w.heap.size w (put13 w2 (w.heap.size + 1) 0 r') g := ha2.trans ⟨hpb.os, hpb.tape, hpb.output, hpb.size, fun i hi _ => hpb.block i (by omega)⟩
    have hT2 := HT1.out.below hb2
    exact ⟨A, cc, ps, rs, rfl, hT2.keep2 (hpb.block t (by have := HT.out.lt; omega)) (hpb.block g (by have := HG.out; omega)), HR.out.apart ha3 (fun hz b' o' e => by injection e with e; subst e; exact HNE.out hz), HREL.out, HOK.out, ha3, HN.out, .inl rfl⟩
  have hs2 : w.heap.size + 1 < w2.heap.size := by have := hb2.size; omega
  clear hp1 hr1 hf1 hs1 hb2
  go_wp2_with fail
  go_ret2
  exact HP.out

set_option maxRecDepth 100000 in
set_option maxHeartbeats 2000000 in
theorem out_start1p (t g c : Nat) (A : Addr) (n cc : Nat) (ps : List Pr) (rs : List Rf) (d i x : Int) (w : World) (hn : rs.length = n) (hd : 0 ≤ d ∧ d ≤ 255) (hm : d % 16 = 1) (hT : Tab w t g c ps) (hR : RowG w rfC 13 (some A) rs) (hrel : RelL ps rs) (hok : ∀ p, p ∈ ps → p.Ok)
    (hne : rs.length ≠ 0 → A.block ≠ g) (hg : g < w.heap.size) (hi : 0 ≤ i ∧ (n : Int) ≤ i) :
    Calls Try.prog 23 #[.pointer (some ⟨t, 0, none⟩), .slice (some A) n cc, .agg #[.int .u8 d, .int .i64 i, .int .i64 x]] w (DoPost w t g c n A) := by
  obtain ⟨hd1, hd2⟩ := hd
  obtain ⟨hi1, hi2⟩ := hi
  have hi3 : ¬ (i < (n : Int)) := by omega
  have hi4 : decide (i < (n : Int)) = false := by simp; omega
  have hl := hT.len
  have hl2 := hrel.1
  have HN := Lib.hid hn
  have HT := Lib.hid hT
  have HR := Lib.hid hR
  have HREL := Lib.hid hrel
  have HOK := Lib.hid hok
  have HNE := Lib.hid hne
  have HG := Lib.hid hg
  have HACT : Hid (act (startF x) (tickB x) ps i = (ps, 9)) := act_out (by omega)
  clear hn hT hR hrel hok hne hg
  go_enter Try.func23, Try.ntmps23
  go_wp2_with fail
  obtain ⟨W0, hW0⟩ : ∃ W0, W0 = (w.alloc (.cells #[.int .u8 d, .int .i64 i, .int .i64 x] 52)).alloc (.cells #[.int .i64 0, .int .i64 0, .int .i64 0, .int .i64 0, .int .i64 0, .int .i64 0, .bool false, .int .i64 0, .int .i64 0, .int .i64 0, .bool false, .int .i64 0, .int .i64 0] 101) := ⟨_, rfl⟩
  rw [← hW0]
  have HB0 : Hid (Below w.heap.size w W0) := by rw [hW0]; exact ((Below.refl _ _).alloc (Nat.le_refl _) _).alloc (by simp) _
  have hp0 : ∀ j, W0.cell? ⟨w.heap.size, j, none⟩ = (#[.int .u8 d, .int .i64 i, .int .i64 x] : Array Value)[j]? := by rw [hW0]; intro j; go_simp
  have hr0 : ∀ j, W0.cell? ⟨w.heap.size + 1, j, none⟩ = (#[.int .i64 0, .int .i64 0, .int .i64 0, .int .i64 0, .int .i64 0, .int .i64 0, .bool false, .int .i64 0, .int .i64 0, .int .i64 0, .bool false, .int .i64 0, .int .i64 0] : Array Value)[j]? := by rw [hW0]; intro j; go_simp
  have hf0 : ∀ j, W0.frozen? ⟨w.heap.size + 1, j, none⟩ = false := by rw [hW0]; intro j; go_simp
  have hs0 : w.heap.size + 1 < W0.heap.size := by rw [hW0]; simp
  clear hW0
  obtain ⟨r', hr'⟩ : ∃ r', (startR x rz).1 = r' := ⟨_, rfl⟩
  have HR' := Lib.hid hr'
  clear hr'
  refine (start_is (i) x (k := 9) HACT.out (HT.out.below HB0.out) HOK.out).mono ?_
  rintro e w1 ⟨rfl, hT1, hA1⟩
  have hp1 : ∀ j, w1.cell? ⟨w.heap.size, j, none⟩ = (#[.int .u8 d, .int .i64 i, .int .i64 x] : Array Value)[j]? := fun j => (World.cell?_of_block (w := W0) (a := ⟨w.heap.size, j, none⟩) (hA1.block _ (by show w.heap.size < _; omega) (by have := HG.out; show w.heap.size ≠ g; omega))).trans (hp0 j)
  have hr1 : ∀ j, w1.cell? ⟨w.heap.size + 1, j, none⟩ = (#[.int .i64 0, .int .i64 0, .int .i64 0, .int .i64 0, .int .i64 0, .int .i64 0, .bool false, .int .i64 0, .int .i64 0, .int .i64 0, .bool false, .int .i64 0, .int .i64 0] : Array Value)[j]? := fun j => (World.cell?_of_block (w := W0) (a := ⟨w.heap.size + 1, j, none⟩) (hA1.block _ (by show w.heap.size + 1 < _; omega) (by have := HG.out; show w.heap.size + 1 ≠ g; omega))).trans (hr0 j)
  have hs1 : w.heap.size + 1 < w1.heap.size := by have := hA1.size; omega
  have HT1 := Lib.hid hT1
  have HA1 : Hid (Apart w.heap.size w w1 g) := (Apart.of_below HB0.out (Nat.le_refl _)).trans (hA1.mono HB0.out.size)
  have hf1 : ∀ j, w1.frozen? ⟨w.heap.size + 1, j, none⟩ = false := fun j => (World.frozen?_of_block (w := W0) (a := ⟨w.heap.size + 1, j, none⟩) (hA1.block _ (by show w.heap.size + 1 < _; omega) (by have := HG.out; show w.heap.size + 1 ≠ g; omega))).trans (hf0 j)
  clear hp0 hr0 hs0 hT1 hA1 hf0
  go_wp2_with fail
  refine (rstart_any rz x w1 rz_ok).mono ?_
  rw [HR'.out]
  unfold Rf.cells
  rintro e w2 ⟨rfl, hb2⟩
  have hp2 : ∀ j, w2.cell? ⟨w.heap.size, j, none⟩ = (#[.int .u8 d, .int .i64 i, .int .i64 x] : Array Value)[j]? := fun j => (hb2.cell (p := ⟨w.heap.size, j, none⟩) (by show w.heap.size < _; omega)).trans (hp1 j)
  have hr2 : ∀ j, w2.cell? ⟨w.heap.size + 1, j, none⟩ = (#[.int .i64 0, .int .i64 0, .int .i64 0, .int .i64 0, .int .i64 0, .int .i64 0, .bool false, .int .i64 0, .int .i64 0, .int .i64 0, .bool false, .int .i64 0, .int .i64 0] : Array Value)[j]? := fun j => (hb2.cell (p := ⟨w.heap.size + 1, j, none⟩) hs1).trans (hr1 j)
  have hf2 : ∀ j, w2.frozen? ⟨w.heap.size + 1, j, none⟩ = false := fun j => (hb2.frozen (p := ⟨w.heap.size + 1, j, none⟩) hs1).trans (hf1 j)
  have HP : Hid (DoPost w t g c n A (.returned (.tuple #[.slice (some A) n cc, .bool true])) (put13 w2 (w.heap.size + 1) 0 r')) := by
    have hpb : Below (w.heap.size + 1) w2 (put13 w2 (w.heap.size + 1) 0 r') := put13_below r' (Below.refl _ _) (Nat.le_refl _)
    have ha2 : Apart w.heap.size w w2 g := HA1.out.trans (Apart.of_below hb2 HA1.out.size)
    have hs2 := hb2.size
    have ha3 : Apart w.heap.size w (put13 w2 (w.heap.size + 1) 0 r') g := ha2.trans ⟨hpb.os, hpb.tape, hpb.output, hpb.size, fun i hi _ => hpb.block i (by omega)⟩
    have hT2 := HT1.out.below hb2
    exact ⟨A, cc, ps, rs, rfl, hT2.keep2 (hpb.block t (by have := HT.out.lt; omega)) (hpb.block g (by have := HG.out; omega)), HR.out.apart ha3 (fun hz b' o' e => by injection e with e; subst e; exact HNE.out hz), HREL.out, HOK.out, ha3, HN.out, .inl rfl⟩
  have hs2 : w.heap.size + 1 < w2.heap.size := by have := hb2.size; omega
  clear hp1 hr1 hf1 hs1 hb2
  go_wp2_with fail
  go_ret2
  exact HP.out

set_option maxRecDepth 100000 in
set_option maxHeartbeats 2000000 in
theorem out_stop2n (t g c : Nat) (A : Addr) (n cc : Nat) (ps : List Pr) (rs : List Rf) (d i x : Int) (w : World) (hn : rs.length = n) (hd : 0 ≤ d ∧ d ≤ 255) (hm : d % 16 = 2) (hT : Tab w t g c ps) (hR : RowG w rfC 13 (some A) rs) (hrel : RelL ps rs) (hok : ∀ p, p ∈ ps → p.Ok)
    (hne : rs.length ≠ 0 → A.block ≠ g) (hg : g < w.heap.size) (hi : i < 0) :
    Calls Try.prog 23 #[.pointer (some ⟨t, 0, none⟩), .slice (some A) n cc, .agg #[.int .u8 d, .int .i64 i, .int .i64 x]] w (DoPost w t g c n A) := by
  obtain ⟨hd1, hd2⟩ := hd
  have hl := hT.len
  have hl2 := hrel.1
  have HN := Lib.hid hn
  have HT := Lib.hid hT
  have HR := Lib.hid hR
  have HREL := Lib.hid hrel
  have HOK := Lib.hid hok
  have HNE := Lib.hid hne
  have HG := Lib.hid hg
  have HACT : Hid (act stopF true ps i = (ps, 9)) := act_out (by omega)
  clear hn hT hR hrel hok hne hg
  go_enter Try.func23, Try.ntmps23
  go_wp2_with fail
  obtain ⟨W0, hW0⟩ : ∃ W0, W0 = (w.alloc (.cells #[.int .u8 d, .int .i64 i, .int .i64 x] 52)).alloc (.cells #[.int .i64 0, .int .i64 0, .int .i64 0, .int .i64 0, .int .i64 0, .int .i64 0, .bool false, .int .i64 0, .int .i64 0, .int .i64 0, .bool false, .int .i64 0, .int .i64 0] 101) := ⟨_, rfl⟩
  rw [← hW0]
  have HB0 : Hid (Below w.heap.size w W0) := by rw [hW0]; exact ((Below.refl _ _).alloc (Nat.le_refl _) _).alloc (by simp) _
  have hp0 : ∀ j, W0.cell? ⟨w.heap.size, j, none⟩ = (#[.int .u8 d, .int .i64 i, .int .i64 x] : Array Value)[j]? := by rw [hW0]; intro j; go_simp
  have hr0 : ∀ j, W0.cell? ⟨w.heap.size + 1, j, none⟩ = (#[.int .i64 0, .int .i64 0, .int .i64 0, .int .i64 0, .int .i64 0, .int .i64 0, .bool false, .int .i64 0, .int .i64 0, .int .i64 0, .bool false, .int .i64 0, .int .i64 0] : Array Value)[j]? := by rw [hW0]; intro j; go_simp
  have hf0 : ∀ j, W0.frozen? ⟨w.heap.size + 1, j, none⟩ = false := by rw [hW0]; intro j; go_simp
  have hs0 : w.heap.size + 1 < W0.heap.size := by rw [hW0]; simp
  clear hW0
  obtain ⟨r', hr'⟩ : ∃ r', (stopR rz).1 = r' := ⟨_, rfl⟩
  have HR' := Lib.hid hr'
  clear hr'
  refine (stop_is (i) (k := 9) HACT.out (HT.out.below HB0.out) HOK.out).mono ?_
  rintro e w1 ⟨rfl, hT1, hA1⟩
  have hp1 : ∀ j, w1.cell? ⟨w.heap.size, j, none⟩ = (#[.int .u8 d, .int .i64 i, .int .i64 x] : Array Value)[j]? := fun j => (World.cell?_of_block (w := W0) (a := ⟨w.heap.size, j, none⟩) (hA1.block _ (by show w.heap.size < _; omega) (by have := HG.out; show w.heap.size ≠ g; omega))).trans (hp0 j)
  have hr1 : ∀ j, w1.cell? ⟨w.heap.size + 1, j, none⟩ = (#[.int .i64 0, .int .i64 0, .int .i64 0, .int .i64 0, .int .i64 0, .int .i64 0, .bool false, .int .i64 0, .int .i64 0, .int .i64 0, .bool false, .int .i64 0, .int .i64 0] : Array Value)[j]? := fun j => (World.cell?_of_block (w := W0) (a := ⟨w.heap.size + 1, j, none⟩) (hA1.block _ (by show w.heap.size + 1 < _; omega) (by have := HG.out; show w.heap.size + 1 ≠ g; omega))).trans (hr0 j)
  have hs1 : w.heap.size + 1 < w1.heap.size := by have := hA1.size; omega
  have HT1 := Lib.hid hT1
  have HA1 : Hid (Apart w.heap.size w w1 g) := (Apart.of_below HB0.out (Nat.le_refl _)).trans (hA1.mono HB0.out.size)
  have hf1 : ∀ j, w1.frozen? ⟨w.heap.size + 1, j, none⟩ = false := fun j => (World.frozen?_of_block (w := W0) (a := ⟨w.heap.size + 1, j, none⟩) (hA1.block _ (by show w.heap.size + 1 < _; omega) (by have := HG.out; show w.heap.size + 1 ≠ g; omega))).trans (hf0 j)
  clear hp0 hr0 hs0 hT1 hA1 hf0
  go_wp2_with fail
  refine (rstop_any rz w1 rz_ok).mono ?_
  rw [HR'.out]
  unfold Rf.cells
  rintro e w2 ⟨rfl, hb2⟩
  have hp2 : ∀ j, w2.cell? ⟨w.heap.size, j, none⟩ = (#[.int .u8 d, .int .i64 i, .int .i64 x] : Array Value)[j]? := fun j => (hb2.cell (p := ⟨w.heap.size, j, none⟩) (by show w.heap.size < _; omega)).trans (hp1 j)
  have hr2 : ∀ j, w2.cell? ⟨w.heap.size + 1, j, none⟩ = (#[.int .i64 0, .int .i64 0, .int .i64 0, .int .i64 0, .int .i64 0, .int .i64 0, .bool false, .int .i64 0, .int .i64 0, .int .i64 0, .bool false, .int .i64 0, .int .i64 0] : Array Value)[j]? := fun j => (hb2.cell (p := ⟨w.heap.size + 1, j, none⟩) hs1).trans (hr1 j)
  have hf2 : ∀ j, w2.frozen? ⟨w.heap.size + 1, j, none⟩ = false := fun j => (hb2.frozen (p := ⟨w.heap.size + 1, j, none⟩) hs1).trans (hf1 j)
  have HP : Hid (DoPost w t g c n A (.returned (.tuple #[.slice (some A) n cc, .bool true])) (put13 w2 (w.heap.size + 1) 0 r')) := by
    have hpb : Below (w.heap.size + 1) w2 (put13 w2 (w.heap.size + 1) 0 r') := put13_below r' (Below.refl _ _) (Nat.le_refl _)
    have ha2 : Apart w.heap.size w w2 g := HA1.out.trans (Apart.of_below hb2 HA1.out.size)
    have hs2 := hb2.size
    have ha3 : Apart w.heap.size w (put13 w2 (w.heap.size + 1) 0 r') g := ha2.trans ⟨hpb.os, hpb.tape, hpb.output, hpb.size, fun i hi _ => hpb.block i (by omega)⟩
    have hT2 := HT1.out.below hb2
    exact ⟨A, cc, ps, rs, rfl, hT2.keep2 (hpb.block t (by have := HT.out.lt; omega)) (hpb.block g (by have := HG.out; omega)), HR.out.apart ha3 (fun hz b' o' e => by injection e with e; subst e; exact HNE.out hz), HREL.out, HOK.out, ha3, HN.out, .inl rfl⟩
  have hs2 : w.heap.size + 1 < w2.heap.size := by have := hb2.size; omega
  clear hp1 hr1 hf1 hs1 hb2
  go_wp2_with fail
  go_ret2
  exact HP.out

set_option maxRecDepth 100000 in
set_option maxHeartbeats 2000000 in
theorem out_stop2p (t g c : Nat) (A : Addr) (n cc : Nat) (ps : List Pr) (rs : List Rf) (d i x : Int) (w : World) (hn : rs.length = n) (hd : 0 ≤ d ∧ d ≤ 255) (hm : d % 16 = 2) (hT : Tab w t g c ps) (hR : RowG w rfC 13 (some A) rs) (hrel : RelL ps rs) (hok : ∀ p, p ∈ ps → p.Ok)
    (hne : rs.length ≠ 0 → A.block ≠ g) (hg : g < w.heap.size) (hi : 0 ≤ i ∧ (n : Int) ≤ i) :
    Calls Try.prog 23 #[.pointer (some ⟨t, 0, none⟩), .slice (some A) n cc, .agg #[.int .u8 d, .int .i64 i, .int .i64 x]] w (DoPost w t g c n A) := by
  obtain ⟨hd1, hd2⟩ := hd
  obtain ⟨hi1, hi2⟩ := hi
  have hi3 : ¬ (i < (n : Int)) := by omega
  have hi4 : decide (i < (n : Int)) = false := by simp; omega
  have hl := hT.len
  have hl2 := hrel.1
  have HN := Lib.hid hn
  have HT := Lib.hid hT
  have HR := Lib.hid hR
  have HREL := Lib.hid hrel
  have HOK := Lib.hid hok
  have HNE := Lib.hid hne
  have HG := Lib.hid hg
  have HACT : Hid (act stopF true ps i = (ps, 9)) := act_out (by omega)
  clear hn hT hR hrel hok hne hg
  go_enter Try.func23, Try.ntmps23
  go_wp2_with fail
  obtain ⟨W0, hW0⟩ : ∃ W0, W0 = (w.alloc (.cells #[.int .u8 d, .int .i64 i, .int .i64 x] 52)).alloc (.cells #[.int .i64 0, .int .i64 0, .int .i64 0, .int .i64 0, .int .i64 0, .int .i64 0, .bool false, .int .i64 0, .int .i64 0, .int .i64 0, .bool false, .int .i64 0, .int .i64 0] 101) := ⟨_, rfl⟩
  rw [← hW0]
  have HB0 : Hid (Below w.heap.size w W0) := by rw [hW0]; exact ((Below.refl _ _).alloc (Nat.le_refl _) _).alloc (by simp) _
  have hp0 : ∀ j, W0.cell? ⟨w.heap.size, j, none⟩ = (#[.int .u8 d, .int .i64 i, .int .i64 x] : Array Value)[j]? := by rw [hW0]; intro j; go_simp
  have hr0 : ∀ j, W0.cell? ⟨w.heap.size + 1, j, none⟩ = (#[.int .i64 0, .int .i64 0, .int .i64 0, .int .i64 0, .int .i64 0, .int .i64 0, .bool false, .int .i64 0, .int .i64 0, .int .i64 0, .bool false, .int .i64 0, .int .i64 0] : Array Value)[j]? := by rw [hW0]; intro j; go_simp
  have hf0 : ∀ j, W0.frozen? ⟨w.heap.size + 1, j, none⟩ = false := by rw [hW0]; intro j; go_simp
  have hs0 : w.heap.size + 1 < W0.heap.size := by rw [hW0]; simp
  clear hW0
  obtain ⟨r', hr'⟩ : ∃ r', (stopR rz).1 = r' := ⟨_, rfl⟩
  have HR' := Lib.hid hr'
  clear hr'
  refine (stop_is (i) (k := 9) HACT.out (HT.out.below HB0.out) HOK.out).mono ?_
  rintro e w1 ⟨rfl, hT1, hA1⟩
  have hp1 : ∀ j, w1.cell? ⟨w.heap.size, j, none⟩ = (#[.int .u8 d, .int .i64 i, .int .i64 x] : Array Value)[j]? := fun j => (World.cell?_of_block (w := W0) (a := ⟨w.heap.size, j, none⟩) (hA1.block _ (by show w.heap.size < _; omega) (by have := HG.out; show w.heap.size ≠ g; omega))).trans (hp0 j)
  have hr1 : ∀ j, w1.cell? ⟨w.heap.size + 1, j, none⟩ = (#[.int .i64 0, .int .i64 0, .int .i64 0, .int .i64 0, .int .i64 0, .int .i64 0, .bool false, .int .i64 0, .int .i64 0, .int .i64 0, .bool false, .int .i64 0, .int .i64 0] : Array Value)[j]? := fun j => (World.cell?_of_block (w := W0) (a := ⟨w.heap.size + 1, j, none⟩) (hA1.block _ (by show w.heap.size + 1 < _; omega) (by have := HG.out; show w.heap.size + 1 ≠ g; omega))).trans (hr0 j)
  have hs1 : w.heap.size + 1 < w1.heap.size := by have := hA1.size; omega
  have HT1 := Lib.hid hT1
  have HA1 : Hid (Apart w.heap.size w w1 g) := (Apart.of_below HB0.out (Nat.le_refl _)).trans (hA1.mono HB0.out.size)
  have hf1 : ∀ j, w1.frozen? ⟨w.heap.size + 1, j, none⟩ = false := fun j => (World.frozen?_of_block (w := W0) (a := ⟨w.heap.size + 1, j, none⟩) (hA1.block _ (by show w.heap.size + 1 < _; omega) (by have := HG.out; show w.heap.size + 1 ≠ g; omega))).trans (hf0 j)
  clear hp0 hr0 hs0 hT1 hA1 hf0
  go_wp2_with fail
  refine (rstop_any rz w1 rz_ok).mono ?_
  rw [HR'.out]
  unfold Rf.cells
  rintro e w2 ⟨rfl, hb2⟩
  have hp2 : ∀ j, w2.cell? ⟨w.heap.size, j, none⟩ = (#[.int .u8 d, .int .i64 i, .int .i64 x] : Array Value)[j]? := fun j => (hb2.cell (p := ⟨w.heap.size, j, none⟩) (by show w.heap.size < _; omega)).trans (hp1 j)
  have hr2 : ∀ j, w2.cell? ⟨w.heap.size + 1, j, none⟩ = (#[.int .i64 0, .int .i64 0, .int .i64 0, .int .i64 0, .int .i64 0, .int .i64 0, .bool false, .int .i64 0, .int .i64 0, .int .i64 0, .bool false, .int .i64 0, .int .i64 0] : Array Value)[j]? := fun j => (hb2.cell (p := ⟨w.heap.size + 1, j, none⟩) hs1).trans (hr1 j)
  have hf2 : ∀ j, w2.frozen? ⟨w.heap.size + 1, j, none⟩ = false := fun j => (hb2.frozen (p := ⟨w.heap.size + 1, j, none⟩) hs1).trans (hf1 j)
  have HP : Hid (DoPost w t g c n A (.returned (.tuple #[.slice (some A) n cc, .bool true])) (put13 w2 (w.heap.size + 1) 0 r')) := by
    have hpb : Below (w.heap.size + 1) w2 (put13 w2 (w.heap.size + 1) 0 r') := put13_below r' (Below.refl _ _) (Nat.le_refl _)
    have ha2 : Apart w.heap.size w w2 g := HA1.out.trans (Apart.of_below hb2 HA1.out.size)
    have hs2 := hb2.size
    have ha3 : Apart w.heap.size w (put13 w2 (w.heap.size + 1) 0 r') g := ha2.trans ⟨hpb.os, hpb.tape, hpb.output, hpb.size, fun i hi _ => hpb.block i (by omega)⟩
    have hT2 := HT1.out.below hb2
    exact ⟨A, cc, ps, rs, rfl, hT2.keep2 (hpb.block t (by have := HT.out.lt; omega)) (hpb.block g (by have := HG.out; omega)), HR.out.apart ha3 (fun hz b' o' e => by injection e with e; subst e; exact HNE.out hz), HREL.out, HOK.out, ha3, HN.out, .inl rfl⟩
  have hs2 : w.heap.size + 1 < w2.heap.size := by have := hb2.size; omega
  clear hp1 hr1 hf1 hs1 hb2
  go_wp2_with fail
  go_ret2
  exact HP.out

end Go.Proofs.Ytgnjenmicojgnaa
