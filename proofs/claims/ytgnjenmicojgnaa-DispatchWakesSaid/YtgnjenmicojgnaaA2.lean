/-
  What the functions handed to change (Done, Wait, Charge) do to one process, under their tests.
-/
import Derived.Test.YtgnjenmicojgnaaA1
import Derived.StillTailTactics
import Derived.IntWalk
import Derived.RegionTactic
import Derived.BigRegion
import Derived.Deep.QuietTactic
import Derived.BigQuiet
import Derived.Deep.RegionWith
namespace Go.Proofs.Ytgnjenmicojgnaa
set_option linter.unusedVariables false
set_option linter.unusedSimpArgs false
open Go.RowKit

set_option maxRecDepth 100000 in
set_option maxHeartbeats 400000 in
theorem done1_once (B g o : Nat) (now x : Int) (bx b : Nat) (p : Pr) (w : World) (hr : Row w g 86) (hB : B ≤ w.heap.size) (hb : w.cell? ⟨b, 0, none⟩ = some (.int .i64 now)) (hbg : b ≠ g) (hgb : g ≠ b) (hx : w.cell? ⟨bx, 0, none⟩ = some (.int .i64 x)) (hfx : w.frozen? ⟨bx, 0, none⟩ = false) (hBx : B ≤ bx) (hxg : bx ≠ g) (hgx : g ≠ bx) (hxy : bx ≠ b) (hyx : b ≠ bx) (h0 : p.per = 0) (hp : PrAt w g o p) :
    Calls Try.prog 58 #[.pointer (some ⟨g, o, none⟩), .pointer (some ⟨bx, 0, none⟩), .pointer (some ⟨b, 0, none⟩)] w fun e w' => e = .returned (.tuple #[]) ∧ Near B w w' g o ∧ PrAt w' g o { p with st := 0, held := false, base := 0, raised := 0, til := 0, beg := 0, used := 0, missed := false } ∧ w'.cell? ⟨bx, 0, none⟩ = some (.int .i64 (-1)) := by
  obtain ⟨c0, c1, c2, c3, c4, c5, c6, c7, c8, c9, c10, c11, c12⟩ := hp
  have hfz := hr.fz
  have hlt := hr.lt
  rw [h0] at c1
  go_enter Try.func58, Try.ntmps58
  go_wp2
  go_end0
  go_wp2
  first | go_end0 | refine bodyPost_ret (results_none rfl _ _ _) rfl ?_
  refine ⟨rfl, ?_, ?_, ?_⟩
  · repeat first | with_reducible exact Near.refl _ _ hlt | with_reducible refine Near.drew ?_ | with_reducible refine Near.drewN ?_ _ | with_reducible refine Near.set ?_ _ (by omega) _ | with_reducible refine Near.far ?_ (by assumption) (by assumption) _ | with_reducible refine Near.alloc ?_ hB _
  · constructor <;> simp [*, World.cell?_setCell_same', World.cell?_setCell_other]
  · simp [*, World.cell?_setCell_same', World.cell?_setCell_other]

set_option maxRecDepth 100000 in
set_option maxHeartbeats 400000 in
theorem done1_late (B g o : Nat) (now x : Int) (bx b : Nat) (p : Pr) (w : World) (hr : Row w g 86) (hB : B ≤ w.heap.size) (hb : w.cell? ⟨b, 0, none⟩ = some (.int .i64 now)) (hbg : b ≠ g) (hgb : g ≠ b) (hx : w.cell? ⟨bx, 0, none⟩ = some (.int .i64 x)) (hfx : w.frozen? ⟨bx, 0, none⟩ = false) (hBx : B ≤ bx) (hxg : bx ≠ g) (hgx : g ≠ bx) (hxy : bx ≠ b) (hyx : b ≠ bx) (h0 : p.per ≠ 0) (h1 : p.beg + p.per ≤ now) (hb1 : 0 ≤ p.beg ∧ p.beg ≤ 1099512676352) (hp1 : 0 ≤ p.per ∧ p.per ≤ 1048576) (hp : PrAt w g o p) :
    Calls Try.prog 58 #[.pointer (some ⟨g, o, none⟩), .pointer (some ⟨bx, 0, none⟩), .pointer (some ⟨b, 0, none⟩)] w fun e w' => e = .returned (.tuple #[]) ∧ Near B w w' g o ∧ PrAt w' g o { p with st := 1, beg := p.beg + p.per, used := 0, missed := false } ∧ w'.cell? ⟨bx, 0, none⟩ = some (.int .i64 (p.beg + p.per)) := by
  obtain ⟨c0, c1, c2, c3, c4, c5, c6, c7, c8, c9, c10, c11, c12⟩ := hp
  have hfz := hr.fz
  have hlt := hr.lt
  have h0b : (p.per == 0) = false := by simpa using h0
  obtain ⟨hb1, hb2⟩ := hb1
  obtain ⟨hp1, hp2⟩ := hp1
  go_enter Try.func58, Try.ntmps58
  go_wp2
  go_still_tail 11, (by kernel_rfl)
  change wpList _ _ _ _ _ w.drew
  go_wp2
  first | go_end0 | refine bodyPost_ret (results_none rfl _ _ _) rfl ?_
  go_wp2
  first | go_end0 | refine bodyPost_ret (results_none rfl _ _ _) rfl ?_
  refine ⟨rfl, ?_, ?_, ?_⟩
  · repeat first | with_reducible exact Near.refl _ _ hlt | with_reducible refine Near.drew ?_ | with_reducible refine Near.drewN ?_ _ | with_reducible refine Near.set ?_ _ (by omega) _ | with_reducible refine Near.far ?_ (by assumption) (by assumption) _ | with_reducible refine Near.alloc ?_ hB _
  · constructor <;> simp [*, World.cell?_setCell_same', World.cell?_setCell_other]
  · simp [*, World.cell?_setCell_same', World.cell?_setCell_other]

set_option maxRecDepth 100000 in
set_option maxHeartbeats 400000 in
theorem done1_rest (B g o : Nat) (now x : Int) (bx b : Nat) (p : Pr) (w : World) (hr : Row w g 86) (hB : B ≤ w.heap.size) (hb : w.cell? ⟨b, 0, none⟩ = some (.int .i64 now)) (hbg : b ≠ g) (hgb : g ≠ b) (hx : w.cell? ⟨bx, 0, none⟩ = some (.int .i64 x)) (hfx : w.frozen? ⟨bx, 0, none⟩ = false) (hBx : B ≤ bx) (hxg : bx ≠ g) (hgx : g ≠ bx) (hxy : bx ≠ b) (hyx : b ≠ bx) (h0 : p.per ≠ 0) (h1 : now < p.beg + p.per) (hb1 : 0 ≤ p.beg ∧ p.beg ≤ 1099512676352) (hp1 : 0 ≤ p.per ∧ p.per ≤ 1048576) (hp : PrAt w g o p) :
    Calls Try.prog 58 #[.pointer (some ⟨g, o, none⟩), .pointer (some ⟨bx, 0, none⟩), .pointer (some ⟨b, 0, none⟩)] w fun e w' => e = .returned (.tuple #[]) ∧ Near B w w' g o ∧ PrAt w' g o { p with st := 3, til := p.beg + p.per, beg := 0, used := 0, missed := false } ∧ w'.cell? ⟨bx, 0, none⟩ = some (.int .i64 (p.beg + p.per)) := by
  obtain ⟨c0, c1, c2, c3, c4, c5, c6, c7, c8, c9, c10, c11, c12⟩ := hp
  have hfz := hr.fz
  have hlt := hr.lt
  have h0b : (p.per == 0) = false := by simpa using h0
  obtain ⟨hb1, hb2⟩ := hb1
  obtain ⟨hp1, hp2⟩ := hp1
  go_enter Try.func58, Try.ntmps58
  go_wp2
  go_still_tail 11, (by kernel_rfl)
  change wpList _ _ _ _ _ w.drew
  go_wp2
  first | go_end0 | refine bodyPost_ret (results_none rfl _ _ _) rfl ?_
  go_wp2
  first | go_end0 | refine bodyPost_ret (results_none rfl _ _ _) rfl ?_
  refine ⟨rfl, ?_, ?_, ?_⟩
  · repeat first | with_reducible exact Near.refl _ _ hlt | with_reducible refine Near.drew ?_ | with_reducible refine Near.drewN ?_ _ | with_reducible refine Near.set ?_ _ (by omega) _ | with_reducible refine Near.far ?_ (by assumption) (by assumption) _ | with_reducible refine Near.alloc ?_ hB _
  · constructor <;> simp [*, World.cell?_setCell_same', World.cell?_setCell_other]
  · simp [*, World.cell?_setCell_same', World.cell?_setCell_other]

set_option maxRecDepth 100000 in
set_option maxHeartbeats 400000 in
theorem wait1 (B g o : Nat) (til : Int) (b : Nat) (p : Pr) (w : World) (hr : Row w g 86) (hB : B ≤ w.heap.size) (hb : w.cell? ⟨b, 0, none⟩ = some (.int .i64 til)) (hbg : b ≠ g) (hgb : g ≠ b) (hp : PrAt w g o p) :
    Calls Try.prog 89 #[.pointer (some ⟨g, o, none⟩), .pointer (some ⟨b, 0, none⟩)] w fun e w' => e = .returned (.tuple #[]) ∧ Near B w w' g o ∧ PrAt w' g o { p with st := 2, til := if til < -1 then -1 else til } := by
  obtain ⟨c0, c1, c2, c3, c4, c5, c6, c7, c8, c9, c10, c11, c12⟩ := hp
  have hfz := hr.fz
  have hlt := hr.lt
  go_enter Try.func89, Try.ntmps89
  go_wp2
  go_region
  go_end0
  refine ⟨rfl, ?_, ?_⟩
  · repeat first | with_reducible exact Near.refl _ _ hlt | with_reducible refine Near.drew ?_ | with_reducible refine Near.drewN ?_ _ | with_reducible refine Near.set ?_ _ (by omega) _ | with_reducible refine Near.far ?_ (by assumption) (by assumption) _ | with_reducible refine Near.alloc ?_ hB _
  · constructor <;> simp [*, World.cell?_setCell_same', World.cell?_setCell_other]

set_option maxRecDepth 100000 in
set_option maxHeartbeats 400000 in
theorem charge1_free_in (B g o : Nat) (n : Int) (x : Bool) (b bx : Nat) (p : Pr) (w : World) (hr : Row w g 86) (hB : B ≤ w.heap.size) (hb : w.cell? ⟨b, 0, none⟩ = some (.int .i64 n)) (hbg : b ≠ g) (hgb : g ≠ b) (hx : w.cell? ⟨bx, 0, none⟩ = some (.bool x)) (hfx : w.frozen? ⟨bx, 0, none⟩ = false) (hBx : B ≤ bx) (hxg : bx ≠ g) (hgx : g ≠ bx) (hxy : bx ≠ b) (hyx : b ≠ bx) (hn : 0 ≤ n ∧ n ≤ 1099511627776) (hu : 0 ≤ p.used ∧ p.used ≤ 1099511627776) (h0 : ¬ 0 < p.cap) (h1 : p.used + n ≤ 1099511627776) (hp : PrAt w g o p) :
    Calls Try.prog 61 #[.pointer (some ⟨g, o, none⟩), .pointer (some ⟨b, 0, none⟩), .pointer (some ⟨bx, 0, none⟩)] w fun e w' => e = .returned (.tuple #[]) ∧ Near B w w' g o ∧ PrAt w' g o { p with used := (p.used + n) } ∧ w'.cell? ⟨bx, 0, none⟩ = some (.bool false) := by
  obtain ⟨c0, c1, c2, c3, c4, c5, c6, c7, c8, c9, c10, c11, c12⟩ := hp
  have hfz := hr.fz
  have hlt := hr.lt
  obtain ⟨hn1, hn2⟩ := hn
  obtain ⟨hu1, hu2⟩ := hu
  have hw64 : IntKind.i64.wrap (p.used + n) = p.used + n := IntWalk.i64_in _ (by omega)
  have h0b : decide (0 < p.cap) = false := by simpa using h0
  go_enter Try.func61, Try.ntmps61
  go_wp2
  go_still_tail 12, (by kernel_rfl)
  change wpList _ _ _ _ _ w.drew
  go_wp2
  have k1 : Near B w ((w.setCell ⟨g, o + 10 + 1, none⟩ (.int .i64 (p.used + n))).drew) g o := by repeat first | with_reducible exact Near.refl _ _ hlt | with_reducible refine Near.drew ?_ | with_reducible refine Near.drewN ?_ _ | with_reducible refine Near.set ?_ _ (by omega) _ | with_reducible refine Near.far ?_ (by assumption) (by assumption) _ | with_reducible refine Near.alloc ?_ hB _
  have k2 : PrAt ((w.setCell ⟨g, o + 10 + 1, none⟩ (.int .i64 (p.used + n))).drew) g o { p with used := (p.used + n) } := by constructor <;> simp [*, World.cell?_setCell_same', World.cell?_setCell_other]
  have k3 : ((w.setCell ⟨g, o + 10 + 1, none⟩ (.int .i64 (p.used + n))).drew).cell? ⟨bx, 0, none⟩ = some (.bool x) := by simp [*, World.cell?_setCell_other]
  have k4 : ((w.setCell ⟨g, o + 10 + 1, none⟩ (.int .i64 (p.used + n))).drew).frozen? ⟨bx, 0, none⟩ = false := by simp [*]
  clear hw64 c0 c1 c2 c3 c4 c5 c6 c7 c8 c9 c10 c11 c12 hb hfz hx hfx
  generalize (w.setCell ⟨g, o + 10 + 1, none⟩ (.int .i64 (p.used + n))).drew = w1 at *
  obtain ⟨c0, c1, c2, c3, c4, c5, c6, c7, c8, c9, c10, c11, c12⟩ := k2
  dsimp only at c0 c1 c2 c3 c4 c5 c6 c7 c8 c9 c10 c11 c12
  have hfz := (k1.row _ _ hr).fz
  have hl1 : g < w1.heap.size := (k1.row _ _ hr).lt
  go_region
  first | go_end0 | refine bodyPost_ret (results_none rfl _ _ _) rfl ?_
  refine ⟨rfl, ?_, ?_, ?_⟩
  · refine Near.trans k1 ?_
    repeat first | with_reducible exact Near.refl _ _ hl1 | with_reducible refine Near.drew ?_ | with_reducible refine Near.drewN ?_ _ | with_reducible refine Near.set ?_ _ (by omega) _ | with_reducible refine Near.far ?_ (by assumption) (by assumption) _ | with_reducible refine Near.alloc ?_ (Nat.le_trans hB k1.size) _
  · constructor <;> simp [*, World.cell?_setCell_same', World.cell?_setCell_other]
  · simp [*, World.cell?_setCell_same', World.cell?_setCell_other]

set_option maxRecDepth 100000 in
set_option maxHeartbeats 400000 in
theorem charge1_free_out (B g o : Nat) (n : Int) (x : Bool) (b bx : Nat) (p : Pr) (w : World) (hr : Row w g 86) (hB : B ≤ w.heap.size) (hb : w.cell? ⟨b, 0, none⟩ = some (.int .i64 n)) (hbg : b ≠ g) (hgb : g ≠ b) (hx : w.cell? ⟨bx, 0, none⟩ = some (.bool x)) (hfx : w.frozen? ⟨bx, 0, none⟩ = false) (hBx : B ≤ bx) (hxg : bx ≠ g) (hgx : g ≠ bx) (hxy : bx ≠ b) (hyx : b ≠ bx) (hn : 0 ≤ n ∧ n ≤ 1099511627776) (hu : 0 ≤ p.used ∧ p.used ≤ 1099511627776) (h0 : ¬ 0 < p.cap) (h1 : 1099511627776 < p.used + n) (hp : PrAt w g o p) :
    Calls Try.prog 61 #[.pointer (some ⟨g, o, none⟩), .pointer (some ⟨b, 0, none⟩), .pointer (some ⟨bx, 0, none⟩)] w fun e w' => e = .returned (.tuple #[]) ∧ Near B w w' g o ∧ PrAt w' g o { p with used := 1099511627776 } ∧ w'.cell? ⟨bx, 0, none⟩ = some (.bool false) := by
  obtain ⟨c0, c1, c2, c3, c4, c5, c6, c7, c8, c9, c10, c11, c12⟩ := hp
  have hfz := hr.fz
  have hlt := hr.lt
  obtain ⟨hn1, hn2⟩ := hn
  obtain ⟨hu1, hu2⟩ := hu
  have hw64 : IntKind.i64.wrap (p.used + n) = p.used + n := IntWalk.i64_in _ (by omega)
  have h0b : decide (0 < p.cap) = false := by simpa using h0
  go_enter Try.func61, Try.ntmps61
  go_wp2
  go_still_tail 12, (by kernel_rfl)
  change wpList _ _ _ _ _ w.drew
  go_wp2
  have k1 : Near B w ((w.setCell ⟨g, o + 10 + 1, none⟩ (.int .i64 1099511627776)).drew) g o := by repeat first | with_reducible exact Near.refl _ _ hlt | with_reducible refine Near.drew ?_ | with_reducible refine Near.drewN ?_ _ | with_reducible refine Near.set ?_ _ (by omega) _ | with_reducible refine Near.far ?_ (by assumption) (by assumption) _ | with_reducible refine Near.alloc ?_ hB _
  have k2 : PrAt ((w.setCell ⟨g, o + 10 + 1, none⟩ (.int .i64 1099511627776)).drew) g o { p with used := 1099511627776 } := by constructor <;> simp [*, World.cell?_setCell_same', World.cell?_setCell_other]
  have k3 : ((w.setCell ⟨g, o + 10 + 1, none⟩ (.int .i64 1099511627776)).drew).cell? ⟨bx, 0, none⟩ = some (.bool x) := by simp [*, World.cell?_setCell_other]
  have k4 : ((w.setCell ⟨g, o + 10 + 1, none⟩ (.int .i64 1099511627776)).drew).frozen? ⟨bx, 0, none⟩ = false := by simp [*]
  clear hw64 c0 c1 c2 c3 c4 c5 c6 c7 c8 c9 c10 c11 c12 hb hfz hx hfx
  generalize (w.setCell ⟨g, o + 10 + 1, none⟩ (.int .i64 1099511627776)).drew = w1 at *
  obtain ⟨c0, c1, c2, c3, c4, c5, c6, c7, c8, c9, c10, c11, c12⟩ := k2
  dsimp only at c0 c1 c2 c3 c4 c5 c6 c7 c8 c9 c10 c11 c12
  have hfz := (k1.row _ _ hr).fz
  have hl1 : g < w1.heap.size := (k1.row _ _ hr).lt
  go_region
  first | go_end0 | refine bodyPost_ret (results_none rfl _ _ _) rfl ?_
  refine ⟨rfl, ?_, ?_, ?_⟩
  · refine Near.trans k1 ?_
    repeat first | with_reducible exact Near.refl _ _ hl1 | with_reducible refine Near.drew ?_ | with_reducible refine Near.drewN ?_ _ | with_reducible refine Near.set ?_ _ (by omega) _ | with_reducible refine Near.far ?_ (by assumption) (by assumption) _ | with_reducible refine Near.alloc ?_ (Nat.le_trans hB k1.size) _
  · constructor <;> simp [*, World.cell?_setCell_same', World.cell?_setCell_other]
  · simp [*, World.cell?_setCell_same', World.cell?_setCell_other]

set_option maxRecDepth 100000 in
set_option maxHeartbeats 400000 in
theorem charge1_cap_in (B g o : Nat) (n : Int) (x : Bool) (b bx : Nat) (p : Pr) (w : World) (hr : Row w g 86) (hB : B ≤ w.heap.size) (hb : w.cell? ⟨b, 0, none⟩ = some (.int .i64 n)) (hbg : b ≠ g) (hgb : g ≠ b) (hx : w.cell? ⟨bx, 0, none⟩ = some (.bool x)) (hfx : w.frozen? ⟨bx, 0, none⟩ = false) (hBx : B ≤ bx) (hxg : bx ≠ g) (hgx : g ≠ bx) (hxy : bx ≠ b) (hyx : b ≠ bx) (hn : 0 ≤ n ∧ n ≤ 1099511627776) (hu : 0 ≤ p.used ∧ p.used ≤ 1099511627776) (h0 : 0 < p.cap) (h1 : p.used + n ≤ 1099511627776) (hp : PrAt w g o p) :
    Calls Try.prog 61 #[.pointer (some ⟨g, o, none⟩), .pointer (some ⟨b, 0, none⟩), .pointer (some ⟨bx, 0, none⟩)] w fun e w' => e = .returned (.tuple #[]) ∧ Near B w w' g o ∧ PrAt w' g o { p with used := (p.used + n) } ∧ w'.cell? ⟨bx, 0, none⟩ = some (.bool (decide (p.cap < p.used + n))) := by
  obtain ⟨c0, c1, c2, c3, c4, c5, c6, c7, c8, c9, c10, c11, c12⟩ := hp
  have hfz := hr.fz
  have hlt := hr.lt
  obtain ⟨hn1, hn2⟩ := hn
  obtain ⟨hu1, hu2⟩ := hu
  have hw64 : IntKind.i64.wrap (p.used + n) = p.used + n := IntWalk.i64_in _ (by omega)
  go_enter Try.func61, Try.ntmps61
  go_wp2
  go_still_tail 12, (by kernel_rfl)
  change wpList _ _ _ _ _ w.drew
  go_wp2
  have k1 : Near B w ((w.setCell ⟨g, o + 10 + 1, none⟩ (.int .i64 (p.used + n))).drew) g o := by repeat first | with_reducible exact Near.refl _ _ hlt | with_reducible refine Near.drew ?_ | with_reducible refine Near.drewN ?_ _ | with_reducible refine Near.set ?_ _ (by omega) _ | with_reducible refine Near.far ?_ (by assumption) (by assumption) _ | with_reducible refine Near.alloc ?_ hB _
  have k2 : PrAt ((w.setCell ⟨g, o + 10 + 1, none⟩ (.int .i64 (p.used + n))).drew) g o { p with used := (p.used + n) } := by constructor <;> simp [*, World.cell?_setCell_same', World.cell?_setCell_other]
  have k3 : ((w.setCell ⟨g, o + 10 + 1, none⟩ (.int .i64 (p.used + n))).drew).cell? ⟨bx, 0, none⟩ = some (.bool x) := by simp [*, World.cell?_setCell_other]
  have k4 : ((w.setCell ⟨g, o + 10 + 1, none⟩ (.int .i64 (p.used + n))).drew).frozen? ⟨bx, 0, none⟩ = false := by simp [*]
  clear hw64 c0 c1 c2 c3 c4 c5 c6 c7 c8 c9 c10 c11 c12 hb hfz hx hfx
  generalize (w.setCell ⟨g, o + 10 + 1, none⟩ (.int .i64 (p.used + n))).drew = w1 at *
  obtain ⟨c0, c1, c2, c3, c4, c5, c6, c7, c8, c9, c10, c11, c12⟩ := k2
  dsimp only at c0 c1 c2 c3 c4 c5 c6 c7 c8 c9 c10 c11 c12
  have hfz := (k1.row _ _ hr).fz
  have hl1 : g < w1.heap.size := (k1.row _ _ hr).lt
  go_still_tail 19, (by kernel_rfl)
  change wpList _ _ _ _ _ w1.drew
  go_wp2
  first | go_end0 | refine bodyPost_ret (results_none rfl _ _ _) rfl ?_
  refine ⟨rfl, ?_, ?_, ?_⟩
  · refine Near.trans k1 ?_
    repeat first | with_reducible exact Near.refl _ _ hl1 | with_reducible refine Near.drew ?_ | with_reducible refine Near.drewN ?_ _ | with_reducible refine Near.set ?_ _ (by omega) _ | with_reducible refine Near.far ?_ (by assumption) (by assumption) _ | with_reducible refine Near.alloc ?_ (Nat.le_trans hB k1.size) _
  · constructor <;> simp [*, World.cell?_setCell_same', World.cell?_setCell_other]
  · simp [*, World.cell?_setCell_same', World.cell?_setCell_other]

set_option maxRecDepth 100000 in
set_option maxHeartbeats 400000 in
theorem charge1_cap_out (B g o : Nat) (n : Int) (x : Bool) (b bx : Nat) (p : Pr) (w : World) (hr : Row w g 86) (hB : B ≤ w.heap.size) (hb : w.cell? ⟨b, 0, none⟩ = some (.int .i64 n)) (hbg : b ≠ g) (hgb : g ≠ b) (hx : w.cell? ⟨bx, 0, none⟩ = some (.bool x)) (hfx : w.frozen? ⟨bx, 0, none⟩ = false) (hBx : B ≤ bx) (hxg : bx ≠ g) (hgx : g ≠ bx) (hxy : bx ≠ b) (hyx : b ≠ bx) (hn : 0 ≤ n ∧ n ≤ 1099511627776) (hu : 0 ≤ p.used ∧ p.used ≤ 1099511627776) (h0 : 0 < p.cap) (h1 : 1099511627776 < p.used + n) (hp : PrAt w g o p) :
    Calls Try.prog 61 #[.pointer (some ⟨g, o, none⟩), .pointer (some ⟨b, 0, none⟩), .pointer (some ⟨bx, 0, none⟩)] w fun e w' => e = .returned (.tuple #[]) ∧ Near B w w' g o ∧ PrAt w' g o { p with used := 1099511627776 } ∧ w'.cell? ⟨bx, 0, none⟩ = some (.bool (decide (p.cap < 1099511627776))) := by
  obtain ⟨c0, c1, c2, c3, c4, c5, c6, c7, c8, c9, c10, c11, c12⟩ := hp
  have hfz := hr.fz
  have hlt := hr.lt
  obtain ⟨hn1, hn2⟩ := hn
  obtain ⟨hu1, hu2⟩ := hu
  have hw64 : IntKind.i64.wrap (p.used + n) = p.used + n := IntWalk.i64_in _ (by omega)
  go_enter Try.func61, Try.ntmps61
  go_wp2
  go_still_tail 12, (by kernel_rfl)
  change wpList _ _ _ _ _ w.drew
  go_wp2
  have k1 : Near B w ((w.setCell ⟨g, o + 10 + 1, none⟩ (.int .i64 1099511627776)).drew) g o := by repeat first | with_reducible exact Near.refl _ _ hlt | with_reducible refine Near.drew ?_ | with_reducible refine Near.drewN ?_ _ | with_reducible refine Near.set ?_ _ (by omega) _ | with_reducible refine Near.far ?_ (by assumption) (by assumption) _ | with_reducible refine Near.alloc ?_ hB _
  have k2 : PrAt ((w.setCell ⟨g, o + 10 + 1, none⟩ (.int .i64 1099511627776)).drew) g o { p with used := 1099511627776 } := by constructor <;> simp [*, World.cell?_setCell_same', World.cell?_setCell_other]
  have k3 : ((w.setCell ⟨g, o + 10 + 1, none⟩ (.int .i64 1099511627776)).drew).cell? ⟨bx, 0, none⟩ = some (.bool x) := by simp [*, World.cell?_setCell_other]
  have k4 : ((w.setCell ⟨g, o + 10 + 1, none⟩ (.int .i64 1099511627776)).drew).frozen? ⟨bx, 0, none⟩ = false := by simp [*]
  clear hw64 c0 c1 c2 c3 c4 c5 c6 c7 c8 c9 c10 c11 c12 hb hfz hx hfx
  generalize (w.setCell ⟨g, o + 10 + 1, none⟩ (.int .i64 1099511627776)).drew = w1 at *
  obtain ⟨c0, c1, c2, c3, c4, c5, c6, c7, c8, c9, c10, c11, c12⟩ := k2
  dsimp only at c0 c1 c2 c3 c4 c5 c6 c7 c8 c9 c10 c11 c12
  have hfz := (k1.row _ _ hr).fz
  have hl1 : g < w1.heap.size := (k1.row _ _ hr).lt
  go_still_tail 19, (by kernel_rfl)
  change wpList _ _ _ _ _ w1.drew
  go_wp2
  first | go_end0 | refine bodyPost_ret (results_none rfl _ _ _) rfl ?_
  refine ⟨rfl, ?_, ?_, ?_⟩
  · refine Near.trans k1 ?_
    repeat first | with_reducible exact Near.refl _ _ hl1 | with_reducible refine Near.drew ?_ | with_reducible refine Near.drewN ?_ _ | with_reducible refine Near.set ?_ _ (by omega) _ | with_reducible refine Near.far ?_ (by assumption) (by assumption) _ | with_reducible refine Near.alloc ?_ (Nat.le_trans hB k1.size) _
  · constructor <;> simp [*, World.cell?_setCell_same', World.cell?_setCell_other]
  · simp [*, World.cell?_setCell_same', World.cell?_setCell_other]

end Go.Proofs.Ytgnjenmicojgnaa
