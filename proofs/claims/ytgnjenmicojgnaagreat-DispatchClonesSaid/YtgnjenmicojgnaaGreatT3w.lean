/-
  What until, call and ask of the statements do.
-/
import Derived.Test.YtgnjenmicojgnaaGreatT1w
namespace Go.Proofs.YtgnjenmicojgnaaGreat
set_option linter.unusedVariables false
set_option linter.unusedSimpArgs false
open Go.RowKit

def untV (n now : Int) : Int := if n < 0 ∨ 40 < n then n else now + n % 8

set_option maxRecDepth 100000 in
set_option maxHeartbeats 1000000 in
theorem until20_any (k i n b now : Int) (w : World) (h0 : 0 ≤ now) (h1 : now ≤ 1000) :
    Calls Tryz.prog 91 #[.agg #[.int .i64 k, .int .i64 i, .int .i64 n, .int .i64 b], .int .i64 now] w fun e w' => e = .returned (.int .i64 (untV n now)) ∧ Below w.heap.size w w' := by
  obtain ⟨v, hv⟩ : ∃ v, untV n now = v := ⟨_, rfl⟩
  rw [hv]
  unfold untV at hv
  by_cases hn0 : n < 0
  · have HV : Hid (n = v) := by rw [if_pos (.inl hn0)] at hv; exact hv
    clear hv
    go_enter Tryz.func91, Tryz.ntmps91
    go_wp2
    go_ret
    exact ⟨ret_int HV.out, (Below.refl _ _).alloc (Nat.le_refl _) _⟩
  · by_cases hn1 : 40 < n
    · have HV : Hid (n = v) := by rw [if_pos (.inr hn1)] at hv; exact hv
      clear hv
      go_enter Tryz.func91, Tryz.ntmps91
      go_wp2
      go_ret
      exact ⟨ret_int HV.out, (Below.refl _ _).alloc (Nat.le_refl _) _⟩
    · have HV : Hid (now + n % 8 = v) := by rw [if_neg (by omega)] at hv; exact hv
      have hm0 : 0 ≤ n % 8 := by omega
      have hm1 : n % 8 < 8 := by omega
      have hn0' : 0 ≤ n := by omega
      clear hv
      go_enter Tryz.func91, Tryz.ntmps91
      go_wp2
      go_ret
      exact ⟨ret_int HV.out, (Below.refl _ _).alloc (Nat.le_refl _) _⟩

def kAct (k : Nat) (n now : Int) (ps : List Pr) (i : Int) : List Pr × Int :=
  match k with
  | 0 => act (startF now) (tickB now) ps i
  | 1 => act stopF true ps i
  | 2 => act suspF true ps i
  | 3 => act resuF true ps i
  | 4 => act (waitF (untV n now)) (decide (untV n now ≤ 1099511627776)) ps i
  | 5 => act wakeF true ps i
  | _ => act (doneF now) (tickB now) ps i

theorem Wld.tabc {w w1 : World} {x t g c : Nat} {vE vD : Value} {ps : List Pr} {E D : List (Int × Int)} {now : Int} (h : Wld w x t g c vE vD ps E D now) (ha : Apart w.heap.size w w1 g) :
    w1.cell? ⟨x, 0, none⟩ = some (.pointer (some ⟨t, 0, none⟩)) ∧ w1.cell? ⟨x, 1, none⟩ = some vE ∧ w1.cell? ⟨x, 2, none⟩ = some vD ∧ w1.cell? ⟨x, 3, none⟩ = some (.int .i64 now) := by
  have hc : ∀ j, w1.cell? ⟨x, j, none⟩ = w.cell? ⟨x, j, none⟩ := fun j => World.cell?_of_block (a := ⟨x, j, none⟩) (ha.block x h.xl h.xg)
  exact ⟨(hc 0).trans h.c0, (hc 1).trans h.c1, (hc 2).trans h.c2, (hc 3).trans h.c3⟩

def CallW (w : World) (x t g c : Nat) (vE vD : Value) (E D : List (Int × Int)) (now : Int) (o : List Pr × Int) : Ending → World → Prop := WPost w x t g c vE vD o.1 E D now (.int .i64 o.2)

theorem callW {w w1 : World} {x t g c : Nat} {vE vD : Value} {ps ps' : List Pr} {E D : List (Int × Int)} {now y : Int} (h : Wld w x t g c vE vD ps E D now) (hT : Tab w1 t g c ps') (hok : ∀ p, p ∈ ps' → p.Ok) (hA : Apart w.heap.size w w1 g) :
    CallW w x t g c vE vD E D now (ps', y) (.returned (.int .i64 y)) w1 :=
  ⟨rfl, vE, vD, h.tab hT hok hA, hA.kept.mono (fun i _ e => .inr e), fun b hb => .inl hb, fun b hb => .inl hb⟩

set_option maxRecDepth 100000 in
set_option maxHeartbeats 2000000 in
theorem call0_any {w : World} {x t g c : Nat} {vE vD : Value} {ps : List Pr} {E D : List (Int × Int)} {now : Int} (h : Wld w x t g c vE vD ps E D now) (kk ii n b i : Int) (h0 : 0 ≤ now) (h1 : now ≤ 1000) :
    Calls Tryz.prog 45 #[.pointer (some ⟨x, 0, none⟩), .agg #[.int .i64 kk, .int .i64 ii, .int .i64 n, .int .i64 b], .int .i64 0, .int .i64 i] w (CallW w x t g c vE vD E D now (kAct 0 n now ps i)) := by
  obtain ⟨⟨ps', y⟩, hact⟩ : ∃ o, kAct 0 n now ps i = o := ⟨_, rfl⟩
  rw [hact]
  unfold kAct at hact
  simp only at hact
  have hok : ∀ p, p ∈ ps' → p.Ok := by
    have := act_ok (keeps_start now) h.ok i
    rw [hact] at this
    exact this
  have HOK := Lib.hid hok
  have HACT := Lib.hid hact
  have hba := (Below.refl w.heap.size w).alloc (Nat.le_refl _) (.cells #[.int .i64 kk, .int .i64 ii, .int .i64 n, .int .i64 b] 32)
  have c0 := (h.below hba).c0
  have c3 := (h.below hba).c3
  have hxl := (h.below hba).xl
  have H := Lib.hid h
  have HB := Lib.hid hba
  have HW := Lib.hid (h.below hba)
  have HEND : Hid (∀ w1, Tab w1 t g c ps' → Apart (w.alloc (.cells #[.int .i64 kk, .int .i64 ii, .int .i64 n, .int .i64 b] 32)).heap.size (w.alloc (.cells #[.int .i64 kk, .int .i64 ii, .int .i64 n, .int .i64 b] 32)) w1 g → CallW w x t g c vE vD E D now (ps', y) (.returned (.int .i64 y)) w1) := fun w1 hT hA => WPost.after HB.out (callW HW.out hT HOK.out hA)
  clear h hok hact hba
  go_enter Tryz.func45, Tryz.ntmps45
  obtain ⟨W0, hW0⟩ : ∃ W0, W0 = w.alloc (.cells #[.int .i64 kk, .int .i64 ii, .int .i64 n, .int .i64 b] 32) := ⟨_, rfl⟩
  go_wp2_with fail
  rw [← hW0] at HW HB HEND c0 c3 hxl ⊢
  clear hW0
  go_region_held (fun w' => w'.cell? ⟨x, 0, none⟩ = some (.pointer (some ⟨t, 0, none⟩)) ∧ w'.cell? ⟨x, 3, none⟩ = some (.int .i64 now)) (first | (exact ⟨c0, c3⟩) | (exact ⟨f0, f3⟩))
    (first | (go_at_call 70; refine (start_is i now HACT.out (HW.out.below (Below.refl _ _).drew).T HW.out.ok).mono ?_; rintro e w1 ⟨rfl, hT1, hA1⟩; obtain ⟨f0, -, -, f3⟩ := (HW.out.below (Below.refl _ _).drew).tabc hA1))
  have HP := Lib.hid (HEND.out w1 hT1 ((Apart.of_below ((Below.refl _ _).drew) (Nat.le_refl _)).trans hA1))
  clear hT1 hA1
  go_wp2
  go_ret
  exact HP.out

set_option maxRecDepth 100000 in
set_option maxHeartbeats 2000000 in
theorem call1_any {w : World} {x t g c : Nat} {vE vD : Value} {ps : List Pr} {E D : List (Int × Int)} {now : Int} (h : Wld w x t g c vE vD ps E D now) (kk ii n b i : Int) (h0 : 0 ≤ now) (h1 : now ≤ 1000) :
    Calls Tryz.prog 45 #[.pointer (some ⟨x, 0, none⟩), .agg #[.int .i64 kk, .int .i64 ii, .int .i64 n, .int .i64 b], .int .i64 1, .int .i64 i] w (CallW w x t g c vE vD E D now (kAct 1 n now ps i)) := by
  obtain ⟨⟨ps', y⟩, hact⟩ : ∃ o, kAct 1 n now ps i = o := ⟨_, rfl⟩
  rw [hact]
  unfold kAct at hact
  simp only at hact
  have hok : ∀ p, p ∈ ps' → p.Ok := by
    have := act_ok keeps_stop h.ok i
    rw [hact] at this
    exact this
  have HOK := Lib.hid hok
  have HACT := Lib.hid hact
  have hba := (Below.refl w.heap.size w).alloc (Nat.le_refl _) (.cells #[.int .i64 kk, .int .i64 ii, .int .i64 n, .int .i64 b] 32)
  have c0 := (h.below hba).c0
  have c3 := (h.below hba).c3
  have hxl := (h.below hba).xl
  have H := Lib.hid h
  have HB := Lib.hid hba
  have HW := Lib.hid (h.below hba)
  have HEND : Hid (∀ w1, Tab w1 t g c ps' → Apart (w.alloc (.cells #[.int .i64 kk, .int .i64 ii, .int .i64 n, .int .i64 b] 32)).heap.size (w.alloc (.cells #[.int .i64 kk, .int .i64 ii, .int .i64 n, .int .i64 b] 32)) w1 g → CallW w x t g c vE vD E D now (ps', y) (.returned (.int .i64 y)) w1) := fun w1 hT hA => WPost.after HB.out (callW HW.out hT HOK.out hA)
  clear h hok hact hba
  go_enter Tryz.func45, Tryz.ntmps45
  go_wp2_with fail
  refine (stop_is i HACT.out HW.out.T HW.out.ok).mono ?_
  rintro e w1 ⟨rfl, hT1, hA1⟩
  have HP := Lib.hid (HEND.out w1 hT1 hA1)
  clear hT1 hA1
  go_wp2
  go_ret
  exact HP.out

set_option maxRecDepth 100000 in
set_option maxHeartbeats 2000000 in
theorem call2_any {w : World} {x t g c : Nat} {vE vD : Value} {ps : List Pr} {E D : List (Int × Int)} {now : Int} (h : Wld w x t g c vE vD ps E D now) (kk ii n b i : Int) (h0 : 0 ≤ now) (h1 : now ≤ 1000) :
    Calls Tryz.prog 45 #[.pointer (some ⟨x, 0, none⟩), .agg #[.int .i64 kk, .int .i64 ii, .int .i64 n, .int .i64 b], .int .i64 2, .int .i64 i] w (CallW w x t g c vE vD E D now (kAct 2 n now ps i)) := by
  obtain ⟨⟨ps', y⟩, hact⟩ : ∃ o, kAct 2 n now ps i = o := ⟨_, rfl⟩
  rw [hact]
  unfold kAct at hact
  simp only at hact
  have hok : ∀ p, p ∈ ps' → p.Ok := by
    have := act_ok keeps_susp h.ok i
    rw [hact] at this
    exact this
  have HOK := Lib.hid hok
  have HACT := Lib.hid hact
  have hba := (Below.refl w.heap.size w).alloc (Nat.le_refl _) (.cells #[.int .i64 kk, .int .i64 ii, .int .i64 n, .int .i64 b] 32)
  have c0 := (h.below hba).c0
  have c3 := (h.below hba).c3
  have hxl := (h.below hba).xl
  have H := Lib.hid h
  have HB := Lib.hid hba
  have HW := Lib.hid (h.below hba)
  have HEND : Hid (∀ w1, Tab w1 t g c ps' → Apart (w.alloc (.cells #[.int .i64 kk, .int .i64 ii, .int .i64 n, .int .i64 b] 32)).heap.size (w.alloc (.cells #[.int .i64 kk, .int .i64 ii, .int .i64 n, .int .i64 b] 32)) w1 g → CallW w x t g c vE vD E D now (ps', y) (.returned (.int .i64 y)) w1) := fun w1 hT hA => WPost.after HB.out (callW HW.out hT HOK.out hA)
  clear h hok hact hba
  go_enter Tryz.func45, Tryz.ntmps45
  go_wp2_with fail
  refine (susp_is i HACT.out HW.out.T HW.out.ok).mono ?_
  rintro e w1 ⟨rfl, hT1, hA1⟩
  have HP := Lib.hid (HEND.out w1 hT1 hA1)
  clear hT1 hA1
  go_wp2
  go_ret
  exact HP.out

set_option maxRecDepth 100000 in
set_option maxHeartbeats 2000000 in
theorem call3_any {w : World} {x t g c : Nat} {vE vD : Value} {ps : List Pr} {E D : List (Int × Int)} {now : Int} (h : Wld w x t g c vE vD ps E D now) (kk ii n b i : Int) (h0 : 0 ≤ now) (h1 : now ≤ 1000) :
    Calls Tryz.prog 45 #[.pointer (some ⟨x, 0, none⟩), .agg #[.int .i64 kk, .int .i64 ii, .int .i64 n, .int .i64 b], .int .i64 3, .int .i64 i] w (CallW w x t g c vE vD E D now (kAct 3 n now ps i)) := by
  obtain ⟨⟨ps', y⟩, hact⟩ : ∃ o, kAct 3 n now ps i = o := ⟨_, rfl⟩
  rw [hact]
  unfold kAct at hact
  simp only at hact
  have hok : ∀ p, p ∈ ps' → p.Ok := by
    have := act_ok keeps_resu h.ok i
    rw [hact] at this
    exact this
  have HOK := Lib.hid hok
  have HACT := Lib.hid hact
  have hba := (Below.refl w.heap.size w).alloc (Nat.le_refl _) (.cells #[.int .i64 kk, .int .i64 ii, .int .i64 n, .int .i64 b] 32)
  have c0 := (h.below hba).c0
  have c3 := (h.below hba).c3
  have hxl := (h.below hba).xl
  have H := Lib.hid h
  have HB := Lib.hid hba
  have HW := Lib.hid (h.below hba)
  have HEND : Hid (∀ w1, Tab w1 t g c ps' → Apart (w.alloc (.cells #[.int .i64 kk, .int .i64 ii, .int .i64 n, .int .i64 b] 32)).heap.size (w.alloc (.cells #[.int .i64 kk, .int .i64 ii, .int .i64 n, .int .i64 b] 32)) w1 g → CallW w x t g c vE vD E D now (ps', y) (.returned (.int .i64 y)) w1) := fun w1 hT hA => WPost.after HB.out (callW HW.out hT HOK.out hA)
  clear h hok hact hba
  go_enter Tryz.func45, Tryz.ntmps45
  go_wp2_with fail
  refine (resu_is i HACT.out HW.out.T HW.out.ok).mono ?_
  rintro e w1 ⟨rfl, hT1, hA1⟩
  have HP := Lib.hid (HEND.out w1 hT1 hA1)
  clear hT1 hA1
  go_wp2
  go_ret
  exact HP.out

set_option maxRecDepth 100000 in
set_option maxHeartbeats 2000000 in
theorem call4_any {w : World} {x t g c : Nat} {vE vD : Value} {ps : List Pr} {E D : List (Int × Int)} {now : Int} (h : Wld w x t g c vE vD ps E D now) (kk ii n b i : Int) (h0 : 0 ≤ now) (h1 : now ≤ 1000) :
    Calls Tryz.prog 45 #[.pointer (some ⟨x, 0, none⟩), .agg #[.int .i64 kk, .int .i64 ii, .int .i64 n, .int .i64 b], .int .i64 4, .int .i64 i] w (CallW w x t g c vE vD E D now (kAct 4 n now ps i)) := by
  obtain ⟨⟨ps', y⟩, hact⟩ : ∃ o, kAct 4 n now ps i = o := ⟨_, rfl⟩
  rw [hact]
  unfold kAct at hact
  simp only at hact
  have hok : ∀ p, p ∈ ps' → p.Ok := by
    have := act_ok (keeps_wait (untV n now)) h.ok i
    rw [hact] at this
    exact this
  have HOK := Lib.hid hok
  have HACT := Lib.hid hact
  have hba := (Below.refl w.heap.size w).alloc (Nat.le_refl _) (.cells #[.int .i64 kk, .int .i64 ii, .int .i64 n, .int .i64 b] 32)
  have c0 := (h.below hba).c0
  have c3 := (h.below hba).c3
  have hxl := (h.below hba).xl
  have H := Lib.hid h
  have HB := Lib.hid hba
  have HW := Lib.hid (h.below hba)
  have HEND : Hid (∀ w1, Tab w1 t g c ps' → Apart (w.alloc (.cells #[.int .i64 kk, .int .i64 ii, .int .i64 n, .int .i64 b] 32)).heap.size (w.alloc (.cells #[.int .i64 kk, .int .i64 ii, .int .i64 n, .int .i64 b] 32)) w1 g → CallW w x t g c vE vD E D now (ps', y) (.returned (.int .i64 y)) w1) := fun w1 hT hA => WPost.after HB.out (callW HW.out hT HOK.out hA)
  clear h hok hact hba
  go_enter Tryz.func45, Tryz.ntmps45
  obtain ⟨uv, huv⟩ : ∃ uv, untV n now = uv := ⟨_, rfl⟩
  rw [huv] at HACT
  have HUV := Lib.hid huv
  clear huv
  have HUN : Hid (∀ W, Calls Tryz.prog 91 #[.agg #[.int .i64 kk, .int .i64 ii, .int .i64 n, .int .i64 b], .int .i64 now] W fun e w' => e = .returned (.int .i64 uv) ∧ Below W.heap.size W w') := fun W => by
    have := until20_any kk ii n b now W h0 h1
    rw [HUV.out] at this
    exact this
  obtain ⟨W0, hW0⟩ : ∃ W0, W0 = w.alloc (.cells #[.int .i64 kk, .int .i64 ii, .int .i64 n, .int .i64 b] 32) := ⟨_, rfl⟩
  have o0 : W0.cell? ⟨w.heap.size, 0, none⟩ = some (.int .i64 kk) := by rw [hW0]; simp
  have o1 : W0.cell? ⟨w.heap.size, 1, none⟩ = some (.int .i64 ii) := by rw [hW0]; simp
  have o2 : W0.cell? ⟨w.heap.size, 2, none⟩ = some (.int .i64 n) := by rw [hW0]; simp
  have o3 : W0.cell? ⟨w.heap.size, 3, none⟩ = some (.int .i64 b) := by rw [hW0]; simp
  have hwl : w.heap.size < W0.heap.size := by rw [hW0]; simp
  have hwg : w.heap.size ≠ g := by have := H.out.gl; omega
  go_wp2_with fail
  rw [← hW0] at HW HB HEND c0 c3 hxl ⊢
  clear hW0
  have HB0 : Hid (∀ W, Below W0.heap.size W0 W → W.cell? ⟨x, 0, none⟩ = some (.pointer (some ⟨t, 0, none⟩)) ∧ W.cell? ⟨x, 3, none⟩ = some (.int .i64 now)) := fun W hb => ⟨(HW.out.below hb).c0, (HW.out.below hb).c3⟩
  go_region_held (fun w' => w'.cell? ⟨x, 0, none⟩ = some (.pointer (some ⟨t, 0, none⟩)) ∧ w'.cell? ⟨x, 3, none⟩ = some (.int .i64 now) ∧ w'.cell? ⟨w.heap.size, 0, none⟩ = some (.int .i64 kk) ∧ w'.cell? ⟨w.heap.size, 1, none⟩ = some (.int .i64 ii) ∧ w'.cell? ⟨w.heap.size, 2, none⟩ = some (.int .i64 n) ∧ w'.cell? ⟨w.heap.size, 3, none⟩ = some (.int .i64 b)) (first | (exact ⟨c0, c3, o0, o1, o2, o3⟩) | (exact ⟨f0, f3, q0, q1, q2, q3⟩) | (exact ⟨g0, g3, r0, r1, r2, r3⟩))
    (first
      | (go_at_call 91; refine (HUN.out _).mono ?_; rintro e w3 ⟨rfl, hb3⟩; have HB3 : Hid (Below W0.heap.size W0 w3) := (Below.refl _ _).drew.trans (hb3.mono (Nat.le_refl _)); obtain ⟨f0, f3⟩ := HB0.out w3 HB3.out; have q0 := (HB3.out.cell (p := ⟨w.heap.size, 0, none⟩) hwl).trans o0; have q1 := (HB3.out.cell (p := ⟨w.heap.size, 1, none⟩) hwl).trans o1; have q2 := (HB3.out.cell (p := ⟨w.heap.size, 2, none⟩) hwl).trans o2; have q3 := (HB3.out.cell (p := ⟨w.heap.size, 3, none⟩) hwl).trans o3; clear hb3)
      | (go_at_call 75; refine (wait_is i uv HACT.out (HW.out.below HB3.out).T HW.out.ok).mono ?_; rintro e w1 ⟨rfl, hT1, hA1⟩; obtain ⟨g0, -, -, g3⟩ := (HW.out.below HB3.out).tabc hA1; have hcw := fun j => World.cell?_of_block (a := ⟨w.heap.size, j, none⟩) (hA1.block w.heap.size (Nat.lt_of_lt_of_le hwl HB3.out.size) hwg); have r0 := (hcw 0).trans q0; have r1 := (hcw 1).trans q1; have r2 := (hcw 2).trans q2; have r3 := (hcw 3).trans q3; clear hcw))
  have HP := Lib.hid (HEND.out w1 hT1 ((Apart.of_below HB3.out (Nat.le_refl _)).trans (hA1.mono HB3.out.size)))
  clear hT1 hA1
  go_wp2
  go_ret
  exact HP.out

set_option maxRecDepth 100000 in
set_option maxHeartbeats 2000000 in
theorem call5_any {w : World} {x t g c : Nat} {vE vD : Value} {ps : List Pr} {E D : List (Int × Int)} {now : Int} (h : Wld w x t g c vE vD ps E D now) (kk ii n b i : Int) (h0 : 0 ≤ now) (h1 : now ≤ 1000) :
    Calls Tryz.prog 45 #[.pointer (some ⟨x, 0, none⟩), .agg #[.int .i64 kk, .int .i64 ii, .int .i64 n, .int .i64 b], .int .i64 5, .int .i64 i] w (CallW w x t g c vE vD E D now (kAct 5 n now ps i)) := by
  obtain ⟨⟨ps', y⟩, hact⟩ : ∃ o, kAct 5 n now ps i = o := ⟨_, rfl⟩
  rw [hact]
  unfold kAct at hact
  simp only at hact
  have hok : ∀ p, p ∈ ps' → p.Ok := by
    have := act_ok keeps_wake h.ok i
    rw [hact] at this
    exact this
  have HOK := Lib.hid hok
  have HACT := Lib.hid hact
  have hba := (Below.refl w.heap.size w).alloc (Nat.le_refl _) (.cells #[.int .i64 kk, .int .i64 ii, .int .i64 n, .int .i64 b] 32)
  have c0 := (h.below hba).c0
  have c3 := (h.below hba).c3
  have hxl := (h.below hba).xl
  have H := Lib.hid h
  have HB := Lib.hid hba
  have HW := Lib.hid (h.below hba)
  have HEND : Hid (∀ w1, Tab w1 t g c ps' → Apart (w.alloc (.cells #[.int .i64 kk, .int .i64 ii, .int .i64 n, .int .i64 b] 32)).heap.size (w.alloc (.cells #[.int .i64 kk, .int .i64 ii, .int .i64 n, .int .i64 b] 32)) w1 g → CallW w x t g c vE vD E D now (ps', y) (.returned (.int .i64 y)) w1) := fun w1 hT hA => WPost.after HB.out (callW HW.out hT HOK.out hA)
  clear h hok hact hba
  go_enter Tryz.func45, Tryz.ntmps45
  go_wp2_with fail
  refine (wake_is i HACT.out HW.out.T HW.out.ok).mono ?_
  rintro e w1 ⟨rfl, hT1, hA1⟩
  have HP := Lib.hid (HEND.out w1 hT1 hA1)
  clear hT1 hA1
  go_wp2
  go_ret
  exact HP.out

set_option maxRecDepth 100000 in
set_option maxHeartbeats 2000000 in
theorem call6_any {w : World} {x t g c : Nat} {vE vD : Value} {ps : List Pr} {E D : List (Int × Int)} {now : Int} (h : Wld w x t g c vE vD ps E D now) (kk ii n b i : Int) (h0 : 0 ≤ now) (h1 : now ≤ 1000) :
    Calls Tryz.prog 45 #[.pointer (some ⟨x, 0, none⟩), .agg #[.int .i64 kk, .int .i64 ii, .int .i64 n, .int .i64 b], .int .i64 6, .int .i64 i] w (CallW w x t g c vE vD E D now (kAct 6 n now ps i)) := by
  obtain ⟨⟨ps', y⟩, hact⟩ : ∃ o, kAct 6 n now ps i = o := ⟨_, rfl⟩
  rw [hact]
  unfold kAct at hact
  simp only at hact
  obtain ⟨nx, hnx⟩ : ∃ nx, doneR ps i now = nx := ⟨_, rfl⟩
  have HNX := Lib.hid hnx
  clear hnx
  have hok : ∀ p, p ∈ ps' → p.Ok := by
    have := act_ok (keeps_done now) h.ok i
    rw [hact] at this
    exact this
  have HOK := Lib.hid hok
  have HACT := Lib.hid hact
  have hba := (Below.refl w.heap.size w).alloc (Nat.le_refl _) (.cells #[.int .i64 kk, .int .i64 ii, .int .i64 n, .int .i64 b] 32)
  have c0 := (h.below hba).c0
  have c3 := (h.below hba).c3
  have hxl := (h.below hba).xl
  have H := Lib.hid h
  have HB := Lib.hid hba
  have HW := Lib.hid (h.below hba)
  have HEND : Hid (∀ w1, Tab w1 t g c ps' → Apart (w.alloc (.cells #[.int .i64 kk, .int .i64 ii, .int .i64 n, .int .i64 b] 32)).heap.size (w.alloc (.cells #[.int .i64 kk, .int .i64 ii, .int .i64 n, .int .i64 b] 32)) w1 g → CallW w x t g c vE vD E D now (ps', y) (.returned (.int .i64 y)) w1) := fun w1 hT hA => WPost.after HB.out (callW HW.out hT HOK.out hA)
  clear h hok hact hba
  go_enter Tryz.func45, Tryz.ntmps45
  obtain ⟨W0, hW0⟩ : ∃ W0, W0 = w.alloc (.cells #[.int .i64 kk, .int .i64 ii, .int .i64 n, .int .i64 b] 32) := ⟨_, rfl⟩
  go_wp2_with fail
  rw [← hW0] at HW HB HEND c0 c3 hxl ⊢
  clear hW0
  go_region_held (fun w' => w'.cell? ⟨x, 0, none⟩ = some (.pointer (some ⟨t, 0, none⟩)) ∧ w'.cell? ⟨x, 3, none⟩ = some (.int .i64 now)) (first | (exact ⟨c0, c3⟩) | (exact ⟨f0, f3⟩))
    (first | (go_at_call 76; refine (done_is i now HACT.out HNX.out (HW.out.below (Below.refl _ _).drew).T HW.out.ok).mono ?_; rintro e w1 ⟨rfl, hT1, hA1⟩; obtain ⟨f0, -, -, f3⟩ := (HW.out.below (Below.refl _ _).drew).tabc hA1))
  have HP := Lib.hid (HEND.out w1 hT1 ((Apart.of_below ((Below.refl _ _).drew) (Nat.le_refl _)).trans hA1))
  clear hT1 hA1
  go_wp2
  go_ret
  exact HP.out

set_option maxRecDepth 100000 in
set_option maxHeartbeats 2000000 in
theorem ask0_any {w : World} {d t g c l m : Nat} {V : Nat → Value} {v : Value} {ps : List Pr} {R : Nat → List Int} {Q : List (Int × Int)} (h : Dsp w d t g c l m V v ps R Q) (kk ii n b i now : Int) (h0 : 0 ≤ now) (h1 : now ≤ 1000)
    (hl : ∀ p, (R p).length ≤ 1000) (hQ : Q.length ≤ 900) (hnd : (Q.map Prod.fst).Nodup) :
    Calls Tryz.prog 46 #[.pointer (some ⟨d, 0, none⟩), .agg #[.int .i64 kk, .int .i64 ii, .int .i64 n, .int .i64 b], .int .i64 0, .int .i64 i, .int .i64 now] w (DCall w d t g c l m V v R Q i (kAct 0 n now ps i)) := by
  have hba := (Below.refl w.heap.size w).alloc (Nat.le_refl _) (.cells #[.int .i64 kk, .int .i64 ii, .int .i64 n, .int .i64 b] 32)
  have HB := Lib.hid hba
  have HC := Lib.hid (dstart_any (h.below hba) i now hl hQ hnd)
  clear h hl hQ hnd hba
  go_enter Tryz.func46, Tryz.ntmps46
  go_wp2_with fail
  refine HC.out.mono ?_
  intro e w1 hp
  have HP := Lib.hid (show DCall w d t g c l m V v R Q i (kAct 0 n now ps i) e w1 from DPost.after (Kept.of_below HB.out) hp)
  obtain ⟨rfl, -⟩ := hp
  go_wp2
  go_ret
  exact HP.out

set_option maxRecDepth 100000 in
set_option maxHeartbeats 2000000 in
theorem ask1_any {w : World} {d t g c l m : Nat} {V : Nat → Value} {v : Value} {ps : List Pr} {R : Nat → List Int} {Q : List (Int × Int)} (h : Dsp w d t g c l m V v ps R Q) (kk ii n b i now : Int) (h0 : 0 ≤ now) (h1 : now ≤ 1000)
    (hl : ∀ p, (R p).length ≤ 1000) (hQ : Q.length ≤ 900) (hnd : (Q.map Prod.fst).Nodup) :
    Calls Tryz.prog 46 #[.pointer (some ⟨d, 0, none⟩), .agg #[.int .i64 kk, .int .i64 ii, .int .i64 n, .int .i64 b], .int .i64 1, .int .i64 i, .int .i64 now] w (DCall w d t g c l m V v R Q i (kAct 1 n now ps i)) := by
  have hba := (Below.refl w.heap.size w).alloc (Nat.le_refl _) (.cells #[.int .i64 kk, .int .i64 ii, .int .i64 n, .int .i64 b] 32)
  have HB := Lib.hid hba
  have HC := Lib.hid (dstop_any (h.below hba) i hl hQ hnd)
  clear h hl hQ hnd hba
  go_enter Tryz.func46, Tryz.ntmps46
  go_wp2_with fail
  refine HC.out.mono ?_
  intro e w1 hp
  have HP := Lib.hid (show DCall w d t g c l m V v R Q i (kAct 1 n now ps i) e w1 from DPost.after (Kept.of_below HB.out) hp)
  obtain ⟨rfl, -⟩ := hp
  go_wp2
  go_ret
  exact HP.out

set_option maxRecDepth 100000 in
set_option maxHeartbeats 2000000 in
theorem ask2_any {w : World} {d t g c l m : Nat} {V : Nat → Value} {v : Value} {ps : List Pr} {R : Nat → List Int} {Q : List (Int × Int)} (h : Dsp w d t g c l m V v ps R Q) (kk ii n b i now : Int) (h0 : 0 ≤ now) (h1 : now ≤ 1000)
    (hl : ∀ p, (R p).length ≤ 1000) (hQ : Q.length ≤ 900) (hnd : (Q.map Prod.fst).Nodup) :
    Calls Tryz.prog 46 #[.pointer (some ⟨d, 0, none⟩), .agg #[.int .i64 kk, .int .i64 ii, .int .i64 n, .int .i64 b], .int .i64 2, .int .i64 i, .int .i64 now] w (DCall w d t g c l m V v R Q i (kAct 2 n now ps i)) := by
  have hba := (Below.refl w.heap.size w).alloc (Nat.le_refl _) (.cells #[.int .i64 kk, .int .i64 ii, .int .i64 n, .int .i64 b] 32)
  have HB := Lib.hid hba
  have HC := Lib.hid (dsusp_any (h.below hba) i hl hQ hnd)
  clear h hl hQ hnd hba
  go_enter Tryz.func46, Tryz.ntmps46
  go_wp2_with fail
  refine HC.out.mono ?_
  intro e w1 hp
  have HP := Lib.hid (show DCall w d t g c l m V v R Q i (kAct 2 n now ps i) e w1 from DPost.after (Kept.of_below HB.out) hp)
  obtain ⟨rfl, -⟩ := hp
  go_wp2
  go_ret
  exact HP.out

set_option maxRecDepth 100000 in
set_option maxHeartbeats 2000000 in
theorem ask3_any {w : World} {d t g c l m : Nat} {V : Nat → Value} {v : Value} {ps : List Pr} {R : Nat → List Int} {Q : List (Int × Int)} (h : Dsp w d t g c l m V v ps R Q) (kk ii n b i now : Int) (h0 : 0 ≤ now) (h1 : now ≤ 1000)
    (hl : ∀ p, (R p).length ≤ 1000) (hQ : Q.length ≤ 900) (hnd : (Q.map Prod.fst).Nodup) :
    Calls Tryz.prog 46 #[.pointer (some ⟨d, 0, none⟩), .agg #[.int .i64 kk, .int .i64 ii, .int .i64 n, .int .i64 b], .int .i64 3, .int .i64 i, .int .i64 now] w (DCall w d t g c l m V v R Q i (kAct 3 n now ps i)) := by
  have hba := (Below.refl w.heap.size w).alloc (Nat.le_refl _) (.cells #[.int .i64 kk, .int .i64 ii, .int .i64 n, .int .i64 b] 32)
  have HB := Lib.hid hba
  have HC := Lib.hid (dresu_any (h.below hba) i hl hQ hnd)
  clear h hl hQ hnd hba
  go_enter Tryz.func46, Tryz.ntmps46
  go_wp2_with fail
  refine HC.out.mono ?_
  intro e w1 hp
  have HP := Lib.hid (show DCall w d t g c l m V v R Q i (kAct 3 n now ps i) e w1 from DPost.after (Kept.of_below HB.out) hp)
  obtain ⟨rfl, -⟩ := hp
  go_wp2
  go_ret
  exact HP.out

set_option maxRecDepth 100000 in
set_option maxHeartbeats 2000000 in
theorem ask5_any {w : World} {d t g c l m : Nat} {V : Nat → Value} {v : Value} {ps : List Pr} {R : Nat → List Int} {Q : List (Int × Int)} (h : Dsp w d t g c l m V v ps R Q) (kk ii n b i now : Int) (h0 : 0 ≤ now) (h1 : now ≤ 1000)
    (hl : ∀ p, (R p).length ≤ 1000) (hQ : Q.length ≤ 900) (hnd : (Q.map Prod.fst).Nodup) :
    Calls Tryz.prog 46 #[.pointer (some ⟨d, 0, none⟩), .agg #[.int .i64 kk, .int .i64 ii, .int .i64 n, .int .i64 b], .int .i64 5, .int .i64 i, .int .i64 now] w (DCall w d t g c l m V v R Q i (kAct 5 n now ps i)) := by
  have hba := (Below.refl w.heap.size w).alloc (Nat.le_refl _) (.cells #[.int .i64 kk, .int .i64 ii, .int .i64 n, .int .i64 b] 32)
  have HB := Lib.hid hba
  have HC := Lib.hid (dwake_any (h.below hba) i hl hQ hnd)
  clear h hl hQ hnd hba
  go_enter Tryz.func46, Tryz.ntmps46
  go_wp2_with fail
  refine HC.out.mono ?_
  intro e w1 hp
  have HP := Lib.hid (show DCall w d t g c l m V v R Q i (kAct 5 n now ps i) e w1 from DPost.after (Kept.of_below HB.out) hp)
  obtain ⟨rfl, -⟩ := hp
  go_wp2
  go_ret
  exact HP.out

set_option maxRecDepth 100000 in
set_option maxHeartbeats 2000000 in
theorem ask6_any {w : World} {d t g c l m : Nat} {V : Nat → Value} {v : Value} {ps : List Pr} {R : Nat → List Int} {Q : List (Int × Int)} (h : Dsp w d t g c l m V v ps R Q) (kk ii n b i now : Int) (h0 : 0 ≤ now) (h1 : now ≤ 1000)
    (hl : ∀ p, (R p).length ≤ 1000) (hQ : Q.length ≤ 900) (hnd : (Q.map Prod.fst).Nodup) :
    Calls Tryz.prog 46 #[.pointer (some ⟨d, 0, none⟩), .agg #[.int .i64 kk, .int .i64 ii, .int .i64 n, .int .i64 b], .int .i64 6, .int .i64 i, .int .i64 now] w (DCall w d t g c l m V v (doneRQ (kAct 6 n now ps i).2 i R) Q i (kAct 6 n now ps i)) := by
  have hba := (Below.refl w.heap.size w).alloc (Nat.le_refl _) (.cells #[.int .i64 kk, .int .i64 ii, .int .i64 n, .int .i64 b] 32)
  have HB := Lib.hid hba
  have HC := Lib.hid (ddone2_any (h.below hba) i now hl hQ hnd)
  clear h hl hQ hnd hba
  go_enter Tryz.func46, Tryz.ntmps46
  go_wp2_with fail
  refine HC.out.mono ?_
  intro e w1 hp
  have HP := Lib.hid (show DCall w d t g c l m V v (doneRQ (kAct 6 n now ps i).2 i R) Q i (kAct 6 n now ps i) e w1 from DPost.after (Kept.of_below HB.out) hp)
  obtain ⟨rfl, -⟩ := hp
  go_wp2
  go_ret
  exact HP.out

set_option maxRecDepth 100000 in
set_option maxHeartbeats 2000000 in
theorem ask4_any {w : World} {d t g c l m : Nat} {V : Nat → Value} {v : Value} {ps : List Pr} {R : Nat → List Int} {Q : List (Int × Int)} (h : Dsp w d t g c l m V v ps R Q) (kk ii n b i now : Int) (h0 : 0 ≤ now) (h1 : now ≤ 1000)
    (hl : ∀ p, (R p).length ≤ 1000) (hQ : Q.length ≤ 900) (hnd : (Q.map Prod.fst).Nodup) :
    Calls Tryz.prog 46 #[.pointer (some ⟨d, 0, none⟩), .agg #[.int .i64 kk, .int .i64 ii, .int .i64 n, .int .i64 b], .int .i64 4, .int .i64 i, .int .i64 now] w (DCall w d t g c l m V v R Q i (kAct 4 n now ps i)) := by
  have hba := (Below.refl w.heap.size w).alloc (Nat.le_refl _) (.cells #[.int .i64 kk, .int .i64 ii, .int .i64 n, .int .i64 b] 32)
  have HB := Lib.hid hba
  obtain ⟨uv, huv⟩ : ∃ uv, untV n now = uv := ⟨_, rfl⟩
  have HUV := Lib.hid huv
  have HUN : Hid (∀ W, Calls Tryz.prog 91 #[.agg #[.int .i64 kk, .int .i64 ii, .int .i64 n, .int .i64 b], .int .i64 now] W fun e w' => e = .returned (.int .i64 uv) ∧ Below W.heap.size W w') := fun W => by
    have := until20_any kk ii n b now W h0 h1
    rw [HUV.out] at this
    exact this
  have HC : Hid (∀ W, Below w.heap.size w W → Calls Tryz.prog 32 #[.pointer (some ⟨d, 0, none⟩), .int .i64 i, .int .i64 uv] W (DCall W d t g c l m V v R Q i (kAct 4 n now ps i))) := fun W hb => by
    have := dwait_any (h.below hb) i uv hl hQ hnd
    unfold kAct
    simp only
    rw [HUV.out]
    exact this
  clear huv
  clear h hl hQ hnd hba
  go_enter Tryz.func46, Tryz.ntmps46
  go_wp2_with fail
  refine (HUN.out _).mono ?_
  rintro e w3 ⟨rfl, hb3⟩
  have HB3 : Hid (Below w.heap.size w w3) := HB.out.trans (hb3.mono HB.out.size)
  clear hb3
  go_wp2_with fail
  refine (HC.out w3 HB3.out).mono ?_
  intro e w1 hp
  have HP := Lib.hid (show DCall w d t g c l m V v R Q i (kAct 4 n now ps i) e w1 from DPost.after (Kept.of_below HB3.out) hp)
  obtain ⟨rfl, -⟩ := hp
  go_wp2
  go_ret
  exact HP.out

def askR (k : Nat) (y i : Int) (R : Nat → List Int) : Nat → List Int := if k = 6 then doneRQ y i R else R

theorem call_any (k : Nat) (hk : k < 7) {w : World} {x t g c : Nat} {vE vD : Value} {ps : List Pr} {E D : List (Int × Int)} {now : Int} (h : Wld w x t g c vE vD ps E D now) (kk ii n b i : Int) (h0 : 0 ≤ now) (h1 : now ≤ 1000) :
    Calls Tryz.prog 45 #[.pointer (some ⟨x, 0, none⟩), .agg #[.int .i64 kk, .int .i64 ii, .int .i64 n, .int .i64 b], .int .i64 k, .int .i64 i] w (CallW w x t g c vE vD E D now (kAct k n now ps i)) := by
  match k, hk with
  | 0, _ => exact call0_any h kk ii n b i h0 h1
  | 1, _ => exact call1_any h kk ii n b i h0 h1
  | 2, _ => exact call2_any h kk ii n b i h0 h1
  | 3, _ => exact call3_any h kk ii n b i h0 h1
  | 4, _ => exact call4_any h kk ii n b i h0 h1
  | 5, _ => exact call5_any h kk ii n b i h0 h1
  | 6, _ => exact call6_any h kk ii n b i h0 h1
  | k + 7, hk => exact absurd hk (by omega)

theorem ask_any (k : Nat) (hk : k < 7) {w : World} {d t g c l m : Nat} {V : Nat → Value} {v : Value} {ps : List Pr} {R : Nat → List Int} {Q : List (Int × Int)} (h : Dsp w d t g c l m V v ps R Q) (kk ii n b i now : Int) (h0 : 0 ≤ now) (h1 : now ≤ 1000)
    (hl : ∀ p, (R p).length ≤ 1000) (hQ : Q.length ≤ 900) (hnd : (Q.map Prod.fst).Nodup) :
    Calls Tryz.prog 46 #[.pointer (some ⟨d, 0, none⟩), .agg #[.int .i64 kk, .int .i64 ii, .int .i64 n, .int .i64 b], .int .i64 k, .int .i64 i, .int .i64 now] w (DCall w d t g c l m V v (askR k (kAct k n now ps i).2 i R) Q i (kAct k n now ps i)) := by
  match k, hk with
  | 0, _ => exact ask0_any h kk ii n b i now h0 h1 hl hQ hnd
  | 1, _ => exact ask1_any h kk ii n b i now h0 h1 hl hQ hnd
  | 2, _ => exact ask2_any h kk ii n b i now h0 h1 hl hQ hnd
  | 3, _ => exact ask3_any h kk ii n b i now h0 h1 hl hQ hnd
  | 4, _ => exact ask4_any h kk ii n b i now h0 h1 hl hQ hnd
  | 5, _ => exact ask5_any h kk ii n b i now h0 h1 hl hQ hnd
  | 6, _ => exact ask6_any h kk ii n b i now h0 h1 hl hQ hnd
  | k + 7, hk => exact absurd hk (by omega)

end Go.Proofs.YtgnjenmicojgnaaGreat
