/-
  Of a Dispatch that isn't there nothing is told; DispatchNews' walk.
-/
import Derived.Test.YtgnjenmicojgnaaGreatTdw
namespace Go.Proofs.YtgnjenmicojgnaaGreat
set_option linter.unusedVariables false
set_option linter.unusedSimpArgs false
open Go.RowKit

set_option maxRecDepth 100000 in
set_option maxHeartbeats 1000000 in
theorem nil27 (w : World) : Calls Tryz.prog 27 #[.pointer none, .int .i64 1] w fun e w' => e = .returned (.tuple #[.slice none 0 0, .slice none 0 0]) ∧ w = w' := by
  go_enter Tryz.func27, Tryz.ntmps27
  go_wp2
  go_ret2
  exact ⟨rfl, rfl⟩

set_option maxRecDepth 100000 in
set_option maxHeartbeats 1000000 in
theorem nil12 (w : World) : Calls Tryz.prog 12 #[.pointer none] w fun e w' => e = .returned (.tuple #[.int .i64 0, .bool false]) ∧ w = w' := by
  go_enter Tryz.func12, Tryz.ntmps12
  go_wp2
  go_ret2
  exact ⟨rfl, rfl⟩

set_option maxRecDepth 100000 in
set_option maxHeartbeats 1000000 in
theorem nil11 (w : World) : Calls Tryz.prog 11 #[.pointer none] w fun e w' => e = .returned (.pointer none) ∧ w = w' := by
  go_enter Tryz.func11, Tryz.ntmps11
  go_wp2
  go_ret
  exact ⟨rfl, rfl⟩

set_option maxRecDepth 100000 in
set_option maxHeartbeats 1000000 in
theorem nil16 (w : World) : Calls Tryz.prog 16 #[.pointer none] w fun e w' => e = .returned (.slice none 0 0) ∧ w = w' := by
  go_enter Tryz.func16, Tryz.ntmps16
  go_wp2
  go_ret
  exact ⟨rfl, rfl⟩

set_option maxRecDepth 100000 in
set_option maxHeartbeats 1000000 in
theorem nil18 (w : World) : Calls Tryz.prog 18 #[.pointer none] w fun e w' => e = .returned (.pointer none) ∧ w = w' := by
  go_enter Tryz.func18, Tryz.ntmps18
  go_wp2
  go_ret
  exact ⟨rfl, rfl⟩

set_option maxRecDepth 100000 in
set_option maxHeartbeats 1000000 in
theorem nil19 (w : World) : Calls Tryz.prog 19 #[.pointer none, .pointer none] w fun e w' => e = .returned (.bool true) ∧ w = w' := by
  go_enter Tryz.func19, Tryz.ntmps19
  go_wp2
  go_ret
  exact ⟨rfl, rfl⟩

set_option maxRecDepth 100000 in
set_option maxHeartbeats 1000000 in
theorem nil19b (a : Addr) (w : World) : Calls Tryz.prog 19 #[.pointer none, .pointer (some a)] w fun e w' => e = .returned (.bool false) ∧ w = w' := by
  go_enter Tryz.func19, Tryz.ntmps19
  go_wp2
  go_ret
  exact ⟨rfl, rfl⟩

set_option maxRecDepth 100000 in
set_option maxHeartbeats 1000000 in
theorem nil19c (a : Addr) (w : World) : Calls Tryz.prog 19 #[.pointer (some a), .pointer none] w fun e w' => e = .returned (.bool false) ∧ w = w' := by
  go_enter Tryz.func19, Tryz.ntmps19
  go_wp2
  go_ret
  exact ⟨rfl, rfl⟩

set_option maxRecDepth 100000 in
set_option maxHeartbeats 1000000 in
theorem nil71 (i : Int) (f : Value) (w : World) : Calls Tryz.prog 71 #[.pointer none, .int .i64 i, f] w fun e w' => e = .returned (.int .i64 1) ∧ w = w' := by
  go_enter Tryz.func71, Tryz.ntmps71
  go_wp2
  go_ret
  exact ⟨rfl, rfl⟩

set_option maxRecDepth 100000 in
set_option maxHeartbeats 1000000 in
theorem nil28 (w : World) : Calls Tryz.prog 28 #[.pointer none, .int .i64 0, .int .i64 0] w fun e w' => e = .returned (.int .i64 1) ∧ w = w' := by
  go_enter Tryz.func28, Tryz.ntmps28
  go_wp2
  go_ret
  exact ⟨rfl, rfl⟩

set_option maxRecDepth 100000 in
set_option maxHeartbeats 1000000 in
theorem nil29 (w : World) : Calls Tryz.prog 29 #[.pointer none, .int .i64 0] w fun e w' => e = .returned (.int .i64 1) ∧ w = w' := by
  go_enter Tryz.func29, Tryz.ntmps29
  go_wp2_with (go_at_call 71; refine (nil71 _ _ _).mono ?_; rintro e w1 ⟨rfl, rfl⟩)
  go_ret
  exact ⟨rfl, rfl⟩

set_option maxRecDepth 100000 in
set_option maxHeartbeats 1000000 in
theorem nil30 (w : World) : Calls Tryz.prog 30 #[.pointer none, .int .i64 0] w fun e w' => e = .returned (.int .i64 1) ∧ w = w' := by
  go_enter Tryz.func30, Tryz.ntmps30
  go_wp2_with (go_at_call 71; refine (nil71 _ _ _).mono ?_; rintro e w1 ⟨rfl, rfl⟩)
  go_ret
  exact ⟨rfl, rfl⟩

set_option maxRecDepth 100000 in
set_option maxHeartbeats 1000000 in
theorem nil31 (w : World) : Calls Tryz.prog 31 #[.pointer none, .int .i64 0] w fun e w' => e = .returned (.int .i64 1) ∧ w = w' := by
  go_enter Tryz.func31, Tryz.ntmps31
  go_wp2_with (go_at_call 71; refine (nil71 _ _ _).mono ?_; rintro e w1 ⟨rfl, rfl⟩)
  go_ret
  exact ⟨rfl, rfl⟩

set_option maxRecDepth 100000 in
set_option maxHeartbeats 1000000 in
theorem nil32 (w : World) : Calls Tryz.prog 32 #[.pointer none, .int .i64 0, .int .i64 0] w fun e w' => e = .returned (.int .i64 1) ∧ w = w' := by
  go_enter Tryz.func32, Tryz.ntmps32
  go_wp2
  go_ret
  exact ⟨rfl, rfl⟩

set_option maxRecDepth 100000 in
set_option maxHeartbeats 1000000 in
theorem nil33 (w : World) : Calls Tryz.prog 33 #[.pointer none, .int .i64 0] w fun e w' => e = .returned (.int .i64 1) ∧ w = w' := by
  go_enter Tryz.func33, Tryz.ntmps33
  go_wp2_with (go_at_call 71; refine (nil71 _ _ _).mono ?_; rintro e w1 ⟨rfl, rfl⟩)
  go_ret
  exact ⟨rfl, rfl⟩

set_option maxRecDepth 100000 in
set_option maxHeartbeats 1000000 in
theorem nil34 (w : World) : Calls Tryz.prog 34 #[.pointer none, .int .i64 0, .int .i64 0] w fun e w' => e = .returned (.int .i64 1) ∧ w = w' := by
  go_enter Tryz.func34, Tryz.ntmps34
  go_wp2
  go_ret
  exact ⟨rfl, rfl⟩

set_option maxRecDepth 100000 in
set_option maxHeartbeats 1000000 in
theorem nil35 (w : World) : Calls Tryz.prog 35 #[.pointer none, .int .i64 0, .int .i64 1] w fun e w' => e = .returned (.int .i64 1) ∧ w = w' := by
  go_enter Tryz.func35, Tryz.ntmps35
  go_wp2
  go_ret
  exact ⟨rfl, rfl⟩

set_option maxRecDepth 100000 in
set_option maxHeartbeats 1000000 in
theorem nil36 (w : World) : Calls Tryz.prog 36 #[.pointer none, .int .i64 0, .int .i64 1] w fun e w' => e = .returned (.int .i64 1) ∧ w = w' := by
  go_enter Tryz.func36, Tryz.ntmps36
  go_wp2
  go_ret
  exact ⟨rfl, rfl⟩

set_option maxRecDepth 100000 in
set_option maxHeartbeats 1000000 in
theorem nil37 (w : World) : Calls Tryz.prog 37 #[.pointer none, .int .i64 0] w fun e w' => e = .returned (.int .i64 1) ∧ w = w' := by
  go_enter Tryz.func37, Tryz.ntmps37
  go_wp2
  go_ret
  exact ⟨rfl, rfl⟩

set_option maxRecDepth 100000 in
set_option maxHeartbeats 1000000 in
theorem nil38 (w : World) : Calls Tryz.prog 38 #[.pointer none, .int .i64 0, .int .i64 1] w fun e w' => e = .returned (.int .i64 1) ∧ w = w' := by
  go_enter Tryz.func38, Tryz.ntmps38
  go_wp2
  go_ret
  exact ⟨rfl, rfl⟩

def DNo (w : World) (l : List At) (e : Ending) (w' : World) : Prop := e = .returned (.tuple #[.pointer none, .int .i64 (if 16 < l.length then 8 else 2)]) ∧ Below w.heap.size w w'

set_option maxRecDepth 100000 in
set_option maxHeartbeats 1000000 in
theorem dnew_no (B : Option Addr) (n cc : Nat) (l : List At) (w : World) (hn : l.length = n) (hB : AtRow w B l) (hm : n ≤ 140737488355328) (hok : newOk l = false) :
    Calls Tryz.prog 25 #[.slice B n cc] w (DNo w l) := by
  have HC := Lib.hid (new_any B n cc l w hn hB hm)
  have HOK := Lib.hid hok
  obtain ⟨x, hx⟩ : ∃ x : Int, (if 16 < l.length then 8 else 2) = x := ⟨_, rfl⟩
  have hx0 : (x == 0) = false := by rw [← hx]; split <;> rfl
  have hx1 : (x != 0) = true := by rw [← hx]; split <;> rfl
  have HX := Lib.hid hx
  clear hn hB hok hx
  go_enter Tryz.func25, Tryz.ntmps25
  go_wp2_with fail
  refine HC.out.mono ?_
  rintro e w1 ⟨hp, hb1⟩
  rcases hp with ⟨hyes, -⟩ | ⟨-, rfl⟩
  · exact absurd (HOK.out.symm.trans hyes) (by simp)
  rw [HX.out]
  have HP : Hid (DNo w l (.returned (.tuple #[.pointer none, .int .i64 x])) w1) := ⟨by rw [HX.out], hb1⟩
  clear hb1
  go_wp2
  go_ret2
  exact HP.out

set_option maxRecDepth 100000 in
set_option maxHeartbeats 4000000 in
theorem news_any (B : Option Addr) (n cc : Nat) (l : List At) (w : World) (hn : l.length = n) (hB : AtRow w B l) (hcc : n ≤ cc) (hmx : cc ≤ 9223372036854775807) (hnil : B = none → n = 0 ∧ cc = 0) :
    Calls Tryz.prog 6 #[.slice B n cc] w fun e w' => e = .returned (.bool true) ∧ Below w.heap.size w w' := by
  obtain ⟨m, hmin⟩ : ∃ m : Nat, min (n : Int) 20 = m := ⟨min n 20, by omega⟩
  have hmn : m ≤ n := by omega
  have hm20 : m ≤ 20 := by omega
  have hmc : (m : Int) ≤ (cc : Int) := by omega
  have hm0 : (0 : Int) ≤ (m : Int) := by omega
  have hlm : (l.take m).length = m := by rw [List.length_take]; omega
  have hB' : AtRow w B (l.take m) := fun h0 => by
    obtain ⟨b, o, h1, h2, h3⟩ := hB (by rw [List.length_take] at h0; omega)
    exact ⟨b, o, h1, h2, fun k a hk => h3 k a (by rw [List.getElem?_take] at hk; split at hk; exact hk; cases hk)⟩
  obtain ⟨lm, hlme⟩ : ∃ lm, l.take m = lm := ⟨_, rfl⟩
  rw [hlme] at hlm hB'
  have HBR := Lib.hid hB'
  have HLM := Lib.hid hlm
  clear hB hB' hn hlme hlm
  have hsl : ∃ v, v = Value.slice B m cc := ⟨_, rfl⟩
  have HMIN := Lib.hid hmin
  cases hok : newOk lm with
  | false =>
    have HD := Lib.hid (dnew_no B m cc lm w HLM.out HBR.out (by omega) hok)
    have HN : Hid (∀ W, Below w.heap.size w W → Calls Tryz.prog 26 #[.slice B m cc] W (NewPost W lm)) := fun W hb => new_any B m cc lm W HLM.out (HBR.out.below hb) (by omega)
    have HOK := Lib.hid hok
    obtain ⟨x, hx⟩ : ∃ x : Int, (if 16 < lm.length then 8 else 2) = x := ⟨_, rfl⟩
    have hx0 : (x == 0) = false := by rw [← hx]; split <;> rfl
    have hxx : (x != x) = false := by simp
    have HX := Lib.hid hx
    clear hok hx
    cases B with
    | none =>
      obtain ⟨rfl, rfl⟩ := hnil rfl
      have hmz : m = 0 := by omega
      subst hmz
      go_enter Tryz.func6, Tryz.ntmps6
      go_wp2_with fail
      refine HD.out.mono ?_
      rintro e w1 ⟨rfl, hb1⟩
      rw [HX.out]
      have HB1 := Lib.hid hb1
      clear hb1
      go_wp2_with fail
      refine (HN.out w1 HB1.out).mono ?_
      rintro e w2 ⟨hp, hb2⟩
      rcases hp with ⟨hyes, -⟩ | ⟨-, rfl⟩
      · exact absurd (HOK.out.symm.trans hyes) (by simp)
      rw [HX.out]
      have HB2 : Hid (Below w.heap.size w w2) := HB1.out.trans (hb2.mono HB1.out.size)
      clear hb2
      go_wp2_with (first | (go_at_call 9; refine (told_any20 w2).mono ?_; rintro e w3 ⟨rfl, hb3⟩; have HB3 : Hid (Below w.heap.size w w3) := HB2.out.trans (hb3.mono HB2.out.size); clear hb3) | (go_at_call 27; (with_reducible refine (nil27 _).mono ?_); rintro e w9 ⟨rfl, rfl⟩) | (go_at_call 12; (with_reducible refine (nil12 _).mono ?_); rintro e w9 ⟨rfl, rfl⟩) | (go_at_call 11; (with_reducible refine (nil11 _).mono ?_); rintro e w9 ⟨rfl, rfl⟩) | (go_at_call 16; (with_reducible refine (nil16 _).mono ?_); rintro e w9 ⟨rfl, rfl⟩) | (go_at_call 18; (with_reducible refine (nil18 _).mono ?_); rintro e w9 ⟨rfl, rfl⟩) | (go_at_call 19; (with_reducible refine (nil19 _).mono ?_); rintro e w9 ⟨rfl, rfl⟩) | (go_at_call 28; (with_reducible refine (nil28 _).mono ?_); rintro e w9 ⟨rfl, rfl⟩) | (go_at_call 29; (with_reducible refine (nil29 _).mono ?_); rintro e w9 ⟨rfl, rfl⟩) | (go_at_call 30; (with_reducible refine (nil30 _).mono ?_); rintro e w9 ⟨rfl, rfl⟩) | (go_at_call 31; (with_reducible refine (nil31 _).mono ?_); rintro e w9 ⟨rfl, rfl⟩) | (go_at_call 32; (with_reducible refine (nil32 _).mono ?_); rintro e w9 ⟨rfl, rfl⟩) | (go_at_call 33; (with_reducible refine (nil33 _).mono ?_); rintro e w9 ⟨rfl, rfl⟩) | (go_at_call 34; (with_reducible refine (nil34 _).mono ?_); rintro e w9 ⟨rfl, rfl⟩) | (go_at_call 35; (with_reducible refine (nil35 _).mono ?_); rintro e w9 ⟨rfl, rfl⟩) | (go_at_call 36; (with_reducible refine (nil36 _).mono ?_); rintro e w9 ⟨rfl, rfl⟩) | (go_at_call 37; (with_reducible refine (nil37 _).mono ?_); rintro e w9 ⟨rfl, rfl⟩) | (go_at_call 38; (with_reducible refine (nil38 _).mono ?_); rintro e w9 ⟨rfl, rfl⟩))
      go_ret
      exact ⟨rfl, HB3.out⟩
    | some B =>
      clear hnil
      go_enter Tryz.func6, Tryz.ntmps6
      go_wp2_with fail
      refine HD.out.mono ?_
      rintro e w1 ⟨rfl, hb1⟩
      rw [HX.out]
      have HB1 := Lib.hid hb1
      clear hb1
      go_wp2_with fail
      refine (HN.out w1 HB1.out).mono ?_
      rintro e w2 ⟨hp, hb2⟩
      rcases hp with ⟨hyes, -⟩ | ⟨-, rfl⟩
      · exact absurd (HOK.out.symm.trans hyes) (by simp)
      rw [HX.out]
      have HB2 : Hid (Below w.heap.size w w2) := HB1.out.trans (hb2.mono HB1.out.size)
      clear hb2
      go_wp2_with (first | (go_at_call 9; refine (told_any20 w2).mono ?_; rintro e w3 ⟨rfl, hb3⟩; have HB3 : Hid (Below w.heap.size w w3) := HB2.out.trans (hb3.mono HB2.out.size); clear hb3) | (go_at_call 27; (with_reducible refine (nil27 _).mono ?_); rintro e w9 ⟨rfl, rfl⟩) | (go_at_call 12; (with_reducible refine (nil12 _).mono ?_); rintro e w9 ⟨rfl, rfl⟩) | (go_at_call 11; (with_reducible refine (nil11 _).mono ?_); rintro e w9 ⟨rfl, rfl⟩) | (go_at_call 16; (with_reducible refine (nil16 _).mono ?_); rintro e w9 ⟨rfl, rfl⟩) | (go_at_call 18; (with_reducible refine (nil18 _).mono ?_); rintro e w9 ⟨rfl, rfl⟩) | (go_at_call 19; (with_reducible refine (nil19 _).mono ?_); rintro e w9 ⟨rfl, rfl⟩) | (go_at_call 28; (with_reducible refine (nil28 _).mono ?_); rintro e w9 ⟨rfl, rfl⟩) | (go_at_call 29; (with_reducible refine (nil29 _).mono ?_); rintro e w9 ⟨rfl, rfl⟩) | (go_at_call 30; (with_reducible refine (nil30 _).mono ?_); rintro e w9 ⟨rfl, rfl⟩) | (go_at_call 31; (with_reducible refine (nil31 _).mono ?_); rintro e w9 ⟨rfl, rfl⟩) | (go_at_call 32; (with_reducible refine (nil32 _).mono ?_); rintro e w9 ⟨rfl, rfl⟩) | (go_at_call 33; (with_reducible refine (nil33 _).mono ?_); rintro e w9 ⟨rfl, rfl⟩) | (go_at_call 34; (with_reducible refine (nil34 _).mono ?_); rintro e w9 ⟨rfl, rfl⟩) | (go_at_call 35; (with_reducible refine (nil35 _).mono ?_); rintro e w9 ⟨rfl, rfl⟩) | (go_at_call 36; (with_reducible refine (nil36 _).mono ?_); rintro e w9 ⟨rfl, rfl⟩) | (go_at_call 37; (with_reducible refine (nil37 _).mono ?_); rintro e w9 ⟨rfl, rfl⟩) | (go_at_call 38; (with_reducible refine (nil38 _).mono ?_); rintro e w9 ⟨rfl, rfl⟩))
      go_ret
      exact ⟨rfl, HB3.out⟩
  | true =>
    have HD := Lib.hid (dnew_any B m cc lm w HLM.out HBR.out (by omega) hok)
    have HN : Hid (∀ W, Below w.heap.size w W → Calls Tryz.prog 26 #[.slice B m cc] W (NewPost W lm)) := fun W hb => new_any B m cc lm W HLM.out (HBR.out.below hb) (by omega)
    have HOK := Lib.hid hok
    clear hok
    cases B with
    | none =>
      obtain ⟨rfl, rfl⟩ := hnil rfl
      have hmz : m = 0 := by omega
      subst hmz
      go_enter Tryz.func6, Tryz.ntmps6
      go_wp2_with fail
      refine HD.out.mono ?_
      rintro e w1 ⟨d, t, g, c, l', m', rfl, hD, hlow, hb1⟩
      have HB1 := Lib.hid hb1
      have HDD := Lib.hid hD
      clear hb1 hD hlow
      go_wp2_with fail
      refine (HN.out w1 HB1.out).mono ?_
      rintro e w2 ⟨hp, hb2⟩
      rcases hp with ⟨-, t2, g2, c2, rfl, hT, -, -⟩ | ⟨hno, -⟩
      rotate_left
      · exact absurd (HOK.out.symm.trans hno) (by simp)
      have HB2 : Hid (Below w.heap.size w w2) := HB1.out.trans (hb2.mono HB1.out.size)
      have HD2 := Lib.hid (HDD.out.below hb2)
      have HT2 := Lib.hid hT
      clear hb2 hT HDD
      go_wp2_with (first
        | (go_at_call 9; refine (told_any20 w2).mono ?_; rintro e w3 ⟨rfl, hb3⟩; have HB3 : Hid (Below w.heap.size w w3) := HB2.out.trans (hb3.mono HB2.out.size); have HD3 := Lib.hid (HD2.out.below hb3); have HT3 := Lib.hid (HT2.out.below hb3); clear hb3)
        | (go_at_call 11; (with_reducible refine (dtable_any HD3.out).mono ?_); rintro e w4 ⟨t4, g4, c4, rfl, hT4, -, -, hb4⟩; have HB4 : Hid (Below w.heap.size w w4) := HB3.out.trans (hb4.mono HB3.out.size); have HT4 := Lib.hid hT4; have HT34 := Lib.hid (HT3.out.below hb4); have HD4 := Lib.hid (HD3.out.below hb4); clear hb4 hT4)
        | (go_at_call 21; refine (show Calls Tryz.prog 21 _ w4 _ from same_any t4 g4 c4 t2 g2 c2 (lm.map prOf) (lm.map prOf) w4 HT4.out HT34.out).mono ?_; rw [same_self']; rintro e w5 ⟨rfl, hb5⟩; have HB5 : Hid (Below w.heap.size w w5) := HB4.out.trans (hb5.mono HB4.out.size); have HD5 := Lib.hid (HD4.out.below hb5); clear hb5)
        | (go_at_call 16; (with_reducible refine (ready_any HD5.out (fun p => by simp [r0])).mono ?_); rintro e w6 ⟨u6, rfl, ho6, -, hb6⟩; obtain ⟨ua6, uc6, hu6⟩ := ho6.sl; rw [show (allR r0).length = 0 by kernel_rfl] at hu6; subst hu6; have HB6 : Hid (Below w.heap.size w w6) := HB5.out.trans (hb6.mono HB5.out.size); clear hb6 ho6)
        | (go_at_call 19; (with_reducible refine (nil19b _ _).mono ?_); rintro e w9 ⟨rfl, rfl⟩)
        | (go_at_call 27; (with_reducible refine (nil27 _).mono ?_); rintro e w9 ⟨rfl, rfl⟩) | (go_at_call 12; (with_reducible refine (nil12 _).mono ?_); rintro e w9 ⟨rfl, rfl⟩) | (go_at_call 11; (with_reducible refine (nil11 _).mono ?_); rintro e w9 ⟨rfl, rfl⟩) | (go_at_call 16; (with_reducible refine (nil16 _).mono ?_); rintro e w9 ⟨rfl, rfl⟩) | (go_at_call 18; (with_reducible refine (nil18 _).mono ?_); rintro e w9 ⟨rfl, rfl⟩) | (go_at_call 19; (with_reducible refine (nil19 _).mono ?_); rintro e w9 ⟨rfl, rfl⟩) | (go_at_call 28; (with_reducible refine (nil28 _).mono ?_); rintro e w9 ⟨rfl, rfl⟩) | (go_at_call 29; (with_reducible refine (nil29 _).mono ?_); rintro e w9 ⟨rfl, rfl⟩) | (go_at_call 30; (with_reducible refine (nil30 _).mono ?_); rintro e w9 ⟨rfl, rfl⟩) | (go_at_call 31; (with_reducible refine (nil31 _).mono ?_); rintro e w9 ⟨rfl, rfl⟩) | (go_at_call 32; (with_reducible refine (nil32 _).mono ?_); rintro e w9 ⟨rfl, rfl⟩) | (go_at_call 33; (with_reducible refine (nil33 _).mono ?_); rintro e w9 ⟨rfl, rfl⟩) | (go_at_call 34; (with_reducible refine (nil34 _).mono ?_); rintro e w9 ⟨rfl, rfl⟩) | (go_at_call 35; (with_reducible refine (nil35 _).mono ?_); rintro e w9 ⟨rfl, rfl⟩) | (go_at_call 36; (with_reducible refine (nil36 _).mono ?_); rintro e w9 ⟨rfl, rfl⟩) | (go_at_call 37; (with_reducible refine (nil37 _).mono ?_); rintro e w9 ⟨rfl, rfl⟩) | (go_at_call 38; (with_reducible refine (nil38 _).mono ?_); rintro e w9 ⟨rfl, rfl⟩))
      go_ret
      exact ⟨rfl, HB6.out⟩
    | some B =>
      clear hnil
      go_enter Tryz.func6, Tryz.ntmps6
      go_wp2_with fail
      refine HD.out.mono ?_
      rintro e w1 ⟨d, t, g, c, l', m', rfl, hD, hlow, hb1⟩
      have HB1 := Lib.hid hb1
      have HDD := Lib.hid hD
      clear hb1 hD hlow
      go_wp2_with fail
      refine (HN.out w1 HB1.out).mono ?_
      rintro e w2 ⟨hp, hb2⟩
      rcases hp with ⟨-, t2, g2, c2, rfl, hT, -, -⟩ | ⟨hno, -⟩
      rotate_left
      · exact absurd (HOK.out.symm.trans hno) (by simp)
      have HB2 : Hid (Below w.heap.size w w2) := HB1.out.trans (hb2.mono HB1.out.size)
      have HD2 := Lib.hid (HDD.out.below hb2)
      have HT2 := Lib.hid hT
      clear hb2 hT HDD
      go_wp2_with (first
        | (go_at_call 9; refine (told_any20 w2).mono ?_; rintro e w3 ⟨rfl, hb3⟩; have HB3 : Hid (Below w.heap.size w w3) := HB2.out.trans (hb3.mono HB2.out.size); have HD3 := Lib.hid (HD2.out.below hb3); have HT3 := Lib.hid (HT2.out.below hb3); clear hb3)
        | (go_at_call 11; (with_reducible refine (dtable_any HD3.out).mono ?_); rintro e w4 ⟨t4, g4, c4, rfl, hT4, -, -, hb4⟩; have HB4 : Hid (Below w.heap.size w w4) := HB3.out.trans (hb4.mono HB3.out.size); have HT4 := Lib.hid hT4; have HT34 := Lib.hid (HT3.out.below hb4); have HD4 := Lib.hid (HD3.out.below hb4); clear hb4 hT4)
        | (go_at_call 21; refine (show Calls Tryz.prog 21 _ w4 _ from same_any t4 g4 c4 t2 g2 c2 (lm.map prOf) (lm.map prOf) w4 HT4.out HT34.out).mono ?_; rw [same_self']; rintro e w5 ⟨rfl, hb5⟩; have HB5 : Hid (Below w.heap.size w w5) := HB4.out.trans (hb5.mono HB4.out.size); have HD5 := Lib.hid (HD4.out.below hb5); clear hb5)
        | (go_at_call 16; (with_reducible refine (ready_any HD5.out (fun p => by simp [r0])).mono ?_); rintro e w6 ⟨u6, rfl, ho6, -, hb6⟩; obtain ⟨ua6, uc6, hu6⟩ := ho6.sl; rw [show (allR r0).length = 0 by kernel_rfl] at hu6; subst hu6; have HB6 : Hid (Below w.heap.size w w6) := HB5.out.trans (hb6.mono HB5.out.size); clear hb6 ho6)
        | (go_at_call 19; (with_reducible refine (nil19b _ _).mono ?_); rintro e w9 ⟨rfl, rfl⟩)
        | (go_at_call 27; (with_reducible refine (nil27 _).mono ?_); rintro e w9 ⟨rfl, rfl⟩) | (go_at_call 12; (with_reducible refine (nil12 _).mono ?_); rintro e w9 ⟨rfl, rfl⟩) | (go_at_call 11; (with_reducible refine (nil11 _).mono ?_); rintro e w9 ⟨rfl, rfl⟩) | (go_at_call 16; (with_reducible refine (nil16 _).mono ?_); rintro e w9 ⟨rfl, rfl⟩) | (go_at_call 18; (with_reducible refine (nil18 _).mono ?_); rintro e w9 ⟨rfl, rfl⟩) | (go_at_call 19; (with_reducible refine (nil19 _).mono ?_); rintro e w9 ⟨rfl, rfl⟩) | (go_at_call 28; (with_reducible refine (nil28 _).mono ?_); rintro e w9 ⟨rfl, rfl⟩) | (go_at_call 29; (with_reducible refine (nil29 _).mono ?_); rintro e w9 ⟨rfl, rfl⟩) | (go_at_call 30; (with_reducible refine (nil30 _).mono ?_); rintro e w9 ⟨rfl, rfl⟩) | (go_at_call 31; (with_reducible refine (nil31 _).mono ?_); rintro e w9 ⟨rfl, rfl⟩) | (go_at_call 32; (with_reducible refine (nil32 _).mono ?_); rintro e w9 ⟨rfl, rfl⟩) | (go_at_call 33; (with_reducible refine (nil33 _).mono ?_); rintro e w9 ⟨rfl, rfl⟩) | (go_at_call 34; (with_reducible refine (nil34 _).mono ?_); rintro e w9 ⟨rfl, rfl⟩) | (go_at_call 35; (with_reducible refine (nil35 _).mono ?_); rintro e w9 ⟨rfl, rfl⟩) | (go_at_call 36; (with_reducible refine (nil36 _).mono ?_); rintro e w9 ⟨rfl, rfl⟩) | (go_at_call 37; (with_reducible refine (nil37 _).mono ?_); rintro e w9 ⟨rfl, rfl⟩) | (go_at_call 38; (with_reducible refine (nil38 _).mono ?_); rintro e w9 ⟨rfl, rfl⟩))
      go_ret
      exact ⟨rfl, HB6.out⟩

end Go.Proofs.YtgnjenmicojgnaaGreat
