/-
  What done, by and the methods of a Dispatch that call one of its table do.
-/
import Derived.Test.YtgnjenmicojgnaaGreatP1w
import Derived.Test.YtgnjenmicojgnaaGreatK3w
namespace Go.Proofs.YtgnjenmicojgnaaGreat
set_option linter.unusedVariables false
set_option linter.unusedSimpArgs false
open Go.RowKit

theorem cur_zero : curR zeroP = 0 := rfl
theorem cur_ok {ps : List Pr} (h : ∀ p, p ∈ ps → p.Ok) (i : Int) : 0 ≤ curR (lookP ps i) ∧ curR (lookP ps i) ≤ 63 := by
  unfold lookP
  split
  · rw [cur_zero]; omega
  · cases hp : ps[i.toNat]? with
    | none => rw [Option.getD_none, cur_zero]; omega
    | some p =>
      rw [Option.getD_some]
      have := h p (List.mem_of_getElem? hp)
      have h1 := this.pri
      have h2 := this.base
      have h3 := this.raised
      unfold curR baseR
      split <;> omega

def folR (e : Int) (p : Pr) (i : Int) (R : Nat → List Int) : Nat → List Int := if e = 0 then newR p i R else R
def folQ (e : Int) (p : Pr) (i : Int) (Q : List (Int × Int)) : List (Int × Int) := if e = 0 then newQ p i Q else Q

theorem act_pos {f : Pr → Option Pr} {may : Bool} {ps ps' : List Pr} {i : Int} (h : act f may ps i = (ps', 0)) : 0 ≤ i ∧ i < ps.length := by
  unfold act at h
  split at h
  · injection h with _ h; cases h
  · omega

section
variable {w w1 w' : World} {d t g c l m : Nat} {V V1 : Nat → Value} {v v1 : Value} {ps ps' : List Pr} {R R' : Nat → List Int} {Q Q' : List (Int × Int)}
theorem DPost.trans {r : Value} {e : Ending} (hk : Kept w w1 (inD d t g l m V v)) (hn : ∀ i, inD d t g l m V1 v1 i → inD d t g l m V v i ∨ w.heap.size ≤ i) (h : DPost w1 d t g c l m V1 v1 ps R Q r e w') : DPost w d t g c l m V v ps R Q r e w' := by
  obtain ⟨he, V', v', h1, h2, h3⟩ := h
  refine ⟨he, V', v', h1, hk.trans h2 (fun i hi h4 => ?_), fun i hi => ?_⟩
  · rcases hn i h4 with h5 | h5
    · exact h5
    · omega
  · rcases h3 i hi with h5 | h5
    · exact hn i h5
    · exact .inr (Nat.le_trans hk.size h5)
theorem DPost.id {r : Value} (h : Dsp w d t g c l m V v ps R Q) : DPost w d t g c l m V v ps R Q r (.returned r) w := ⟨rfl, V, v, h, Kept.refl _ _, fun i hi => .inl hi⟩
end

set_option maxRecDepth 100000 in
set_option maxHeartbeats 1000000 in
theorem ddone_any {w : World} {d t g c l m : Nat} {V : Nat → Value} {v : Value} {ps : List Pr} {R : Nat → List Int} {Q : List (Int × Int)} (h : Dsp w d t g c l m V v ps R Q) (i x : Int) (hi : x = 0 → 0 ≤ i)
    (hl : ∀ p, (R p).length ≤ 1000) (hQ : Q.length ≤ 900) (hnd : (Q.map Prod.fst).Nodup) :
    Calls Tryz.prog 69 #[.pointer (some ⟨d, 0, none⟩), .int .i64 i, .int .i64 x] w (DPost w d t g c l m V v ps (folR x (lookP ps i) i R) (folQ x (lookP ps i) i Q) (.int .i64 x)) := by
  by_cases hx : x = 0
  · subst hx
    have HF := Lib.hid (follow_any h i (hi rfl) (cur_ok h.ok i) hl hQ hnd)
    unfold folR folQ
    rw [if_pos rfl, if_pos rfl]
    clear h hl hQ hnd hi
    go_enter Tryz.func69, Tryz.ntmps69
    go_wp2_with fail
    refine HF.out.mono ?_
    intro e w1 hp
    have HP := Lib.hid (hp.to (r' := .int .i64 0))
    obtain ⟨rfl, -⟩ := hp
    go_wp2
    go_ret
    exact HP.out
  · have hxb : (x == 0) = false := by simpa using hx
    have HP := Lib.hid (DPost.id (r := .int .i64 x) h)
    unfold folR folQ
    rw [if_neg hx, if_neg hx]
    clear h hl hQ hnd hi
    go_enter Tryz.func69, Tryz.ntmps69
    go_wp2
    go_ret
    exact HP.out

def DCall (w : World) (d t g c l m : Nat) (V : Nat → Value) (v : Value) (R : Nat → List Int) (Q : List (Int × Int)) (i : Int) (o : List Pr × Int) : Ending → World → Prop :=
  DPost w d t g c l m V v o.1 (folR o.2 (lookP o.1 i) i R) (folQ o.2 (lookP o.1 i) i Q) (.int .i64 o.2)

set_option maxRecDepth 100000 in
set_option maxHeartbeats 1000000 in
theorem by_any (k : Nat) (ek : Enters k) {w : World} {d t g c l m : Nat} {V : Nat → Value} {v : Value} {ps ps' : List Pr} {x : Int} {R : Nat → List Int} {Q : List (Int × Int)} (h : Dsp w d t g c l m V v ps R Q) (i : Int) (hi : x = 0 → 0 ≤ i)
    (hc : Calls Tryz.prog k #[.pointer (some ⟨t, 0, none⟩), .int .i64 i] w fun e w' => e = .returned (.int .i64 x) ∧ Tab w' t g c ps' ∧ Apart w.heap.size w w' g) (hok : ∀ p, p ∈ ps' → p.Ok)
    (hl : ∀ p, (R p).length ≤ 1000) (hQ : Q.length ≤ 900) (hnd : (Q.map Prod.fst).Nodup) :
    Calls Tryz.prog 71 #[.pointer (some ⟨d, 0, none⟩), .int .i64 i, .func (.func k) #[] #[]] w (DCall w d t g c l m V v R Q i (ps', x)) := by
  have c0 := h.c0
  have hdl := h.dl
  have H := Lib.hid h
  have HC := Lib.hid hc
  have HOK := Lib.hid hok
  have HND := Lib.hid hnd
  have HL := Lib.hid hl
  unfold Enters at ek
  clear h hc hok hnd hl
  go_enter Tryz.func71, Tryz.ntmps71
  go_wp2_with fail
  refine Calls.mono HC.out ?_
  rintro e w1 ⟨rfl, hT1, hA1⟩
  have H1 := Lib.hid (H.out.tab hT1 HOK.out hA1)
  have HK1 : Hid (Kept w w1 (inD d t g l m V v)) := hA1.kept.mono (fun i _ e => .inr (.inr (.inl e)))
  clear hT1 hA1 c0
  go_wp2_with fail
  refine (ddone_any H1.out i x hi HL.out hQ HND.out).mono ?_
  intro e w2 hp
  have HP : Hid (DCall w d t g c l m V v R Q i (ps', x) e w2) := DPost.after HK1.out hp
  obtain ⟨rfl, -⟩ := hp
  go_wp2
  go_ret
  exact HP.out

set_option maxRecDepth 100000 in
set_option maxHeartbeats 1000000 in
theorem dstart_any {w : World} {d t g c l m : Nat} {V : Nat → Value} {v : Value} {ps : List Pr} {R : Nat → List Int} {Q : List (Int × Int)} (h : Dsp w d t g c l m V v ps R Q) (i n : Int)
    (hl : ∀ p, (R p).length ≤ 1000) (hQ : Q.length ≤ 900) (hnd : (Q.map Prod.fst).Nodup) :
    Calls Tryz.prog 28 #[.pointer (some ⟨d, 0, none⟩), .int .i64 i, .int .i64 n] w (DCall w d t g c l m V v R Q i (act (startF n) (tickB n) ps i)) := by
  obtain ⟨⟨ps', x⟩, hact⟩ : ∃ o, act (startF n) (tickB n) ps i = o := ⟨_, rfl⟩
  rw [hact]
  have hi : x = 0 → 0 ≤ i := fun hx => by subst hx; exact (act_pos hact).1
  have hok : ∀ p, p ∈ ps' → p.Ok := by
    have := act_ok (keeps_start n) h.ok i
    rw [hact] at this
    exact this
  have c0 := h.c0
  have hdl := h.dl
  have H := Lib.hid h
  have HC := Lib.hid (start_is i n hact h.T h.ok)
  have HOK := Lib.hid hok
  have HND := Lib.hid hnd
  have HL := Lib.hid hl
  clear h hok hnd hl hact
  go_enter Tryz.func28, Tryz.ntmps28
  go_wp2_with fail
  refine Calls.mono HC.out ?_
  rintro e w1 ⟨rfl, hT1, hA1⟩
  have H1 := Lib.hid (H.out.tab hT1 HOK.out hA1)
  have HK1 : Hid (Kept w w1 (inD d t g l m V v)) := hA1.kept.mono (fun i _ e => .inr (.inr (.inl e)))
  clear hT1 hA1 c0
  go_wp2_with fail
  refine (ddone_any H1.out i x hi HL.out hQ HND.out).mono ?_
  intro e w2 hp
  have HP : Hid (DCall w d t g c l m V v R Q i (ps', x) e w2) := DPost.after HK1.out hp
  obtain ⟨rfl, -⟩ := hp
  go_wp2
  go_ret
  exact HP.out

set_option maxRecDepth 100000 in
set_option maxHeartbeats 1000000 in
theorem dwait_any {w : World} {d t g c l m : Nat} {V : Nat → Value} {v : Value} {ps : List Pr} {R : Nat → List Int} {Q : List (Int × Int)} (h : Dsp w d t g c l m V v ps R Q) (i n : Int)
    (hl : ∀ p, (R p).length ≤ 1000) (hQ : Q.length ≤ 900) (hnd : (Q.map Prod.fst).Nodup) :
    Calls Tryz.prog 32 #[.pointer (some ⟨d, 0, none⟩), .int .i64 i, .int .i64 n] w (DCall w d t g c l m V v R Q i (act (waitF n) (decide (n ≤ 1099511627776)) ps i)) := by
  obtain ⟨⟨ps', x⟩, hact⟩ : ∃ o, act (waitF n) (decide (n ≤ 1099511627776)) ps i = o := ⟨_, rfl⟩
  rw [hact]
  have hi : x = 0 → 0 ≤ i := fun hx => by subst hx; exact (act_pos hact).1
  have hok : ∀ p, p ∈ ps' → p.Ok := by
    have := act_ok (keeps_wait n) h.ok i
    rw [hact] at this
    exact this
  have c0 := h.c0
  have hdl := h.dl
  have H := Lib.hid h
  have HC := Lib.hid (wait_is i n hact h.T h.ok)
  have HOK := Lib.hid hok
  have HND := Lib.hid hnd
  have HL := Lib.hid hl
  clear h hok hnd hl hact
  go_enter Tryz.func32, Tryz.ntmps32
  go_wp2_with fail
  refine Calls.mono HC.out ?_
  rintro e w1 ⟨rfl, hT1, hA1⟩
  have H1 := Lib.hid (H.out.tab hT1 HOK.out hA1)
  have HK1 : Hid (Kept w w1 (inD d t g l m V v)) := hA1.kept.mono (fun i _ e => .inr (.inr (.inl e)))
  clear hT1 hA1 c0
  go_wp2_with fail
  refine (ddone_any H1.out i x hi HL.out hQ HND.out).mono ?_
  intro e w2 hp
  have HP : Hid (DCall w d t g c l m V v R Q i (ps', x) e w2) := DPost.after HK1.out hp
  obtain ⟨rfl, -⟩ := hp
  go_wp2
  go_ret
  exact HP.out

theorem enters72 : Enters 72 := fun _ _ => by kernel_rfl
set_option maxRecDepth 100000 in
set_option maxHeartbeats 1000000 in
theorem dstop_any {w : World} {d t g c l m : Nat} {V : Nat → Value} {v : Value} {ps : List Pr} {R : Nat → List Int} {Q : List (Int × Int)} (h : Dsp w d t g c l m V v ps R Q) (i : Int)
    (hl : ∀ p, (R p).length ≤ 1000) (hQ : Q.length ≤ 900) (hnd : (Q.map Prod.fst).Nodup) :
    Calls Tryz.prog 29 #[.pointer (some ⟨d, 0, none⟩), .int .i64 i] w (DCall w d t g c l m V v R Q i (act stopF true ps i)) := by
  obtain ⟨⟨ps', x⟩, hact⟩ : ∃ o, act stopF true ps i = o := ⟨_, rfl⟩
  rw [hact]
  have hok : ∀ p, p ∈ ps' → p.Ok := by
    have := act_ok keeps_stop h.ok i
    rw [hact] at this
    exact this
  have HC := Lib.hid (by_any 72 enters72 h i (fun hx => by subst hx; exact (act_pos hact).1) (stop_is i hact h.T h.ok) hok hl hQ hnd)
  clear h hok hnd hl hact
  go_enter Tryz.func29, Tryz.ntmps29
  go_wp2_with fail
  refine Calls.mono HC.out ?_
  intro e w2 hp
  have HP := Lib.hid hp
  obtain ⟨rfl, -⟩ := hp
  go_wp2
  go_ret
  exact HP.out

theorem enters73 : Enters 73 := fun _ _ => by kernel_rfl
set_option maxRecDepth 100000 in
set_option maxHeartbeats 1000000 in
theorem dsusp_any {w : World} {d t g c l m : Nat} {V : Nat → Value} {v : Value} {ps : List Pr} {R : Nat → List Int} {Q : List (Int × Int)} (h : Dsp w d t g c l m V v ps R Q) (i : Int)
    (hl : ∀ p, (R p).length ≤ 1000) (hQ : Q.length ≤ 900) (hnd : (Q.map Prod.fst).Nodup) :
    Calls Tryz.prog 30 #[.pointer (some ⟨d, 0, none⟩), .int .i64 i] w (DCall w d t g c l m V v R Q i (act suspF true ps i)) := by
  obtain ⟨⟨ps', x⟩, hact⟩ : ∃ o, act suspF true ps i = o := ⟨_, rfl⟩
  rw [hact]
  have hok : ∀ p, p ∈ ps' → p.Ok := by
    have := act_ok keeps_susp h.ok i
    rw [hact] at this
    exact this
  have HC := Lib.hid (by_any 73 enters73 h i (fun hx => by subst hx; exact (act_pos hact).1) (susp_is i hact h.T h.ok) hok hl hQ hnd)
  clear h hok hnd hl hact
  go_enter Tryz.func30, Tryz.ntmps30
  go_wp2_with fail
  refine Calls.mono HC.out ?_
  intro e w2 hp
  have HP := Lib.hid hp
  obtain ⟨rfl, -⟩ := hp
  go_wp2
  go_ret
  exact HP.out

theorem enters74 : Enters 74 := fun _ _ => by kernel_rfl
set_option maxRecDepth 100000 in
set_option maxHeartbeats 1000000 in
theorem dresu_any {w : World} {d t g c l m : Nat} {V : Nat → Value} {v : Value} {ps : List Pr} {R : Nat → List Int} {Q : List (Int × Int)} (h : Dsp w d t g c l m V v ps R Q) (i : Int)
    (hl : ∀ p, (R p).length ≤ 1000) (hQ : Q.length ≤ 900) (hnd : (Q.map Prod.fst).Nodup) :
    Calls Tryz.prog 31 #[.pointer (some ⟨d, 0, none⟩), .int .i64 i] w (DCall w d t g c l m V v R Q i (act resuF true ps i)) := by
  obtain ⟨⟨ps', x⟩, hact⟩ : ∃ o, act resuF true ps i = o := ⟨_, rfl⟩
  rw [hact]
  have hok : ∀ p, p ∈ ps' → p.Ok := by
    have := act_ok keeps_resu h.ok i
    rw [hact] at this
    exact this
  have HC := Lib.hid (by_any 74 enters74 h i (fun hx => by subst hx; exact (act_pos hact).1) (resu_is i hact h.T h.ok) hok hl hQ hnd)
  clear h hok hnd hl hact
  go_enter Tryz.func31, Tryz.ntmps31
  go_wp2_with fail
  refine Calls.mono HC.out ?_
  intro e w2 hp
  have HP := Lib.hid hp
  obtain ⟨rfl, -⟩ := hp
  go_wp2
  go_ret
  exact HP.out

theorem enters66 : Enters 66 := fun _ _ => by kernel_rfl
set_option maxRecDepth 100000 in
set_option maxHeartbeats 1000000 in
theorem dwake_any {w : World} {d t g c l m : Nat} {V : Nat → Value} {v : Value} {ps : List Pr} {R : Nat → List Int} {Q : List (Int × Int)} (h : Dsp w d t g c l m V v ps R Q) (i : Int)
    (hl : ∀ p, (R p).length ≤ 1000) (hQ : Q.length ≤ 900) (hnd : (Q.map Prod.fst).Nodup) :
    Calls Tryz.prog 33 #[.pointer (some ⟨d, 0, none⟩), .int .i64 i] w (DCall w d t g c l m V v R Q i (act wakeF true ps i)) := by
  obtain ⟨⟨ps', x⟩, hact⟩ : ∃ o, act wakeF true ps i = o := ⟨_, rfl⟩
  rw [hact]
  have hok : ∀ p, p ∈ ps' → p.Ok := by
    have := act_ok keeps_wake h.ok i
    rw [hact] at this
    exact this
  have HC := Lib.hid (by_any 66 enters66 h i (fun hx => by subst hx; exact (act_pos hact).1) (wake_is i hact h.T h.ok) hok hl hQ hnd)
  clear h hok hnd hl hact
  go_enter Tryz.func33, Tryz.ntmps33
  go_wp2_with fail
  refine Calls.mono HC.out ?_
  intro e w2 hp
  have HP := Lib.hid hp
  obtain ⟨rfl, -⟩ := hp
  go_wp2
  go_ret
  exact HP.out

def doneRQ (x : Int) (i : Int) (R : Nat → List Int) : Nat → List Int := if x = 0 then rmR R i else R
theorem rmR_len {R : Nat → List Int} {i : Int} (hl : ∀ p, (R p).length ≤ 1000) (p : Nat) : (rmR R i p).length ≤ 1000 := by
  unfold rmR
  cases prio R i with
  | none => exact hl p
  | some q => exact upd_le hl (Nat.le_trans (by rw [List.length_erase]; split <;> omega) (hl q)) p

set_option maxRecDepth 100000 in
set_option maxHeartbeats 1000000 in
theorem ddone2_any {w : World} {d t g c l m : Nat} {V : Nat → Value} {v : Value} {ps : List Pr} {R : Nat → List Int} {Q : List (Int × Int)} (h : Dsp w d t g c l m V v ps R Q) (i n : Int)
    (hl : ∀ p, (R p).length ≤ 1000) (hQ : Q.length ≤ 900) (hnd : (Q.map Prod.fst).Nodup) :
    Calls Tryz.prog 34 #[.pointer (some ⟨d, 0, none⟩), .int .i64 i, .int .i64 n] w (DCall w d t g c l m V v (doneRQ (act (doneF n) (tickB n) ps i).2 i R) Q i (act (doneF n) (tickB n) ps i)) := by
  obtain ⟨⟨ps', x⟩, hact⟩ : ∃ o, act (doneF n) (tickB n) ps i = o := ⟨_, rfl⟩
  rw [hact]
  have hi : x = 0 → 0 ≤ i := fun hx => by subst hx; exact (act_pos hact).1
  have hok : ∀ p, p ∈ ps' → p.Ok := by
    have := act_ok (keeps_done n) h.ok i
    rw [hact] at this
    exact this
  obtain ⟨nx, hnx⟩ : ∃ nx, doneR ps i n = nx := ⟨_, rfl⟩
  have c0 := h.c0
  have hdl := h.dl
  have H := Lib.hid h
  have HC := Lib.hid (done_is i n hact hnx h.T h.ok)
  have HOK := Lib.hid hok
  have HND := Lib.hid hnd
  have HL := Lib.hid hl
  obtain ⟨b, hb⟩ : ∃ b, (prio R i).isSome = b := ⟨_, rfl⟩
  have HPB := Lib.hid hb
  clear h hok hnd hl hact hnx hb
  by_cases hx : x = 0
  · subst hx
    have HRM : Hid (doneRQ 0 i R = rmR R i) := if_pos rfl
    have hi0 : 0 ≤ i := hi rfl
    clear hi
    go_enter Tryz.func34, Tryz.ntmps34
    go_wp2_with fail
    refine Calls.mono HC.out ?_
    rintro e w1 ⟨rfl, hT1, hA1⟩
    have H1 := Lib.hid (H.out.tab hT1 HOK.out hA1)
    have HK1 : Hid (Kept w w1 (inD d t g l m V v)) := hA1.kept.mono (fun i _ e => .inr (.inr (.inl e)))
    have c1 := H1.out.c1
    have hdl1 := H1.out.dl
    clear hT1 hA1 c0
    go_wp2_with fail
    refine (rdrop_any l V R i w1 H1.out.L HPB.out).mono ?_
    rintro e w2 ⟨rfl, V2, hL2, hk2, hn2⟩
    have H2 := Lib.hid (H1.out.lst hL2 hk2 hn2)
    have HK2 : Hid (Kept w w2 (inD d t g l m V v)) := HK1.out.trans hk2 (fun j _ hj => .inr (.inr (.inr (.inl hj))))
    have HN2 : Hid (∀ j, inD d t g l m V2 v j → inD d t g l m V v j ∨ w.heap.size ≤ j) := by
      rintro j (rfl | rfl | rfl | hj | hj)
      · exact .inl (.inl rfl)
      · exact .inl (.inr (.inl rfl))
      · exact .inl (.inr (.inr (.inl rfl)))
      · exact (hn2 j hj).imp (fun h => .inr (.inr (.inr (.inl h)))) (fun h => Nat.le_trans HK1.out.size h)
      · exact .inl (.inr (.inr (.inr (.inr hj))))
    clear hL2 hk2 hn2 c1
    go_wp2_with fail
    refine (ddone_any H2.out i 0 (fun _ => hi0) (rmR_len HL.out) hQ HND.out).mono ?_
    intro e w3 hp
    have HP : Hid (DCall w d t g c l m V v (doneRQ 0 i R) Q i (ps', 0) e w3) := by
      unfold Hid
      rw [HRM.out]
      exact DPost.trans HK2.out HN2.out hp
    obtain ⟨rfl, -⟩ := hp
    go_wp2
    go_ret
    exact HP.out
  · have HRM : Hid (doneRQ x i R = R) := if_neg hx
    have hxb : (x == 0) = false := by simpa using hx
    go_enter Tryz.func34, Tryz.ntmps34
    go_wp2_with fail
    refine Calls.mono HC.out ?_
    rintro e w1 ⟨rfl, hT1, hA1⟩
    have H1 := Lib.hid (H.out.tab hT1 HOK.out hA1)
    have HK1 : Hid (Kept w w1 (inD d t g l m V v)) := hA1.kept.mono (fun i _ e => .inr (.inr (.inl e)))
    clear hT1 hA1 c0
    go_wp2_with fail
    refine (ddone_any H1.out i x hi HL.out hQ HND.out).mono ?_
    intro e w3 hp
    have HP : Hid (DCall w d t g c l m V v (doneRQ x i R) Q i (ps', x) e w3) := by
      unfold Hid
      rw [HRM.out]
      exact DPost.after HK1.out hp
    obtain ⟨rfl, -⟩ := hp
    go_wp2
    go_ret
    exact HP.out

end Go.Proofs.YtgnjenmicojgnaaGreat
