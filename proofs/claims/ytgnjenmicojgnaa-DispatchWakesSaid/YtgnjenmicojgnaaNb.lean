/-
  What follow does behind a process that begins to wait; what Wait of a Dispatch does.
  The plain law of DispatchWakes: who waits, who is awake.
  What Advance of a Dispatch does, of processes that wait.
-/
import Derived.Test.YtgnjenmicojgnaaMb
import Derived.Test.YtgnjenmicojgnaaKa
import Derived.Test.YtgnjenmicojgnaaK5w
import Derived.Test.YtgnjenmicojgnaaC3
namespace Go.Proofs.Ytgnjenmicojgnaa
set_option linter.unusedVariables false
set_option linter.unusedSimpArgs false
open Go.RowKit

section
variable {w w' : World} {d t g c l m : Nat} {V : Nat → Value} {v : Value} {ps ps' : List Pr} {R R' : Nat → List Int} {Q Q' : List (Int × Int)}

/-- A call of the timers. -/
theorem Dsp.tms (h : Dsp w d t g c l m V v ps R Q) {v' : Value} (hM : Tms w' m v' Q') (hk : Kept w w' (inT m v)) (hn : ∀ i, inT m v' i → inT m v i ∨ w.heap.size ≤ i) : Dsp w' d t g c l m V v' ps R Q' := by
  have hc : ∀ j, w'.cell? ⟨d, j, none⟩ = w.cell? ⟨d, j, none⟩ := fun j => hk.cell (a := ⟨d, j, none⟩) h.dl h.dT
  have no : ∀ i, i < w.heap.size → ¬ inT m v i → ¬ inT m v' i := fun i hi hni hi' => by
    rcases hn i hi' with h1 | h1
    · exact hni h1
    · omega
  exact ⟨(hc 0).trans h.c0, (hc 1).trans h.c1, (hc 2).trans h.c2, Nat.lt_of_lt_of_le h.dl hk.size, Nat.lt_of_lt_of_le h.gl hk.size,
    h.T.keep2 (hk.block t h.T.lt h.tT) (hk.block g h.gl h.gT), h.ok, h.L.kept hk (fun i hi hi' => h.LT i hi hi'), hM, h.dg, h.dL, no d h.dl h.dT, h.tL, no t h.T.lt h.tT, h.gL, no g h.gl h.gT,
    fun i hi hi' => no i (h.L.lt hi) (h.LT i hi) hi'⟩
end

set_option maxRecDepth 100000 in
set_option maxHeartbeats 2000000 in
theorem follow_wait {w : World} {d t g c l m : Nat} {V : Nat → Value} {v : Value} {ps : List Pr} {R R' : Nat → List Int} {Q : List (Int × Int)} (h : Dsp w d t g c l m V v ps R Q) (i a : Int) (p : Nat)
    (hst : stateR (lookP ps i) = 2) (hpr : prio R i = some p) (hR : upd R p ((R p).erase i) = R') (hun : untilR (lookP ps i) = a) (hub : untilB (lookP ps i) = true) (hQ : Q.length ≤ 900) (hq : idxQ Q i = -1) :
    Calls Try.prog 109 #[.pointer (some ⟨d, 0, none⟩), .int .i64 i] w (DPost w d t g c l m V v ps R' (insQ Q (i, a)) (.tuple #[])) := by
  have c0 := h.c0
  have c1 := h.c1
  have c2 := h.c2
  have hdl := h.dl
  have H := Lib.hid h
  have HST := Lib.hid hst
  have HPR := Lib.hid hpr
  have HR := Lib.hid hR
  have HUN := Lib.hid hun
  have HUB := Lib.hid hub
  have HQ := Lib.hid hq
  clear h hst hpr hR hun hub hq
  go_enter Try.func109, Try.ntmps109
  go_wp2_with fail
  refine (prio_is (k := p) (b := true) H.out.L (by rw [HPR.out]; rfl) (by rw [HPR.out]; rfl)).mono ?_
  rintro e w1 ⟨rfl, rfl⟩
  go_wp2_with fail
  refine (state_is i HST.out H.out.T).mono ?_
  rintro e w2 ⟨rfl, hb2⟩
  have H2 := Lib.hid (H.out.below hb2)
  have HB2 := Lib.hid hb2
  have d0 := H2.out.c0
  have d1 := H2.out.c1
  have hdl2 := H2.out.dl
  clear hb2 c0 c1 c2
  go_wp2_with fail
  refine (drop_some l p V R i w2 H2.out.L HPR.out).mono ?_
  rw [HR.out]
  rintro e w3 ⟨rfl, V3, hL3, hk3, hn3⟩
  have H3 := Lib.hid (H2.out.lst hL3 hk3 hn3)
  have HK3 : Hid (Kept w1 w3 (inL l V)) := (Kept.of_below HB2.out).trans hk3 (fun _ _ hi => hi)
  have HN3 : Hid (∀ i, inL l V3 i → inL l V i ∨ w1.heap.size ≤ i) := fun i hi => (hn3 i hi).imp (fun h => h) (fun hle => by have := HB2.out.size; omega)
  have e0 := H3.out.c0
  have hdl3 := H3.out.dl
  clear hL3 hk3 hn3 d0 d1
  go_wp2_with fail
  refine (until_is i HUN.out HUB.out H3.out.T).mono ?_
  rintro e w5 ⟨rfl, hb5⟩
  have H5 := Lib.hid (H3.out.below hb5)
  have HB5 := Lib.hid hb5
  have k2 := H5.out.c2
  have hdl5 := H5.out.dl
  clear hb5 e0
  go_wp2_with fail
  refine (at_none m v Q i w5 H5.out.M (by omega) HQ.out).mono ?_
  rintro e w6 ⟨rfl, hb6⟩
  have H6 := Lib.hid (H5.out.below hb6)
  have HB6 := Lib.hid hb6
  have l2 := H6.out.c2
  have hdl6 := H6.out.dl
  clear hb6 k2
  go_wp2_with fail
  refine (tset_none m v Q i a w6 H6.out.M hQ HQ.out).mono ?_
  rintro e w7 ⟨rfl, v7, hM7, hk7, hn7⟩
  have HPP : Hid (DPost w1 d t g c l m V v ps R' (insQ Q (i, a)) (.tuple #[]) (.returned (.tuple #[])) w7) := by
    have hs3 := HK3.out.size
    have hs5 := HB5.out.size
    have hs6 := HB6.out.size
    refine ⟨rfl, V3, v7, H6.out.tms hM7 hk7 hn7, (((HK3.out.mono (S' := inD d t g l m V v) (fun i _ hi => .inr (.inr (.inr (.inl hi))))).trans (Kept.of_below (S := fun _ => False) HB5.out) (fun _ _ hi => hi.elim)).trans (Kept.of_below (S := fun _ => False) HB6.out) (fun _ _ hi => hi.elim)).trans hk7 (fun i _ hi => .inr (.inr (.inr (.inr hi)))), ?_⟩
    rintro j (rfl | rfl | rfl | hj | hj)
    · exact .inl (.inl rfl)
    · exact .inl (.inr (.inl rfl))
    · exact .inl (.inr (.inr (.inl rfl)))
    · exact (HN3.out j hj).imp (fun h => .inr (.inr (.inr (.inl h)))) (fun h => h)
    · exact (hn7 j hj).imp (fun h => .inr (.inr (.inr (.inr h)))) (fun h => by omega)
  clear hM7 hk7 hn7
  go_wp2
  go_end0
  exact HPP.out

set_option maxRecDepth 100000 in
set_option maxHeartbeats 1000000 in
theorem dwait_ok {w : World} {d t g c l m : Nat} {V : Nat → Value} {v : Value} {ps ps' : List Pr} {R R' : Nat → List Int} {Q Q' : List (Int × Int)} (h : Dsp w d t g c l m V v ps R Q) (i n : Int) (hact : act (waitF n) (decide (n ≤ 1099511627776)) ps i = (ps', 0))
    (hf : ∀ W, Dsp W d t g c l m V v ps' R Q → Calls Try.prog 109 #[.pointer (some ⟨d, 0, none⟩), .int .i64 i] W (DPost W d t g c l m V v ps' R' Q' (.tuple #[]))) :
    Calls Try.prog 42 #[.pointer (some ⟨d, 0, none⟩), .int .i64 i, .int .i64 n] w (DPost w d t g c l m V v ps' R' Q' (.int .i64 0)) := by
  have c0 := h.c0
  have hdl := h.dl
  have H := Lib.hid h
  have HF := Lib.hid hf
  have HACT := Lib.hid hact
  clear h hf hact
  go_enter Try.func42, Try.ntmps42
  go_wp2_with fail
  refine (wait_is i n HACT.out H.out.T H.out.ok).mono ?_
  rintro e w1 ⟨rfl, hT1, hA1⟩
  have hok : ∀ p, p ∈ ps' → p.Ok := by
    have := act_ok (keeps_wait n) H.out.ok i (may := decide (n ≤ 1099511627776))
    rw [HACT.out] at this
    exact this
  have H1 := Lib.hid (H.out.tab hT1 hok hA1)
  have HK1 : Hid (Kept w w1 (inD d t g l m V v)) := hA1.kept.mono (fun i _ e => .inr (.inr (.inl e)))
  clear hT1 hA1 c0 hok
  go_wp2_with fail
  refine (done_ok i (HF.out w1 H1.out)).mono ?_
  intro e w2 hp
  have HP := Lib.hid (DPost.after HK1.out hp)
  obtain ⟨rfl, -⟩ := hp
  go_wp2
  go_ret
  exact HP.out

end Go.Proofs.Ytgnjenmicojgnaa

namespace Go.Proofs.Ytgnjenmicojgnaa
set_option linter.unusedVariables false
set_option linter.unusedSimpArgs false
open Go.RowKit

/-- A process of priority 5 that waits up to a tick; one that was woken. -/
def wP (a : Int) : Pr := ⟨5, 0, 0, 0, 0, 2, false, 5, 0, a, 0, 0, false⟩
def kP (a : Int) : Pr := ⟨5, 0, 0, 0, 0, 1, false, 5, 0, a, 0, 0, false⟩

theorem wait_sP {a : Int} (ha : 0 ≤ a) : waitF a (sP 5 0) = some (wP a) := by
  unfold waitF sP wP
  simp
  omega
theorem wake_wP (a : Int) : wakeF (wP a) = some (kP a) := rfl
theorem rele_wP (now a : Int) : releF now (wP a) = none := rfl
theorem until_wP {a : Int} (ha : 0 ≤ a) : untilB (wP a) = true ∧ untilR (wP a) = a := by
  have h : a ≠ -1 := by omega
  constructor
  · unfold untilB wP
    simp [h]
  · unfold untilR wP
    simp [h]
theorem until_kP (a : Int) : untilB (kP a) = false := rfl

structure WInv (n : Nat) (row : List Int) (Q : List (Int × Int)) (ps : List Pr) : Prop where
  len : ps.length = n
  sum : row.length + Q.length = n
  nd : (row ++ Q.map Prod.fst).Nodup
  rng : ∀ x, x ∈ row → 0 ≤ x ∧ x < n
  wt : ∀ q, q ∈ Q → 0 ≤ q.1 ∧ q.1 < n ∧ 0 ≤ q.2 ∧ q.2 ≤ 20 ∧ ps[q.1.toNat]? = some (wP q.2)
  dl : ∀ p, p ∈ ps → p.dl = 0

theorem idxQ_none {Q : List (Int × Int)} {x : Int} (h : x ∉ Q.map Prod.fst) : idxQ Q x = -1 := by
  unfold idxQ
  have : Q.findIdx? (fun q => q.1 == x) = none := by
    rw [List.findIdx?_eq_none_iff]
    intro q hq
    have : q.1 ≠ x := fun e => h (by rw [List.mem_map]; exact ⟨q, hq, e⟩)
    simpa using this
  rw [this]

/-- The first one that waits is woken. -/
theorem WInv.wake {n : Nat} {row : List Int} {q : Int × Int} {Q : List (Int × Int)} {ps : List Pr} (h : WInv n row (q :: Q) ps) (now : Int) :
    act (releF now) (tickB now) ps q.1 = (ps, if tickB now = true then 10 else 2) ∧ ∃ ps', act wakeF true ps q.1 = (ps', 0) ∧ WInv n (row ++ [q.1]) Q ps' ∧ lookP ps' q.1 = kP q.2 ∧ q.1 ∉ row ∧ q.1 ∉ Q.map Prod.fst ∧ 0 ≤ q.1 := by
  obtain ⟨h1, h2, h3, h4, h5⟩ := h.wt q (List.mem_cons_self ..)
  have hnd := h.nd
  rw [List.map_cons, List.nodup_append] at hnd
  obtain ⟨nd1, nd2, nd3⟩ := hnd
  rw [List.nodup_cons] at nd2
  have hno : q.1 ∉ row := fun hm => nd3 q.1 hm q.1 (List.mem_cons_self ..) rfl
  have hlt : q.1.toNat < ps.length := (List.getElem?_eq_some_iff.1 h5).1
  have hset : ∀ j : Nat, j ≠ q.1.toNat → (ps.set q.1.toNat (kP q.2))[j]? = ps[j]? := fun j hj => by rw [List.getElem?_set, if_neg (Ne.symm hj)]
  refine ⟨?_, ps.set q.1.toNat (kP q.2), ?_, ⟨by simpa using h.len, by have := h.sum; simp at this ⊢; omega, ?_, fun x hx => ?_, fun r hr => ?_, fun p hp => ?_⟩, ?_, hno, nd2.1, h1⟩
  · rw [act_in (f := releF now) (may := tickB now) h1 h5]
    unfold stepP codeP
    rw [rele_wP]
    have hs : ps.set q.1.toNat (wP q.2) = ps := by
      apply List.ext_getElem?
      intro j
      rw [List.getElem?_set]
      by_cases e : q.1.toNat = j
      · subst e
        rw [if_pos rfl, if_pos hlt, h5]
      · rw [if_neg e]
    by_cases ht : tickB now = true <;> simp [ht, hs]
  · rw [act_in (f := wakeF) (may := true) h1 h5]
    unfold stepP codeP
    rw [wake_wP]
    simp
  · rw [List.append_assoc, List.singleton_append, ← List.map_cons]
    exact h.nd
  · rw [List.mem_append, List.mem_singleton] at hx
    rcases hx with hx | rfl
    · exact h.rng x hx
    · exact ⟨h1, h2⟩
  · obtain ⟨k1, k2, k3, k4, k5⟩ := h.wt r (List.mem_cons_of_mem _ hr)
    refine ⟨k1, k2, k3, k4, ?_⟩
    rw [hset _ (fun e => nd2.1 (by rw [List.mem_map]; exact ⟨r, hr, by omega⟩))]
    exact k5
  · rcases List.mem_or_eq_of_mem_set hp with hp | rfl
    · exact h.dl p hp
    · rfl
  · unfold lookP
    rw [if_neg (by omega), List.getElem?_set, if_pos rfl, if_pos hlt]
    rfl

theorem WInv.miss {n : Nat} {row : List Int} {Q : List (Int × Int)} {ps : List Pr} (h : WInv n row Q ps) (now : Int) : idsTo now ps ps.length = [] ∧ ps.map (markP now) = ps := by
  have hm : ∀ p, p ∈ ps → missB now p = false := fun p hp => by
    unfold missB
    rw [h.dl p hp]
    simp
  constructor
  · unfold idsTo
    rw [List.map_eq_nil_iff, List.filter_eq_nil_iff]
    intro i hi
    unfold isMiss
    cases hp : ps[i]? with
    | none => simp
    | some p => simp [hm p (List.mem_of_getElem? hp)]
  · have : ∀ p, p ∈ ps → markP now p = p := fun p hp => by
      unfold markP
      rw [hm p hp]
      simp
    rw [List.map_congr_left this, List.map_id']

end Go.Proofs.Ytgnjenmicojgnaa

namespace Go.Proofs.Ytgnjenmicojgnaa
set_option linter.unusedVariables false
set_option linter.unusedSimpArgs false
open Go.RowKit

def AdvPost (w : World) (n d t g c l m : Nat) (V : Nat → Value) (v : Value) (row : List Int) (Q : List (Int × Int)) (k : Nat) (e : Ending) (w' : World) : Prop :=
  ∃ u a2 c2 V' v' ps', e = .returned (.tuple #[u, .slice a2 0 c2]) ∧ RI w' u ((Q.take k).map Prod.fst) ∧ WInv n (row ++ (Q.take k).map Prod.fst) (Q.drop k) ps' ∧ Dsp w' d t g c l m V' v' ps' (rowR 5 (row ++ (Q.take k).map Prod.fst)) (Q.drop k) ∧
    Kept w w' (inD d t g l m V v) ∧ (∀ i, inD d t g l m V' v' i → inD d t g l m V v i ∨ w.heap.size ≤ i)

set_option maxRecDepth 100000 in
set_option maxHeartbeats 4000000 in
theorem advance_any {w : World} {n d t g c l m : Nat} {V : Nat → Value} {v : Value} {ps : List Pr} {row : List Int} {Q : List (Int × Int)} (h : Dsp w d t g c l m V v ps (rowR 5 row) Q) (hi : WInv n row Q ps) (now : Int) (h0 : 0 ≤ now) (h1 : now ≤ 1000) (hn : n ≤ 100) :
    Calls Try.prog 45 #[.pointer (some ⟨d, 0, none⟩), .int .i64 now] w (AdvPost w n d t g c l m V v row Q (iQ Q now)) := by
  have c2 := h.c2
  have hdl := h.dl
  have H := Lib.hid h
  have HI := Lib.hid hi
  have hql : Q.length ≤ 100 := by have := hi.sum; omega
  obtain ⟨k, hk⟩ : ∃ k, iQ Q now = k := ⟨_, rfl⟩
  have hkq : k ≤ Q.length := by rw [← hk]; exact iQ_le Q now
  have HD := Lib.hid (tdue_any m v Q now w h.M (by omega))
  rw [hk] at HD ⊢
  have htk : tickB now = true := tick_in h0 (by omega)
  have HTK := Lib.hid htk
  have hidl : ((Q.take k).map Prod.fst).length = k := by simp; omega
  have HIDL := Lib.hid hidl
  clear h hi hk htk hidl
  go_enter Try.func45, Try.ntmps45
  go_wp2_with fail
  refine HD.out.mono ?_
  rintro e w1 ⟨u0, v1, rfl, ho1, hf1, hM1, hk1, hn1⟩
  have H1 := Lib.hid (H.out.tms hM1 hk1 (fun i hi => .inl (hn1 i hi)))
  have HK1 : Hid (Kept w w1 (inD d t g l m V v)) := hk1.mono (fun i _ hi => .inr (.inr (.inr (.inr hi))))
  have HN1 : Hid (∀ i, inD d t g l m V v1 i → inD d t g l m V v i) := by
    rintro i (rfl | rfl | rfl | hj | hj)
    · exact .inl rfl
    · exact .inr (.inl rfl)
    · exact .inr (.inr (.inl rfl))
    · exact .inr (.inr (.inr (.inl hj)))
    · exact .inr (.inr (.inr (.inr (hn1 i hj))))
  have HO1 := Lib.hid ho1
  have HU : Hid (∀ b, u0.ownBlock = some b → ¬ inD d t g l m V v1 b) := fun b hb hi => by
    have h2 := hf1 b hb
    have h3 := H.out.lt (HN1.out b hi)
    omega
  obtain ⟨ua, uc, hus⟩ := ho1.sl
  rw [HIDL.out] at hus
  subst hus
  clear ho1 hf1 hM1 hk1 hn1 HD c2
  go_wp2_with fail
  go_loopw [4, 25] (fun s4 s25 wr => ∃ (j : Nat) (V' : Nat → Value) (v' : Value) (ps' : List Pr), j ≤ k ∧ s25 = .int .i64 j ∧ WInv n (row ++ ((Q.take k).take j).map Prod.fst) ((Q.take k).drop j ++ Q.drop k) ps' ∧ Dsp wr d t g c l m V' v' ps' (rowR 5 (row ++ ((Q.take k).take j).map Prod.fst)) (Q.drop k) ∧
    Own wr s4 (((Q.take k).take j).map Prod.fst) ∧ (∀ b, s4.ownBlock = some b → w1.heap.size ≤ b ∧ ¬ inD d t g l m V' v' b) ∧ Kept w1 wr (inD d t g l m V v1) ∧ (∀ i, inD d t g l m V' v' i → inD d t g l m V v1 i ∨ w1.heap.size ≤ i)) (fun _ i _ => k - (intOf i).toNat)
  case atStart =>
    exact ⟨0, V, v1, ps, by omega, rfl, by simpa using HI.out, by simpa using H1.out, by simpa using Own.nil w1, fun b hb => by simp [Value.ownBlock] at hb, Kept.refl _ _, fun i hi => .inl hi⟩
  case round =>
    obtain ⟨j, V', v', ps', hj, rfl, hwi, hd, hown, hout, hkr, hnr⟩ := hrel
    have HWI := Lib.hid hwi
    have HDr := Lib.hid hd
    have HOW := Lib.hid hown
    have HOUT := Lib.hid hout
    have HKR := Lib.hid hkr
    have HNR := Lib.hid hnr
    have d0 := hd.c0
    have hdlr := hd.dl
    clear hwi hd hown hout hkr hnr
    by_cases hjk : j < k
    · obtain ⟨q, hq⟩ : ∃ q, (Q.take k)[j]? = some q := ⟨_, List.getElem?_eq_getElem (by rw [List.length_take]; omega)⟩
      have hdr : (Q.take k).drop j = q :: (Q.take k).drop (j + 1) := by
        obtain ⟨hjl, he⟩ := List.getElem?_eq_some_iff.1 hq
        rw [List.drop_eq_getElem_cons hjl, he]
      have htk1 : ((Q.take k).take (j + 1)).map Prod.fst = ((Q.take k).take j).map Prod.fst ++ [q.1] := by rw [List.take_add_one, hq]; simp
      obtain ⟨ids, hids⟩ : ∃ ids, ((Q.take k).take j).map Prod.fst = ids := ⟨_, rfl⟩
      rw [hids] at htk1 HOW HDr
      have hwi := HWI.out
      rw [hids, hdr, List.cons_append] at hwi
      obtain ⟨ha1, ps2, ha2, hwi2, hlk, hno, hnoq, hq0⟩ := hwi.wake now
      have ha1 : act (releF now) (tickB now) ps' q.1 = (ps', 10) := by rw [ha1, HTK.out]; rfl
      have HA1 := Lib.hid ha1
      have HA2 := Lib.hid ha2
      have HWI2 : Hid (WInv n (row ++ ((Q.take k).take (j + 1)).map Prod.fst) ((Q.take k).drop (j + 1) ++ Q.drop k) ps2) := by
        unfold Hid
        rw [htk1, ← List.append_assoc]
        exact hwi2
      have HLK := Lib.hid hlk
      have HNO := Lib.hid hno
      have HNOQ : Hid (idxQ (Q.drop k) q.1 = -1) := idxQ_none (fun hm => hnoq (by rw [List.map_append, List.mem_append]; exact .inr hm))
      have hidlen : (row ++ ids).length ≤ 200 := by
        have h2 := hwi.sum
        simp at h2
        simp
        omega
      have hou := HO1.out.keep (fun b hb => HKR.out.block b (HO1.out.lt b hb) (HU.out b hb))
      obtain ⟨gu, hgu, hgl, hgc⟩ : ∃ gu, ua = some ⟨gu, 0, none⟩ ∧ gu < wr.heap.size ∧ wr.cell? ⟨gu, j, none⟩ = some (.int .i64 q.1) := by
        rcases hou.shape with ⟨_, h0⟩ | ⟨g0, c0, cur, h1, h2, h3, h4, h5, h6⟩
        · have := HIDL.out
          rw [h0] at this
          simp at this
          omega
        · injection h1 with e1 e2 e3
          refine ⟨g0, e1, (Array.getElem?_eq_some_iff.1 h2).1, ?_⟩
          rw [cell_of_row wr g0 j cur 3 (0, 0) h2]
          exact h6 j q.1 (by rw [List.getElem?_map, hq]; rfl)
      subst hgu
      have HTK1 := Lib.hid htk1
      have HIDS := Lib.hid hids
      clear hq hdr htk1 hwi ha1 ha2 hwi2 hlk hno hnoq hou HWI hids
      go_wp2_with fail
      refine (rele_is q.1 now HA1.out HDr.out.T HDr.out.ok).mono ?_
      rintro e w2 ⟨rfl, hT2, hA2⟩
      have H2 := Lib.hid (HDr.out.tab hT2 HDr.out.ok hA2)
      have HK2 : Hid (Kept wr w2 (inD d t g l m V' v')) := hA2.kept.mono (fun i _ e => .inr (.inr (.inl e)))
      have e0 := H2.out.c0
      have hdl2 := H2.out.dl
      clear hT2 hA2 d0 hgc
      go_wp2_with fail
      refine (wake_is q.1 HA2.out H2.out.T H2.out.ok).mono ?_
      rintro e w3 ⟨rfl, hT3, hA3⟩
      have hok3 : ∀ p, p ∈ ps2 → p.Ok := by
        have := act_ok keeps_wake H2.out.ok q.1 (may := true)
        rw [HA2.out] at this
        exact this
      have H3 := Lib.hid (H2.out.tab hT3 hok3 hA3)
      have HK3 : Hid (Kept wr w3 (inD d t g l m V' v')) := HK2.out.trans hA3.kept (fun i _ e => .inr (.inr (.inl e)))
      clear hT3 hA3 hok3 e0
      go_wp2_with fail
      refine (follow_put H3.out q.1 5 hq0 (by omega) (by rw [HLK.out]; rfl) (by rw [HLK.out]; rfl) (by rw [HLK.out]; rfl) (rowR_none HNO.out) (rowR_len (by omega) _) (by simp; omega) HNOQ.out).mono ?_
      rw [rowR_at, rowR_put]
      rintro e w4 ⟨rfl, V4, v4, hd4, hk4, hn4⟩
      have H4 := Lib.hid hd4
      have HK4 : Hid (Kept wr w4 (inD d t g l m V' v')) := HK3.out.trans hk4 (fun _ _ hi => hi)
      have HN4 : Hid (∀ i, inD d t g l m V4 v4 i → inD d t g l m V' v' i ∨ wr.heap.size ≤ i) := fun i hi => (hn4 i hi).imp (fun h => h) (fun hle => by have := HK3.out.size; omega)
      have HOW4 := Lib.hid (HOW.out.keep (fun b hb => HK4.out.block b (HOW.out.lt b hb) (HOUT.out b hb).2))
      have HOUT4 : Hid (∀ b, u4.ownBlock = some b → w1.heap.size ≤ b ∧ ¬ inD d t g l m V4 v4 b) := fun b hb => ⟨(HOUT.out b hb).1, fun hi => by
        rcases HN4.out b hi with h1 | h1
        · exact (HOUT.out b hb).2 h1
        · have := HOW.out.lt b hb
          omega⟩
      clear hd4 hk4 hn4
      obtain ⟨x1, w5, hrun, ho5, hg5, hf5⟩ := own_append (t := 42) (tx := 42) (ty := 42) Try.underlying42 Try.underlying42 (HOW4.out.alloc (.cells #[.int .i64 q.1] 3)) (x := .slice (some ⟨w4.heap.size, 0, none⟩) 1 1) (ys := [q.1]) ⟨_, _, rfl, fun _ => ⟨_, rfl, fun j u hu => by
        match j, hu with
        | 0, hu =>
          simp [iv] at hu
          subst hu
          simp [Addr.add]
        | j + 1, hu => simp [iv] at hu⟩⟩ (by simp at hidlen ⊢; omega)
      have hk5 : Kept w4 w5 (fun i => u4.ownBlock = some i) := (Kept.of_below ((Below.refl _ _).alloc (Nat.le_refl _) _)).trans (Kept.of_grown hg5 (S := fun i => u4.ownBlock = some i) (fun i hi => hi)) (fun _ _ hi => hi)
      have H5 := Lib.hid (H4.out.kept hk5 (fun i hi hs => (HOUT4.out i hs).2 hi))
      have hs4 := HK4.out.size
      have hs1 := HKR.out.size
      have HK5 : Hid (Kept w1 w5 (inD d t g l m V v1)) := (HKR.out.trans HK4.out (fun i hi h4 => by
        rcases HNR.out i h4 with h5 | h5
        · exact h5
        · omega)).trans hk5 (fun i hi h5 => by have := (HOUT4.out i h5).1; omega)
      have HN5 : Hid (∀ i, inD d t g l m V4 v4 i → inD d t g l m V v1 i ∨ w1.heap.size ≤ i) := fun i hi => by
        rcases HN4.out i hi with h5 | h5
        · exact HNR.out i h5
        · exact .inr (by omega)
      have HOUT5 : Hid (∀ b, x1.ownBlock = some b → w1.heap.size ≤ b ∧ ¬ inD d t g l m V4 v4 b) := fun b hb => by
        rcases hf5 b hb with h5 | h5
        · exact HOUT4.out b h5
        · simp at h5
          exact ⟨by omega, fun hi => by have := H4.out.lt hi; omega⟩
      rw [← HTK1.out] at ho5
      have HO5 := Lib.hid ho5
      rw [List.append_assoc, ← HTK1.out] at H5
      clear ho5 hg5 hf5 hk5
      go_wp2_with (first | (at_builtin; refine Lib.wpList_append_run _ rfl (.tmp 46) (.tmp 48) 42 42 rfl _ _ rfl rfl _ _ hrun ?_))
      go_roundw
      case rel => exact ⟨j + 1, V4, v4, ps2, by omega, by go_num, HWI2.out, H5.out, HO5.out, HOUT5.out, HK5.out, HN5.out⟩
      case measure => simp [intOf]; omega
    · obtain rfl : j = k := by omega
      have hwi := HWI.out
      have hdd := HDr.out
      rw [List.take_take, Nat.min_self, List.drop_of_length_le (by rw [List.length_take]; omega), List.nil_append] at hwi
      rw [List.take_take, Nat.min_self] at hdd HOW
      obtain ⟨hm1, hm2⟩ := hwi.miss now
      have HWI' := Lib.hid hwi
      have HDD := Lib.hid hdd
      have HM1 := Lib.hid hm1
      have HM2 := Lib.hid hm2
      clear hwi hdd hm1 hm2 HWI HDr
      go_wp2_with fail
      refine (miss_is now HM1.out HM2.out ⟨h0, by omega⟩ HDD.out.T HDD.out.ok).mono ?_
      rintro e w6 ⟨A2, cc2, rfl, hi2, hT2, hA2⟩
      have hd6 := HDD.out.tab hT2 HDD.out.ok hA2
      have hu6 : RI w6 (.slice ua j uc) ((Q.take j).map Prod.fst) := ((HO1.out.keep (fun b hb => HKR.out.block b (HO1.out.lt b hb) (HU.out b hb))).keep (fun b hb => hA2.block b (Nat.lt_of_lt_of_le (HO1.out.lt b hb) HKR.out.size) (fun e => ?_))).ri
      · have HP : Hid (AdvPost w n d t g c l m V v row Q j (.returned (.tuple #[u4, .slice A2 0 cc2])) w6) := by
          have hs1 := HK1.out.size
          have hsr := HKR.out.size
          refine ⟨u4, A2, cc2, V', v', ps', rfl, ?_, HWI'.out, hd6, (HK1.out.trans HKR.out (fun i hi h => HN1.out i h)).trans hA2.kept (fun i hi e => ?_), fun i hi => ?_⟩
          · exact (HOW.out.keep (fun b hb => hA2.block b (HOW.out.lt b hb) (fun e => (HOUT.out b hb).2 (.inr (.inr (.inl e)))))).ri
          · rcases HNR.out g (.inr (.inr (.inl rfl))) with h5 | h5
            · rw [e]; exact HN1.out g h5
            · omega
          · rcases HNR.out i hi with h5 | h5
            · exact .inl (HN1.out i h5)
            · exact .inr (by omega)
        clear hi2 hT2 hA2 hd6 hu6
        go_wp2
        go_ret2
        exact HP.out
      · rcases HNR.out g (.inr (.inr (.inl rfl))) with h5 | h5
        · exact HU.out b hb (e ▸ h5)
        · have := HO1.out.lt b hb
          omega

end Go.Proofs.Ytgnjenmicojgnaa
