/-
  Timers: what Due takes out.
-/
import Derived.Test.YtgnjenmicojgnaaGreatM5w
namespace Go.Proofs.YtgnjenmicojgnaaGreat
set_option linter.unusedVariables false
set_option linter.unusedSimpArgs false
open Go.RowKit

set_option maxRecDepth 100000 in
set_option maxHeartbeats 1000000 in
theorem tlen_any (m : Nat) (v : Value) (Q : List (Int × Int)) (n : Nat) (w : World) (h : Tms w m v Q) (hn : Q.length = n) :
    Calls Tryz.prog 102 #[.pointer (some ⟨m, 0, none⟩)] w fun e w' => e = .returned (.int .i64 n) ∧ w' = w := by
  obtain ⟨a, c, hsl⟩ := h.sl
  rw [hn] at hsl
  have hc := h.cell
  rw [hsl] at hc
  have hm := h.lt (.inl rfl)
  clear h hsl
  go_enter Tryz.func102, Tryz.ntmps102
  go_wp2
  go_ret
  exact ⟨rfl, rfl⟩

def DuePost (w : World) (m : Nat) (v : Value) (Q : List (Int × Int)) (k : Nat) (e : Ending) (w' : World) : Prop :=
  ∃ u v', e = .returned u ∧ Own w' u ((Q.take k).map Prod.fst) ∧ (∀ b, u.ownBlock = some b → w.heap.size ≤ b) ∧ Tms w' m v' (Q.drop k) ∧ Kept w w' (inT m v) ∧ (∀ i, inT m v' i → inT m v i)

set_option maxRecDepth 100000 in
set_option maxHeartbeats 2000000 in
theorem tdue_any (m : Nat) (v : Value) (Q : List (Int × Int)) (now : Int) (w : World) (h : Tms w m v Q) (hl : Q.length ≤ 900) :
    Calls Tryz.prog 64 #[.pointer (some ⟨m, 0, none⟩), .int .i64 now] w (DuePost w m v Q (iQ Q now)) := by
  have hml := h.lt (.inl rfl)
  obtain ⟨n, hn⟩ : ∃ n, Q.length = n := ⟨_, rfl⟩
  have HN := Lib.hid hn
  have hnl : n ≤ 900 := by omega
  have hiq : iQ Q now ≤ n := by rw [← hn]; exact iQ_le Q now
  obtain ⟨k0, hk0⟩ : ∃ k0, iQ Q now = k0 := ⟨_, rfl⟩
  rw [hk0] at hiq ⊢
  have HK0 := Lib.hid hk0
  obtain ⟨sa, sc, hsl⟩ := h.sl
  rw [hn] at hsl
  subst hsl
  have H := Lib.hid h
  clear h hn hl hk0
  go_enter Tryz.func64, Tryz.ntmps64
  go_wp2_with fail
  go_loopw [5, 6] (fun s5 s6 wr => ∃ j : Nat, j ≤ k0 ∧ s6 = .int .i64 j ∧ Own wr s5 ((Q.take j).map Prod.fst) ∧ (∀ b, s5.ownBlock = some b → w.heap.size ≤ b) ∧ Below w.heap.size w wr) (fun _ i _ => n - (intOf i).toNat)
  case atStart => exact ⟨0, by omega, rfl, by simpa using Own.nil w, fun b hb => by simp [Value.ownBlock] at hb, Below.refl _ _⟩
  case round =>
    obtain ⟨j, hj, rfl, ho, hf, hb⟩ := hrel
    have HO := Lib.hid ho
    have HF := Lib.hid hf
    have HB := Lib.hid hb
    have hbs := hb.size
    have Hr := Lib.hid (H.out.below hb)
    have hcell := Hr.out.cell
    have hmr : m < wr.heap.size := by omega
    clear ho hf hb
    by_cases hjn : j < n
    · obtain ⟨q, hq⟩ : ∃ q, Q[j]? = some q := ⟨_, List.getElem?_eq_getElem (by have := HN.out; omega)⟩
      obtain ⟨g, c, hv, hgl, c0, c1⟩ := Hr.out.own.at hq
      injection hv with e1 e2 e3
      subst e1 e3
      by_cases hjk : j < k0
      · have hle : q.2 ≤ now := iQ_lt (by rw [HK0.out]; exact hjk) hq
        have hleb : decide (q.2 ≤ now) = true := by simpa using hle
        have htk : (Q.take (j + 1)).map Prod.fst = (Q.take j).map Prod.fst ++ [q.1] := by rw [List.take_add_one, hq]; simp
        have HTK := Lib.hid htk
        clear hq e2 htk
        go_wp2_with fail
        refine (tlen_any m _ Q n wr Hr.out HN.out).mono ?_
        rintro e w1 ⟨rfl, rfl⟩
        obtain ⟨v', w2, hrun, ho2, hg2, hf2⟩ := own_append (t := 39) (tx := 39) (ty := 39) Tryz.underlying39 Tryz.underlying39 (HO.out.alloc (.cells #[.int .i64 q.1] 3)) (x := .slice (some ⟨w1.heap.size, 0, none⟩) 1 1) (ys := [q.1]) ⟨_, _, rfl, fun _ => ⟨_, rfl, fun j u hu => by
          match j, hu with
          | 0, hu =>
            simp [iv] at hu
            subst hu
            simp [Addr.add]
          | j + 1, hu => simp [iv] at hu⟩⟩ (by simp; omega)
        rw [← HTK.out] at ho2
        have HO2 := Lib.hid ho2
        have HB2 : Hid (Below w.heap.size w w2) := grown_below (w := w) (HB.out.alloc HB.out.size _) hg2 HF.out
        have HF2 : Hid (∀ b, v'.ownBlock = some b → w.heap.size ≤ b) := fun b hb' => by
          rcases hf2 b hb' with h1 | h1
          · exact HF.out b h1
          · have := HB.out.size
            simp at h1
            omega
        clear ho2 hg2 hf2
        go_wp2_with (first | (at_builtin; refine Lib.wpList_append_run _ rfl (.tmp 23) (.tmp 32) 39 39 rfl _ _ rfl rfl _ _ hrun ?_))
        go_roundw
        case rel => exact ⟨j + 1, by omega, by go_num, HO2.out, HF2.out, HB2.out⟩
        case measure => simp [intOf]; omega
      · have hjk0 : j = k0 := by omega
        have hgt : now < q.2 := iQ_at (by rw [HK0.out, ← hjk0]; exact hq)
        have hleb : decide (q.2 ≤ now) = false := by simp; omega
        have hle : ¬ q.2 ≤ now := by omega
        subst hjk0
        clear hq e2 hjk
        by_cases hj0 : 0 < j
        · obtain ⟨g', rfl⟩ : ∃ g', g' = g := ⟨_, rfl⟩
          have hgl' := hgl
          go_wp2_with fail
          refine (tlen_any m _ Q n wr Hr.out HN.out).mono ?_
          rintro e w1 ⟨rfl, rfl⟩
          go_wp2_with fail
          refine (tdelete_any g' n _ 0 j Q w1 Hr.out.own HN.out.symm hj0 hiq).mono ?_
          rintro e w2 ⟨rfl, ho2, hk2⟩
          rw [List.take_zero, List.nil_append, Nat.zero_add] at ho2
          obtain ⟨s1, s2, s3⟩ := Hr.out.step (hk2.mono (fun i _ e => by rw [e]; rfl)) ho2 (fun k hk => .inl hk)
          have hm2 := (hk2.block m hmr (fun e => Hr.out.ne (by rw [e]; rfl))).trans Hr.out.hdr
          have hcell2 : w2.cell? ⟨m, 0, none⟩ = some (.slice (some ⟨g', 0, none⟩) n sc) := by rw [cell_of_row w2 m 0 _ 133 (0, 0) hm2]; rfl
          have hfz2 : ∀ j, w2.frozen? ⟨m, j, none⟩ = false := fun j => by simp [World.frozen?, hm2]
          have hm2l : m < w2.heap.size := (Array.getElem?_eq_some_iff.1 hm2).1
          have HP : Hid (DuePost w m (.slice (some ⟨g', 0, none⟩) n sc) Q j (.returned u5) (w2.setCell ⟨m, 0, none⟩ (.slice (some ⟨g', 0, none⟩) (n - j) sc))) := by
            refine ⟨u5, _, rfl, HO.out.keep (fun b hb => s2.block b (HO.out.lt b hb) ?_), HF.out, s1, (Kept.of_below HB.out).trans s2 (fun _ _ hi => hi), fun i hi => hi⟩
            have h1 := HF.out b hb
            rintro (h2 | h2)
            · omega
            · have := H.out.own.lt b h2
              omega
          clear ho2 hk2 s1 s2 s3 hm2
          rw [Nat.zero_add]
          go_wp2
          go_ret
          exact HP.out
        · obtain rfl : j = 0 := by omega
          go_wp2_with fail
          refine (tlen_any m _ Q n wr Hr.out HN.out).mono ?_
          rintro e w1 ⟨rfl, rfl⟩
          go_wp2_with fail
          go_ret
          exact ⟨_, _, rfl, HO.out, HF.out, by simpa using Hr.out, Kept.of_below HB.out, fun i hi => hi⟩
    · have hjk0 : j = k0 := by omega
      subst hjk0
      by_cases hj0 : 0 < j
      · obtain ⟨g', c', hsa, hgl'⟩ : ∃ g' c', (Value.slice sa n sc) = .slice (some ⟨g', 0, none⟩) n c' ∧ g' < wr.heap.size := by
          rcases Hr.out.own.shape with ⟨_, h0⟩ | ⟨g0, c0', cur, h1, h2, _⟩
          · have := HN.out
            rw [h0] at this
            simp at this
            omega
          · rw [HN.out] at h1
            exact ⟨g0, c0', h1, (Array.getElem?_eq_some_iff.1 h2).1⟩
        injection hsa with e1 e2 e3
        subst e1 e3
        clear e2
        go_wp2_with fail
        refine (tlen_any m _ Q n wr Hr.out HN.out).mono ?_
        rintro e w1 ⟨rfl, rfl⟩
        go_wp2_with fail
        refine (tdelete_any g' n _ 0 j Q w1 Hr.out.own HN.out.symm hj0 hiq).mono ?_
        rintro e w2 ⟨rfl, ho2, hk2⟩
        rw [List.take_zero, List.nil_append, Nat.zero_add] at ho2
        obtain ⟨s1, s2, s3⟩ := Hr.out.step (hk2.mono (fun i _ e => by rw [e]; rfl)) ho2 (fun k hk => .inl hk)
        have hm2 := (hk2.block m hmr (fun e => Hr.out.ne (by rw [e]; rfl))).trans Hr.out.hdr
        have hcell2 : w2.cell? ⟨m, 0, none⟩ = some (.slice (some ⟨g', 0, none⟩) n sc) := by rw [cell_of_row w2 m 0 _ 133 (0, 0) hm2]; rfl
        have hfz2 : ∀ j, w2.frozen? ⟨m, j, none⟩ = false := fun j => by simp [World.frozen?, hm2]
        have hm2l : m < w2.heap.size := (Array.getElem?_eq_some_iff.1 hm2).1
        have HP : Hid (DuePost w m (.slice (some ⟨g', 0, none⟩) n sc) Q j (.returned u5) (w2.setCell ⟨m, 0, none⟩ (.slice (some ⟨g', 0, none⟩) (n - j) sc))) := by
          refine ⟨u5, _, rfl, HO.out.keep (fun b hb => s2.block b (HO.out.lt b hb) ?_), HF.out, s1, (Kept.of_below HB.out).trans s2 (fun _ _ hi => hi), fun i hi => hi⟩
          have h1 := HF.out b hb
          rintro (h2 | h2)
          · omega
          · have := H.out.own.lt b h2
            omega
        clear ho2 hk2 s1 s2 s3 hm2
        rw [Nat.zero_add]
        go_wp2
        go_ret
        exact HP.out
      · obtain rfl : j = 0 := by omega
        go_wp2_with fail
        refine (tlen_any m _ Q n wr Hr.out HN.out).mono ?_
        rintro e w1 ⟨rfl, rfl⟩
        go_wp2_with fail
        go_ret
        exact ⟨_, _, rfl, HO.out, HF.out, by simpa using Hr.out, Kept.of_below HB.out, fun i hi => hi⟩

end Go.Proofs.YtgnjenmicojgnaaGreat
