/-
  Timers: what Set does to an id that has none, and what Due takes out.
  Timers: what Due takes out.
-/
import Derived.Test.YtgnjenmicojgnaaMa
import Derived.Test.YtgnjenmicojgnaaK0w
namespace Go.Proofs.Ytgnjenmicojgnaa
set_option linter.unusedVariables false
set_option linter.unusedSimpArgs false
open Go.RowKit

/-- How many of the first timers aren't above a tick. -/
def iQ (Q : List (Int × Int)) (a : Int) : Nat := (Q.takeWhile (fun q => decide (q.2 ≤ a))).length
def insQ (Q : List (Int × Int)) (q : Int × Int) : List (Int × Int) := Q.take (iQ Q q.2) ++ q :: Q.drop (iQ Q q.2)

theorem iQ_nil (a : Int) : iQ [] a = 0 := rfl
theorem iQ_cons (p : Int × Int) (r : List (Int × Int)) (a : Int) : iQ (p :: r) a = if p.2 ≤ a then iQ r a + 1 else 0 := by
  unfold iQ
  rw [List.takeWhile_cons]
  by_cases h : p.2 ≤ a <;> simp [h]
theorem iQ_le : ∀ (Q : List (Int × Int)) (a : Int), iQ Q a ≤ Q.length
  | [], _ => Nat.le_refl _
  | p :: r, a => by
    rw [iQ_cons, List.length_cons]
    have := iQ_le r a
    split <;> omega
theorem iQ_lt : ∀ {Q : List (Int × Int)} {a : Int} {j : Nat} {q : Int × Int}, j < iQ Q a → Q[j]? = some q → q.2 ≤ a
  | [], _, _, _, h, _ => absurd h (Nat.not_lt_zero _)
  | p :: r, a, j, q, h, hq => by
    rw [iQ_cons] at h
    split at h
    · rename_i hp
      cases j with
      | zero => simp at hq; rw [← hq]; exact hp
      | succ j => exact iQ_lt (Q := r) (j := j) (by omega) (by simpa using hq)
    · omega
theorem iQ_at : ∀ {Q : List (Int × Int)} {a : Int} {q : Int × Int}, Q[iQ Q a]? = some q → a < q.2
  | [], _, _, h => by simp [iQ] at h
  | p :: r, a, q, h => by
    rw [iQ_cons] at h
    split at h
    · rw [List.getElem?_cons_succ] at h
      exact iQ_at h
    · simp at h
      rw [← h]
      omega

theorem Tms.own {w : World} {m : Nat} {v : Value} {Q : List (Int × Int)} (h : Tms w m v Q) : OwnP 143 w v Q := h.row

/-- The slice has become another one, and was stored. -/
theorem Tms.step {w w1 : World} {m : Nat} {v v' : Value} {Q Q' : List (Int × Int)} (h : Tms w m v Q) (hk : Kept w w1 (fun i => v.ownBlock = some i)) (ho : OwnP 143 w1 v' Q') (hf : ∀ k, v'.ownBlock = some k → v.ownBlock = some k ∨ w.heap.size ≤ k) :
    Tms (w1.setCell ⟨m, 0, none⟩ v') m v' Q' ∧ Kept w (w1.setCell ⟨m, 0, none⟩ v') (inT m v) ∧ (∀ i, inT m v' i → inT m v i ∨ w.heap.size ≤ i) := by
  have hm := h.lt (.inl rfl)
  have hne : v'.ownBlock ≠ some m := fun e => by
    rcases hf m e with h1 | h1
    · exact h.ne h1
    · omega
  refine ⟨⟨?_, ?_, hne⟩, (hk.mono (fun i _ hi => .inr hi)).trans (Kept.setCell w1 m 0 v') (fun i _ e => .inl e), ?_⟩
  · have := (hk.block m hm h.ne).trans h.hdr
    rw [heap_setCell this]
    rfl
  · exact ho.keep (fun k hk' => heap_setCell_other (fun e => hne (e ▸ hk')))
  · rintro i (rfl | hi)
    · exact .inl (.inl rfl)
    · exact (hf i hi).imp .inr id

def TPost (w : World) (m : Nat) (v : Value) (Q' : List (Int × Int)) (r : Value) (e : Ending) (w' : World) : Prop :=
  e = .returned r ∧ ∃ v', Tms w' m v' Q' ∧ Kept w w' (inT m v) ∧ (∀ i, inT m v' i → inT m v i ∨ w.heap.size ≤ i)

set_option maxRecDepth 100000 in
set_option maxHeartbeats 2000000 in
theorem tset_none (m : Nat) (v : Value) (Q : List (Int × Int)) (id a : Int) (w : World) (h : Tms w m v Q) (hl : Q.length ≤ 900) (hi : idxQ Q id = -1) :
    Calls Try.prog 126 #[.pointer (some ⟨m, 0, none⟩), .int .i64 id, .int .i64 a] w (TPost w m v (insQ Q (id, a)) (.tuple #[])) := by
  have HD := Lib.hid (tdrop_none m v Q id w h (by omega) hi)
  have H := Lib.hid h
  have hml := h.lt (.inl rfl)
  obtain ⟨n, hn⟩ : ∃ n, Q.length = n := ⟨_, rfl⟩
  have HN := Lib.hid hn
  have hnl : n ≤ 900 := by omega
  have hiq : iQ Q a ≤ n := by rw [← hn]; exact iQ_le Q a
  obtain ⟨k0, hk0⟩ : ∃ k0, iQ Q a = k0 := ⟨_, rfl⟩
  rw [hk0] at hiq
  have HK0 := Lib.hid hk0
  clear h hi hn hl hk0
  go_enter Try.func126, Try.ntmps126
  go_wp2_with fail
  refine HD.out.mono ?_
  rintro e w1 ⟨rfl, hb1⟩
  have H1 := Lib.hid (H.out.below hb1)
  have HB1 := Lib.hid hb1
  have hm1 : m < w1.heap.size := by have := hb1.size; omega
  obtain ⟨sa, sc, hsl⟩ := H1.out.sl
  rw [HN.out] at hsl
  have hcell := H1.out.cell
  rw [hsl] at hcell
  clear hb1
  go_wp2_with fail
  go_loopw [6] (fun s6 wr => ∃ j : Nat, j ≤ k0 ∧ s6 = .int .i64 j ∧ wr = w1) (fun i _ => n - (intOf i).toNat)
  case atStart => exact ⟨0, by omega, rfl, rfl⟩
  case round =>
    obtain ⟨j, hj, rfl, rfl⟩ := hrel
    by_cases hjn : j < n
    · obtain ⟨q, hq⟩ : ∃ q, Q[j]? = some q := ⟨_, List.getElem?_eq_getElem (by have := HN.out; omega)⟩
      obtain ⟨g, c, hv, hgl, c0, c1⟩ := H1.out.own.at hq
      rw [hsl] at hv
      injection hv with e1 e2 e3
      subst e1 e3
      by_cases hjk : j < k0
      · have hle : q.2 ≤ a := iQ_lt (by rw [HK0.out]; exact hjk) hq
        have hleb : decide (q.2 ≤ a) = true := by simpa using hle
        clear hq e2 hsl
        go_wp2_with fail
        go_roundw
        case rel => exact ⟨j + 1, by omega, by go_num, by first | rfl | trivial⟩
        case measure => simp [intOf]; omega
      · have hjk0 : j = k0 := by omega
        have hgt : a < q.2 := iQ_at (by rw [HK0.out, ← hjk0]; exact hq)
        have hleb : decide (q.2 ≤ a) = false := by simp; omega
        have hle : ¬ q.2 ≤ a := by omega
        subst hjk0
        have HSL := Lib.hid hsl
        clear hq e2 hsl hjk
        go_wp2_with fail
        have hins := tinsert_any v n j wr.heap.size Q (id, a) (wr.alloc (.cells #[.int .i64 id, .int .i64 a] 143)) (H1.out.own.alloc _) HN.out hiq (by omega) (heap_alloc_new wr _) (fun e => by have := H1.out.own.lt _ e; omega)
        rw [HSL.out] at hins
        refine hins.mono ?_
        rintro e w2 ⟨a', c', rfl, ho, hk, hf⟩
        have hka : Kept wr w2 (fun i => v.ownBlock = some i) := by
          rw [HSL.out]
          exact (Kept.of_below ((Below.refl _ _).alloc (Nat.le_refl _) _)).trans hk (fun _ _ hi => hi)
        have hf' : ∀ k, (Value.slice a' (Q.take j ++ (id, a) :: Q.drop j).length c').ownBlock = some k → v.ownBlock = some k ∨ wr.heap.size ≤ k := fun k hk' => by
          rw [HSL.out]
          rcases hf k hk' with h1 | h1
          · exact .inl h1
          · exact .inr (by simp at h1; omega)
        obtain ⟨s1, s2, s3⟩ := H1.out.step hka ho hf'
        have hm2 := (hka.block m hm1 H1.out.ne).trans H1.out.hdr
        have hcell2 : w2.cell? ⟨m, 0, none⟩ = some v := by rw [cell_of_row w2 m 0 _ 136 (0, 0) hm2]; rfl
        have hfz2 : ∀ j, w2.frozen? ⟨m, j, none⟩ = false := fun j => by simp [World.frozen?, hm2]
        have HP : Hid (TPost w m v (insQ Q (id, a)) (.tuple #[]) (.returned (.tuple #[])) (w2.setCell ⟨m, 0, none⟩ (.slice a' (Q.take j ++ (id, a) :: Q.drop j).length c'))) := by
          refine ⟨rfl, _, ?_, (Kept.of_below HB1.out).trans s2 (fun _ _ hi => hi), fun i hi => (s3 i hi).imp (fun h => h) (fun h => Nat.le_trans HB1.out.size h)⟩
          unfold insQ
          rw [HK0.out]
          exact s1
        have hm2l : m < w2.heap.size := (Array.getElem?_eq_some_iff.1 hm2).1
        clear hins ho hk hf hka hf' s1 s2 s3 hm2
        obtain ⟨nn, hnn⟩ : ∃ nn, (Q.take j ++ (id, a) :: Q.drop j).length = nn := ⟨_, rfl⟩
        rw [hnn] at HP ⊢
        clear hnn
        go_wp2
        go_end0
        exact HP.out
    · have hjk0 : j = k0 := by omega
      subst hjk0
      have HSL := Lib.hid hsl
      clear hsl
      go_wp2_with fail
      have hins := tinsert_any v n j wr.heap.size Q (id, a) (wr.alloc (.cells #[.int .i64 id, .int .i64 a] 143)) (H1.out.own.alloc _) HN.out hiq (by omega) (heap_alloc_new wr _) (fun e => by have := H1.out.own.lt _ e; omega)
      rw [HSL.out] at hins
      refine hins.mono ?_
      rintro e w2 ⟨a', c', rfl, ho, hk, hf⟩
      have hka : Kept wr w2 (fun i => v.ownBlock = some i) := by
        rw [HSL.out]
        exact (Kept.of_below ((Below.refl _ _).alloc (Nat.le_refl _) _)).trans hk (fun _ _ hi => hi)
      have hf' : ∀ k, (Value.slice a' (Q.take j ++ (id, a) :: Q.drop j).length c').ownBlock = some k → v.ownBlock = some k ∨ wr.heap.size ≤ k := fun k hk' => by
        rw [HSL.out]
        rcases hf k hk' with h1 | h1
        · exact .inl h1
        · exact .inr (by simp at h1; omega)
      obtain ⟨s1, s2, s3⟩ := H1.out.step hka ho hf'
      have hm2 := (hka.block m hm1 H1.out.ne).trans H1.out.hdr
      have hcell2 : w2.cell? ⟨m, 0, none⟩ = some v := by rw [cell_of_row w2 m 0 _ 136 (0, 0) hm2]; rfl
      have hfz2 : ∀ j, w2.frozen? ⟨m, j, none⟩ = false := fun j => by simp [World.frozen?, hm2]
      have HP : Hid (TPost w m v (insQ Q (id, a)) (.tuple #[]) (.returned (.tuple #[])) (w2.setCell ⟨m, 0, none⟩ (.slice a' (Q.take j ++ (id, a) :: Q.drop j).length c'))) := by
        refine ⟨rfl, _, ?_, (Kept.of_below HB1.out).trans s2 (fun _ _ hi => hi), fun i hi => (s3 i hi).imp (fun h => h) (fun h => Nat.le_trans HB1.out.size h)⟩
        unfold insQ
        rw [HK0.out]
        exact s1
      have hm2l : m < w2.heap.size := (Array.getElem?_eq_some_iff.1 hm2).1
      clear hins ho hk hf hka hf' s1 s2 s3 hm2
      obtain ⟨nn, hnn⟩ : ∃ nn, (Q.take j ++ (id, a) :: Q.drop j).length = nn := ⟨_, rfl⟩
      rw [hnn] at HP ⊢
      clear hnn
      go_wp2
      go_end0
      exact HP.out

end Go.Proofs.Ytgnjenmicojgnaa

namespace Go.Proofs.Ytgnjenmicojgnaa
set_option linter.unusedVariables false
set_option linter.unusedSimpArgs false
open Go.RowKit

set_option maxRecDepth 100000 in
set_option maxHeartbeats 1000000 in
theorem tlen_any (m : Nat) (v : Value) (Q : List (Int × Int)) (n : Nat) (w : World) (h : Tms w m v Q) (hn : Q.length = n) :
    Calls Try.prog 122 #[.pointer (some ⟨m, 0, none⟩)] w fun e w' => e = .returned (.int .i64 n) ∧ w' = w := by
  obtain ⟨a, c, hsl⟩ := h.sl
  rw [hn] at hsl
  have hc := h.cell
  rw [hsl] at hc
  have hm := h.lt (.inl rfl)
  clear h hsl
  go_enter Try.func122, Try.ntmps122
  go_wp2
  go_ret
  exact ⟨rfl, rfl⟩

def DuePost (w : World) (m : Nat) (v : Value) (Q : List (Int × Int)) (k : Nat) (e : Ending) (w' : World) : Prop :=
  ∃ u v', e = .returned u ∧ Own w' u ((Q.take k).map Prod.fst) ∧ (∀ b, u.ownBlock = some b → w.heap.size ≤ b) ∧ Tms w' m v' (Q.drop k) ∧ Kept w w' (inT m v) ∧ (∀ i, inT m v' i → inT m v i)

set_option maxRecDepth 100000 in
set_option maxHeartbeats 2000000 in
theorem tdue_any (m : Nat) (v : Value) (Q : List (Int × Int)) (now : Int) (w : World) (h : Tms w m v Q) (hl : Q.length ≤ 900) :
    Calls Try.prog 108 #[.pointer (some ⟨m, 0, none⟩), .int .i64 now] w (DuePost w m v Q (iQ Q now)) := by
  have hml := h.lt (.inl rfl)
  obtain ⟨n, hn⟩ : ∃ n, Q.length = n := ⟨_, rfl⟩
  have HN := Lib.hid hn
  have hnl : n ≤ 900 := by omega
  have hiq : iQ Q now ≤ n := by rw [← hn]; exact iQ_le Q now
  obtain ⟨k0, hk0⟩ : ∃ k0, iQ Q now = k0 := ⟨_, rfl⟩
  rw [hk0] at hiq ⊢
  have HK0 := Lib.hid hk0
  obtain ⟨sa, sc, hsl⟩ := h.sl
  rw [hn] at hsl
  subst hsl
  have H := Lib.hid h
  clear h hn hl hk0
  go_enter Try.func108, Try.ntmps108
  go_wp2_with fail
  go_loopw [5, 6] (fun s5 s6 wr => ∃ j : Nat, j ≤ k0 ∧ s6 = .int .i64 j ∧ Own wr s5 ((Q.take j).map Prod.fst) ∧ (∀ b, s5.ownBlock = some b → w.heap.size ≤ b) ∧ Below w.heap.size w wr) (fun _ i _ => n - (intOf i).toNat)
  case atStart => exact ⟨0, by omega, rfl, by simpa using Own.nil w, fun b hb => by simp [Value.ownBlock] at hb, Below.refl _ _⟩
  case round =>
    obtain ⟨j, hj, rfl, ho, hf, hb⟩ := hrel
    have HO := Lib.hid ho
    have HF := Lib.hid hf
    have HB := Lib.hid hb
    have hbs := hb.size
    have Hr := Lib.hid (H.out.below hb)
    have hcell := Hr.out.cell
    have hmr : m < wr.heap.size := by omega
    clear ho hf hb
    by_cases hjn : j < n
    · obtain ⟨q, hq⟩ : ∃ q, Q[j]? = some q := ⟨_, List.getElem?_eq_getElem (by have := HN.out; omega)⟩
      obtain ⟨g, c, hv, hgl, c0, c1⟩ := Hr.out.own.at hq
      injection hv with e1 e2 e3
      subst e1 e3
      by_cases hjk : j < k0
      · have hle : q.2 ≤ now := iQ_lt (by rw [HK0.out]; exact hjk) hq
        have hleb : decide (q.2 ≤ now) = true := by simpa using hle
        have htk : (Q.take (j + 1)).map Prod.fst = (Q.take j).map Prod.fst ++ [q.1] := by rw [List.take_add_one, hq]; simp
        have HTK := Lib.hid htk
        clear hq e2 htk
        go_wp2_with fail
        refine (tlen_any m _ Q n wr Hr.out HN.out).mono ?_
        rintro e w1 ⟨rfl, rfl⟩
        obtain ⟨v', w2, hrun, ho2, hg2, hf2⟩ := own_append (t := 42) (tx := 42) (ty := 42) Try.underlying42 Try.underlying42 (HO.out.alloc (.cells #[.int .i64 q.1] 3)) (x := .slice (some ⟨w1.heap.size, 0, none⟩) 1 1) (ys := [q.1]) ⟨_, _, rfl, fun _ => ⟨_, rfl, fun j u hu => by
          match j, hu with
          | 0, hu =>
            simp [iv] at hu
            subst hu
            simp [Addr.add]
          | j + 1, hu => simp [iv] at hu⟩⟩ (by simp; omega)
        rw [← HTK.out] at ho2
        have HO2 := Lib.hid ho2
        have HB2 : Hid (Below w.heap.size w w2) := grown_below (w := w) (HB.out.alloc HB.out.size _) hg2 HF.out
        have HF2 : Hid (∀ b, v'.ownBlock = some b → w.heap.size ≤ b) := fun b hb' => by
          rcases hf2 b hb' with h1 | h1
          · exact HF.out b h1
          · have := HB.out.size
            simp at h1
            omega
        clear ho2 hg2 hf2
        go_wp2_with (first | (at_builtin; refine Lib.wpList_append_run _ rfl (.tmp 23) (.tmp 32) 42 42 rfl _ _ rfl rfl _ _ hrun ?_))
        go_roundw
        case rel => exact ⟨j + 1, by omega, by go_num, HO2.out, HF2.out, HB2.out⟩
        case measure => simp [intOf]; omega
      · have hjk0 : j = k0 := by omega
        have hgt : now < q.2 := iQ_at (by rw [HK0.out, ← hjk0]; exact hq)
        have hleb : decide (q.2 ≤ now) = false := by simp; omega
        have hle : ¬ q.2 ≤ now := by omega
        subst hjk0
        clear hq e2 hjk
        by_cases hj0 : 0 < j
        · obtain ⟨g', rfl⟩ : ∃ g', g' = g := ⟨_, rfl⟩
          have hgl' := hgl
          go_wp2_with fail
          refine (tlen_any m _ Q n wr Hr.out HN.out).mono ?_
          rintro e w1 ⟨rfl, rfl⟩
          go_wp2_with fail
          refine (tdelete_any g' n _ 0 j Q w1 Hr.out.own HN.out.symm hj0 hiq).mono ?_
          rintro e w2 ⟨rfl, ho2, hk2⟩
          rw [List.take_zero, List.nil_append, Nat.zero_add] at ho2
          obtain ⟨s1, s2, s3⟩ := Hr.out.step (hk2.mono (fun i _ e => by rw [e]; rfl)) ho2 (fun k hk => .inl hk)
          have hm2 := (hk2.block m hmr (fun e => Hr.out.ne (by rw [e]; rfl))).trans Hr.out.hdr
          have hcell2 : w2.cell? ⟨m, 0, none⟩ = some (.slice (some ⟨g', 0, none⟩) n sc) := by rw [cell_of_row w2 m 0 _ 136 (0, 0) hm2]; rfl
          have hfz2 : ∀ j, w2.frozen? ⟨m, j, none⟩ = false := fun j => by simp [World.frozen?, hm2]
          have hm2l : m < w2.heap.size := (Array.getElem?_eq_some_iff.1 hm2).1
          have HP : Hid (DuePost w m (.slice (some ⟨g', 0, none⟩) n sc) Q j (.returned u5) (w2.setCell ⟨m, 0, none⟩ (.slice (some ⟨g', 0, none⟩) (n - j) sc))) := by
            refine ⟨u5, _, rfl, HO.out.keep (fun b hb => s2.block b (HO.out.lt b hb) ?_), HF.out, s1, (Kept.of_below HB.out).trans s2 (fun _ _ hi => hi), fun i hi => hi⟩
            have h1 := HF.out b hb
            rintro (h2 | h2)
            · omega
            · have := H.out.own.lt b h2
              omega
          clear ho2 hk2 s1 s2 s3 hm2
          rw [Nat.zero_add]
          go_wp2
          go_ret
          exact HP.out
        · obtain rfl : j = 0 := by omega
          go_wp2_with fail
          refine (tlen_any m _ Q n wr Hr.out HN.out).mono ?_
          rintro e w1 ⟨rfl, rfl⟩
          go_wp2_with fail
          go_ret
          exact ⟨_, _, rfl, HO.out, HF.out, by simpa using Hr.out, Kept.of_below HB.out, fun i hi => hi⟩
    · have hjk0 : j = k0 := by omega
      subst hjk0
      by_cases hj0 : 0 < j
      · obtain ⟨g', c', hsa, hgl'⟩ : ∃ g' c', (Value.slice sa n sc) = .slice (some ⟨g', 0, none⟩) n c' ∧ g' < wr.heap.size := by
          rcases Hr.out.own.shape with ⟨_, h0⟩ | ⟨g0, c0', cur, h1, h2, _⟩
          · have := HN.out
            rw [h0] at this
            simp at this
            omega
          · rw [HN.out] at h1
            exact ⟨g0, c0', h1, (Array.getElem?_eq_some_iff.1 h2).1⟩
        injection hsa with e1 e2 e3
        subst e1 e3
        clear e2
        go_wp2_with fail
        refine (tlen_any m _ Q n wr Hr.out HN.out).mono ?_
        rintro e w1 ⟨rfl, rfl⟩
        go_wp2_with fail
        refine (tdelete_any g' n _ 0 j Q w1 Hr.out.own HN.out.symm hj0 hiq).mono ?_
        rintro e w2 ⟨rfl, ho2, hk2⟩
        rw [List.take_zero, List.nil_append, Nat.zero_add] at ho2
        obtain ⟨s1, s2, s3⟩ := Hr.out.step (hk2.mono (fun i _ e => by rw [e]; rfl)) ho2 (fun k hk => .inl hk)
        have hm2 := (hk2.block m hmr (fun e => Hr.out.ne (by rw [e]; rfl))).trans Hr.out.hdr
        have hcell2 : w2.cell? ⟨m, 0, none⟩ = some (.slice (some ⟨g', 0, none⟩) n sc) := by rw [cell_of_row w2 m 0 _ 136 (0, 0) hm2]; rfl
        have hfz2 : ∀ j, w2.frozen? ⟨m, j, none⟩ = false := fun j => by simp [World.frozen?, hm2]
        have hm2l : m < w2.heap.size := (Array.getElem?_eq_some_iff.1 hm2).1
        have HP : Hid (DuePost w m (.slice (some ⟨g', 0, none⟩) n sc) Q j (.returned u5) (w2.setCell ⟨m, 0, none⟩ (.slice (some ⟨g', 0, none⟩) (n - j) sc))) := by
          refine ⟨u5, _, rfl, HO.out.keep (fun b hb => s2.block b (HO.out.lt b hb) ?_), HF.out, s1, (Kept.of_below HB.out).trans s2 (fun _ _ hi => hi), fun i hi => hi⟩
          have h1 := HF.out b hb
          rintro (h2 | h2)
          · omega
          · have := H.out.own.lt b h2
            omega
        clear ho2 hk2 s1 s2 s3 hm2
        rw [Nat.zero_add]
        go_wp2
        go_ret
        exact HP.out
      · obtain rfl : j = 0 := by omega
        go_wp2_with fail
        refine (tlen_any m _ Q n wr Hr.out HN.out).mono ?_
        rintro e w1 ⟨rfl, rfl⟩
        go_wp2_with fail
        go_ret
        exact ⟨_, _, rfl, HO.out, HF.out, by simpa using Hr.out, Kept.of_below HB.out, fun i hi => hi⟩

end Go.Proofs.Ytgnjenmicojgnaa
