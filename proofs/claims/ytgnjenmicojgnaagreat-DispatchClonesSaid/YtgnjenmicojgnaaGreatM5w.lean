/-
  Timers: what Set does to an id that has none, and what Due takes out.
-/
import Derived.Test.YtgnjenmicojgnaaGreatM4w
import Derived.Test.YtgnjenmicojgnaaGreatK0w
namespace Go.Proofs.YtgnjenmicojgnaaGreat
set_option linter.unusedVariables false
set_option linter.unusedSimpArgs false
open Go.RowKit

/-- How many of the first timers aren't above a tick. -/
def iQ (Q : List (Int × Int)) (a : Int) : Nat := (Q.takeWhile (fun q => decide (q.2 ≤ a))).length
def insQ (Q : List (Int × Int)) (q : Int × Int) : List (Int × Int) := Q.take (iQ Q q.2) ++ q :: Q.drop (iQ Q q.2)

theorem iQ_nil (a : Int) : iQ [] a = 0 := rfl
theorem iQ_cons (p : Int × Int) (r : List (Int × Int)) (a : Int) : iQ (p :: r) a = if p.2 ≤ a then iQ r a + 1 else 0 := by
  unfold iQ
  rw [List.takeWhile_cons]
  by_cases h : p.2 ≤ a <;> simp [h]
theorem iQ_le : ∀ (Q : List (Int × Int)) (a : Int), iQ Q a ≤ Q.length
  | [], _ => Nat.le_refl _
  | p :: r, a => by
    rw [iQ_cons, List.length_cons]
    have := iQ_le r a
    split <;> omega
theorem iQ_lt : ∀ {Q : List (Int × Int)} {a : Int} {j : Nat} {q : Int × Int}, j < iQ Q a → Q[j]? = some q → q.2 ≤ a
  | [], _, _, _, h, _ => absurd h (Nat.not_lt_zero _)
  | p :: r, a, j, q, h, hq => by
    rw [iQ_cons] at h
    split at h
    · rename_i hp
      cases j with
      | zero => simp at hq; rw [← hq]; exact hp
      | succ j => exact iQ_lt (Q := r) (j := j) (by omega) (by simpa using hq)
    · omega
theorem iQ_at : ∀ {Q : List (Int × Int)} {a : Int} {q : Int × Int}, Q[iQ Q a]? = some q → a < q.2
  | [], _, _, h => by simp [iQ] at h
  | p :: r, a, q, h => by
    rw [iQ_cons] at h
    split at h
    · rw [List.getElem?_cons_succ] at h
      exact iQ_at h
    · simp at h
      rw [← h]
      omega

theorem Tms.own {w : World} {m : Nat} {v : Value} {Q : List (Int × Int)} (h : Tms w m v Q) : OwnP 131 w v Q := h.row

/-- The slice has become another one, and was stored. -/
theorem Tms.step {w w1 : World} {m : Nat} {v v' : Value} {Q Q' : List (Int × Int)} (h : Tms w m v Q) (hk : Kept w w1 (fun i => v.ownBlock = some i)) (ho : OwnP 131 w1 v' Q') (hf : ∀ k, v'.ownBlock = some k → v.ownBlock = some k ∨ w.heap.size ≤ k) :
    Tms (w1.setCell ⟨m, 0, none⟩ v') m v' Q' ∧ Kept w (w1.setCell ⟨m, 0, none⟩ v') (inT m v) ∧ (∀ i, inT m v' i → inT m v i ∨ w.heap.size ≤ i) := by
  have hm := h.lt (.inl rfl)
  have hne : v'.ownBlock ≠ some m := fun e => by
    rcases hf m e with h1 | h1
    · exact h.ne h1
    · omega
  refine ⟨⟨?_, ?_, hne⟩, (hk.mono (fun i _ hi => .inr hi)).trans (Kept.setCell w1 m 0 v') (fun i _ e => .inl e), ?_⟩
  · have := (hk.block m hm h.ne).trans h.hdr
    rw [heap_setCell this]
    rfl
  · exact ho.keep (fun k hk' => heap_setCell_other (fun e => hne (e ▸ hk')))
  · rintro i (rfl | hi)
    · exact .inl (.inl rfl)
    · exact (hf i hi).imp .inr id

def TPost (w : World) (m : Nat) (v : Value) (Q' : List (Int × Int)) (r : Value) (e : Ending) (w' : World) : Prop :=
  e = .returned r ∧ ∃ v', Tms w' m v' Q' ∧ Kept w w' (inT m v) ∧ (∀ i, inT m v' i → inT m v i ∨ w.heap.size ≤ i)

set_option maxRecDepth 100000 in
set_option maxHeartbeats 2000000 in
theorem tset_none (m : Nat) (v : Value) (Q : List (Int × Int)) (id a : Int) (w : World) (h : Tms w m v Q) (hl : Q.length ≤ 900) (hi : idxQ Q id = -1) :
    Calls Tryz.prog 112 #[.pointer (some ⟨m, 0, none⟩), .int .i64 id, .int .i64 a] w (TPost w m v (insQ Q (id, a)) (.tuple #[])) := by
  have HD := Lib.hid (tdrop_none m v Q id w h (by omega) hi)
  have H := Lib.hid h
  have hml := h.lt (.inl rfl)
  obtain ⟨n, hn⟩ : ∃ n, Q.length = n := ⟨_, rfl⟩
  have HN := Lib.hid hn
  have hnl : n ≤ 900 := by omega
  have hiq : iQ Q a ≤ n := by rw [← hn]; exact iQ_le Q a
  obtain ⟨k0, hk0⟩ : ∃ k0, iQ Q a = k0 := ⟨_, rfl⟩
  rw [hk0] at hiq
  have HK0 := Lib.hid hk0
  clear h hi hn hl hk0
  go_enter Tryz.func112, Tryz.ntmps112
  go_wp2_with fail
  refine HD.out.mono ?_
  rintro e w1 ⟨rfl, hb1⟩
  have H1 := Lib.hid (H.out.below hb1)
  have HB1 := Lib.hid hb1
  have hm1 : m < w1.heap.size := by have := hb1.size; omega
  obtain ⟨sa, sc, hsl⟩ := H1.out.sl
  rw [HN.out] at hsl
  have hcell := H1.out.cell
  rw [hsl] at hcell
  clear hb1
  go_wp2_with fail
  go_loopw [6] (fun s6 wr => ∃ j : Nat, j ≤ k0 ∧ s6 = .int .i64 j ∧ wr = w1) (fun i _ => n - (intOf i).toNat)
  case atStart => exact ⟨0, by omega, rfl, rfl⟩
  case round =>
    obtain ⟨j, hj, rfl, rfl⟩ := hrel
    by_cases hjn : j < n
    · obtain ⟨q, hq⟩ : ∃ q, Q[j]? = some q := ⟨_, List.getElem?_eq_getElem (by have := HN.out; omega)⟩
      obtain ⟨g, c, hv, hgl, c0, c1⟩ := H1.out.own.at hq
      rw [hsl] at hv
      injection hv with e1 e2 e3
      subst e1 e3
      by_cases hjk : j < k0
      · have hle : q.2 ≤ a := iQ_lt (by rw [HK0.out]; exact hjk) hq
        have hleb : decide (q.2 ≤ a) = true := by simpa using hle
        clear hq e2 hsl
        go_wp2_with fail
        go_roundw
        case rel => exact ⟨j + 1, by omega, by go_num, by first | rfl | trivial⟩
        case measure => simp [intOf]; omega
      · have hjk0 : j = k0 := by omega
        have hgt : a < q.2 := iQ_at (by rw [HK0.out, ← hjk0]; exact hq)
        have hleb : decide (q.2 ≤ a) = false := by simp; omega
        have hle : ¬ q.2 ≤ a := by omega
        subst hjk0
        have HSL := Lib.hid hsl
        clear hq e2 hsl hjk
        go_wp2_with fail
        have hins := tinsert_any v n j wr.heap.size Q (id, a) (wr.alloc (.cells #[.int .i64 id, .int .i64 a] 131)) (H1.out.own.alloc _) HN.out hiq (by omega) (heap_alloc_new wr _) (fun e => by have := H1.out.own.lt _ e; omega)
        rw [HSL.out] at hins
        refine hins.mono ?_
        rintro e w2 ⟨a', c', rfl, ho, hk, hf⟩
        have hka : Kept wr w2 (fun i => v.ownBlock = some i) := by
          rw [HSL.out]
          exact (Kept.of_below ((Below.refl _ _).alloc (Nat.le_refl _) _)).trans hk (fun _ _ hi => hi)
        have hf' : ∀ k, (Value.slice a' (Q.take j ++ (id, a) :: Q.drop j).length c').ownBlock = some k → v.ownBlock = some k ∨ wr.heap.size ≤ k := fun k hk' => by
          rw [HSL.out]
          rcases hf k hk' with h1 | h1
          · exact .inl h1
          · exact .inr (by simp at h1; omega)
        obtain ⟨s1, s2, s3⟩ := H1.out.step hka ho hf'
        have hm2 := (hka.block m hm1 H1.out.ne).trans H1.out.hdr
        have hcell2 : w2.cell? ⟨m, 0, none⟩ = some v := by rw [cell_of_row w2 m 0 _ 133 (0, 0) hm2]; rfl
        have hfz2 : ∀ j, w2.frozen? ⟨m, j, none⟩ = false := fun j => by simp [World.frozen?, hm2]
        have HP : Hid (TPost w m v (insQ Q (id, a)) (.tuple #[]) (.returned (.tuple #[])) (w2.setCell ⟨m, 0, none⟩ (.slice a' (Q.take j ++ (id, a) :: Q.drop j).length c'))) := by
          refine ⟨rfl, _, ?_, (Kept.of_below HB1.out).trans s2 (fun _ _ hi => hi), fun i hi => (s3 i hi).imp (fun h => h) (fun h => Nat.le_trans HB1.out.size h)⟩
          unfold insQ
          rw [HK0.out]
          exact s1
        have hm2l : m < w2.heap.size := (Array.getElem?_eq_some_iff.1 hm2).1
        clear hins ho hk hf hka hf' s1 s2 s3 hm2
        obtain ⟨nn, hnn⟩ : ∃ nn, (Q.take j ++ (id, a) :: Q.drop j).length = nn := ⟨_, rfl⟩
        rw [hnn] at HP ⊢
        clear hnn
        go_wp2
        go_end0
        exact HP.out
    · have hjk0 : j = k0 := by omega
      subst hjk0
      have HSL := Lib.hid hsl
      clear hsl
      go_wp2_with fail
      have hins := tinsert_any v n j wr.heap.size Q (id, a) (wr.alloc (.cells #[.int .i64 id, .int .i64 a] 131)) (H1.out.own.alloc _) HN.out hiq (by omega) (heap_alloc_new wr _) (fun e => by have := H1.out.own.lt _ e; omega)
      rw [HSL.out] at hins
      refine hins.mono ?_
      rintro e w2 ⟨a', c', rfl, ho, hk, hf⟩
      have hka : Kept wr w2 (fun i => v.ownBlock = some i) := by
        rw [HSL.out]
        exact (Kept.of_below ((Below.refl _ _).alloc (Nat.le_refl _) _)).trans hk (fun _ _ hi => hi)
      have hf' : ∀ k, (Value.slice a' (Q.take j ++ (id, a) :: Q.drop j).length c').ownBlock = some k → v.ownBlock = some k ∨ wr.heap.size ≤ k := fun k hk' => by
        rw [HSL.out]
        rcases hf k hk' with h1 | h1
        · exact .inl h1
        · exact .inr (by simp at h1; omega)
      obtain ⟨s1, s2, s3⟩ := H1.out.step hka ho hf'
      have hm2 := (hka.block m hm1 H1.out.ne).trans H1.out.hdr
      have hcell2 : w2.cell? ⟨m, 0, none⟩ = some v := by rw [cell_of_row w2 m 0 _ 133 (0, 0) hm2]; rfl
      have hfz2 : ∀ j, w2.frozen? ⟨m, j, none⟩ = false := fun j => by simp [World.frozen?, hm2]
      have HP : Hid (TPost w m v (insQ Q (id, a)) (.tuple #[]) (.returned (.tuple #[])) (w2.setCell ⟨m, 0, none⟩ (.slice a' (Q.take j ++ (id, a) :: Q.drop j).length c'))) := by
        refine ⟨rfl, _, ?_, (Kept.of_below HB1.out).trans s2 (fun _ _ hi => hi), fun i hi => (s3 i hi).imp (fun h => h) (fun h => Nat.le_trans HB1.out.size h)⟩
        unfold insQ
        rw [HK0.out]
        exact s1
      have hm2l : m < w2.heap.size := (Array.getElem?_eq_some_iff.1 hm2).1
      clear hins ho hk hf hka hf' s1 s2 s3 hm2
      obtain ⟨nn, hnn⟩ : ∃ nn, (Q.take j ++ (id, a) :: Q.drop j).length = nn := ⟨_, rfl⟩
      rw [hnn] at HP ⊢
      clear hnn
      go_wp2
      go_end0
      exact HP.out

end Go.Proofs.YtgnjenmicojgnaaGreat
