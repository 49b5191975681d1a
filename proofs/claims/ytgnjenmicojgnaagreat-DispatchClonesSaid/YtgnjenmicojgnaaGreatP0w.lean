/-
  Timers of package delta: At, Drop and Set, of one that has a tick as of one that has none.
-/
import Derived.Test.YtgnjenmicojgnaaGreatM5w
namespace Go.Proofs.YtgnjenmicojgnaaGreat
set_option linter.unusedVariables false
set_option linter.unusedSimpArgs false
open Go.RowKit

def rmQ (Q : List (Int × Int)) (id : Int) : List (Int × Int) := Q.filter (fun q => q.1 != id)
def tickOf (Q : List (Int × Int)) (id : Int) : Option Int := (Q.find? (fun q => q.1 == id)).map Prod.snd

theorem idxQ_out {Q : List (Int × Int)} {x : Int} (h : x ∉ Q.map Prod.fst) : idxQ Q x = -1 := by
  unfold idxQ
  have : Q.findIdx? (fun q => q.1 == x) = none := by
    rw [List.findIdx?_eq_none_iff]
    intro q hq
    have : q.1 ≠ x := fun e => h (by rw [List.mem_map]; exact ⟨q, hq, e⟩)
    simpa using this
  rw [this]
theorem rmQ_out {Q : List (Int × Int)} {x : Int} (h : x ∉ Q.map Prod.fst) : rmQ Q x = Q := by
  unfold rmQ
  rw [List.filter_eq_self]
  intro q hq
  have : q.1 ≠ x := fun e => h (by rw [List.mem_map]; exact ⟨q, hq, e⟩)
  simpa using this
theorem tickOf_none {Q : List (Int × Int)} {x : Int} (h : tickOf Q x = none) : x ∉ Q.map Prod.fst := by
  intro hm
  obtain ⟨q, hq, he⟩ := List.mem_map.1 hm
  unfold tickOf at h
  rw [Option.map_eq_none_iff, List.find?_eq_none] at h
  exact h q hq (by simpa using he)
theorem tickOf_out {Q : List (Int × Int)} {x : Int} (h : x ∉ Q.map Prod.fst) : tickOf Q x = none := by
  unfold tickOf
  rw [Option.map_eq_none_iff, List.find?_eq_none]
  intro q hq he
  exact h (List.mem_map.2 ⟨q, hq, by simpa using he⟩)
theorem idxQ_in : ∀ {Q : List (Int × Int)} {x a : Int}, (Q.map Prod.fst).Nodup → tickOf Q x = some a → ∃ k : Nat, idxQ Q x = k ∧ Q[k]? = some (x, a) ∧ Q.take k ++ Q.drop (k + 1) = rmQ Q x
  | [], x, a, _, h => by simp [tickOf] at h
  | q :: r, x, a, hn, h => by
    rw [List.map_cons, List.nodup_cons] at hn
    by_cases e : q.1 = x
    · refine ⟨0, ?_, ?_, ?_⟩
      · unfold idxQ
        rw [List.findIdx?_cons, if_pos (by simpa using e)]
      · unfold tickOf at h
        rw [List.find?_cons_of_pos (by simpa using e)] at h
        injection h with h
        rw [List.getElem?_cons_zero, ← e, ← h]
      · have := rmQ_out (x := x) (Q := r) (by rw [← e]; exact hn.1)
        unfold rmQ at this ⊢
        rw [List.filter_cons, if_neg (by simpa using e), this]
        rfl
    · have h' : tickOf r x = some a := by
        unfold tickOf at h ⊢
        rwa [List.find?_cons_of_neg (by simpa using e)] at h
      obtain ⟨k, h1, h2, h3⟩ := idxQ_in hn.2 h'
      refine ⟨k + 1, ?_, ?_, ?_⟩
      · unfold idxQ at h1 ⊢
        rw [List.findIdx?_cons, if_neg (by simpa using e)]
        cases hf : r.findIdx? (fun q => q.1 == x) with
        | none => rw [hf] at h1; simp at h1
        | some j =>
          rw [hf] at h1
          simp at h1 ⊢
          omega
      · rw [List.getElem?_cons_succ]
        exact h2
      · rw [List.take_succ_cons, List.drop_succ_cons, List.cons_append, h3]
        unfold rmQ
        rw [List.filter_cons, if_pos (by simpa using e)]

theorem rmQ_length (Q : List (Int × Int)) (x : Int) : (rmQ Q x).length ≤ Q.length := List.length_filter_le _ _

/-- What At answers. -/
def atR (o : Option Int) : Value := .tuple #[.int .i64 (o.getD 0), .bool o.isSome]

set_option maxRecDepth 100000 in
set_option maxHeartbeats 1000000 in
theorem atick_any (m : Nat) (v : Value) (Q : List (Int × Int)) (id : Int) (w : World) (h : Tms w m v Q) (hl : Q.length ≤ 900) (hn : (Q.map Prod.fst).Nodup) {o : Option Int} (ho : tickOf Q id = o) :
    Calls Tryz.prog 110 #[.pointer (some ⟨m, 0, none⟩), .int .i64 id] w fun e w' => e = .returned (atR o) ∧ Below w.heap.size w w' := by
  cases o with
  | none => exact at_none m v Q id w h (by omega) (idxQ_out (tickOf_none ho))
  | some a =>
    obtain ⟨k, h1, h2, -⟩ := idxQ_in hn ho
    have HC := Lib.hid (find_any m v Q id w h (by omega))
    rw [h1] at HC
    have H := Lib.hid h
    have hml := h.lt (.inl rfl)
    have hkl := (List.getElem?_eq_some_iff.1 h2).1
    clear h h1
    go_enter Tryz.func110, Tryz.ntmps110
    go_wp2_with fail
    refine HC.out.mono ?_
    rintro e w1 ⟨rfl, hb1⟩
    have H1 := Lib.hid (H.out.below hb1)
    have HB1 := Lib.hid hb1
    have hm1 : m < w1.heap.size := by have := hb1.size; omega
    obtain ⟨g, cc, hv, hgl, c0, c1⟩ := H1.out.own.at h2
    have hcell := H1.out.cell
    rw [hv] at hcell
    have hk0 : ¬ (k : Int) < 0 := by omega
    clear hb1 h2 hv
    go_wp2_with fail
    go_ret2
    exact ⟨rfl, HB1.out⟩

set_option maxRecDepth 100000 in
set_option maxHeartbeats 1000000 in
theorem tdrop_any (m : Nat) (v : Value) (Q : List (Int × Int)) (id : Int) (w : World) (h : Tms w m v Q) (hl : Q.length ≤ 900) (hn : (Q.map Prod.fst).Nodup) :
    Calls Tryz.prog 111 #[.pointer (some ⟨m, 0, none⟩), .int .i64 id] w (TPost w m v (rmQ Q id) (.bool (tickOf Q id).isSome)) := by
  obtain ⟨o, ho⟩ : ∃ o, tickOf Q id = o := ⟨_, rfl⟩
  rw [ho]
  cases o with
  | none =>
    have hno := tickOf_none ho
    refine (tdrop_none m v Q id w h (by omega) (idxQ_out hno)).mono ?_
    rintro e w1 ⟨rfl, hb1⟩
    rw [rmQ_out hno]
    exact ⟨rfl, v, h.below hb1, Kept.of_below hb1, fun i hi => .inl hi⟩
  | some a =>
    obtain ⟨k, h1, h2, h3⟩ := idxQ_in hn ho
    have HC := Lib.hid (find_any m v Q id w h (by omega))
    rw [h1] at HC
    have H := Lib.hid h
    have hml := h.lt (.inl rfl)
    have hkl := (List.getElem?_eq_some_iff.1 h2).1
    obtain ⟨n, hnn⟩ : ∃ n, Q.length = n := ⟨_, rfl⟩
    rw [hnn] at hkl
    have HN := Lib.hid hnn
    have H3 := Lib.hid h3
    clear h h1 hn hnn h3
    go_enter Tryz.func111, Tryz.ntmps111
    go_wp2_with fail
    refine HC.out.mono ?_
    rintro e w1 ⟨rfl, hb1⟩
    have H1 := Lib.hid (H.out.below hb1)
    have HB1 := Lib.hid hb1
    have hm1 : m < w1.heap.size := by have := hb1.size; omega
    obtain ⟨g, cc, hv, hgl, c0, c1⟩ := H1.out.own.at h2
    rw [HN.out] at hv
    have hcell := H1.out.cell
    rw [hv] at hcell
    have hown := H1.out.own
    rw [hv] at hown
    have HO := Lib.hid hown
    have HV := Lib.hid hv
    have hk0 : ¬ (k : Int) < 0 := by omega
    have hnl : n ≤ 900 := by have := HN.out; omega
    clear hb1 h2 hv c0 c1 hown
    go_wp2_with fail
    refine (tdelete_any g n cc k (k + 1) Q w1 HO.out HN.out.symm (by omega) (by omega)).mono ?_
    rintro e w2 ⟨rfl, ho2, hk2⟩
    rw [H3.out] at ho2
    obtain ⟨s1, s2, s3⟩ := H1.out.step (v' := .slice (some ⟨g, 0, none⟩) (k + (n - (k + 1))) cc) (hk2.mono (fun i _ e => by rw [HV.out, e]; rfl)) ho2 (fun b hb => .inl (by rw [HV.out]; exact hb))
    have hm2 := (hk2.block m hm1 (fun e => H1.out.ne (by rw [HV.out, e]; rfl))).trans H1.out.hdr
    have hcell2 : w2.cell? ⟨m, 0, none⟩ = some (.slice (some ⟨g, 0, none⟩) n cc) := by rw [cell_of_row w2 m 0 _ 133 (0, 0) hm2, HV.out]; rfl
    have hfz2 : ∀ j, w2.frozen? ⟨m, j, none⟩ = false := fun j => by simp [World.frozen?, hm2]
    have hml2 : m < w2.heap.size := (Array.getElem?_eq_some_iff.1 hm2).1
    have HP : Hid (TPost w m v (rmQ Q id) (.bool true) (.returned (.bool true)) (w2.setCell ⟨m, 0, none⟩ (.slice (some ⟨g, 0, none⟩) (k + (n - (k + 1))) cc))) :=
      ⟨rfl, _, s1, (Kept.of_below HB1.out).trans s2 (fun _ _ hi => hi), fun i hi => (s3 i hi).imp (fun h => h) (fun h => Nat.le_trans HB1.out.size h)⟩
    clear ho2 hk2 s1 s2 s3 hm2
    go_wp2_with fail
    go_ret
    exact HP.out

set_option maxRecDepth 100000 in
set_option maxHeartbeats 2000000 in
theorem tset_any (m : Nat) (v : Value) (Q : List (Int × Int)) (id a : Int) (w : World) (h : Tms w m v Q) (hl : Q.length ≤ 900) (hnd : (Q.map Prod.fst).Nodup) :
    Calls Tryz.prog 112 #[.pointer (some ⟨m, 0, none⟩), .int .i64 id, .int .i64 a] w (TPost w m v (insQ (rmQ Q id) (id, a)) (.tuple #[])) := by
  have HD := Lib.hid (tdrop_any m v Q id w h hl hnd)
  obtain ⟨Q1, hQ1⟩ : ∃ Q1, rmQ Q id = Q1 := ⟨_, rfl⟩
  have hl1 : Q1.length ≤ 900 := by have := rmQ_length Q id; rw [hQ1] at this; omega
  rw [hQ1] at HD ⊢
  clear hQ1
  have H := Lib.hid h
  have hml := h.lt (.inl rfl)
  obtain ⟨n, hn⟩ : ∃ n, Q1.length = n := ⟨_, rfl⟩
  have HN := Lib.hid hn
  have hnl : n ≤ 900 := by omega
  have hiq : iQ Q1 a ≤ n := by rw [← hn]; exact iQ_le Q1 a
  obtain ⟨k0, hk0⟩ : ∃ k0, iQ Q1 a = k0 := ⟨_, rfl⟩
  rw [hk0] at hiq
  have HK0 := Lib.hid hk0
  clear h hnd hn hl hk0
  go_enter Tryz.func112, Tryz.ntmps112
  go_wp2_with fail
  refine HD.out.mono ?_
  rintro e w1 ⟨rfl, v1, hM1, hk1, hn1⟩
  have H1 := Lib.hid hM1
  have HK1 := Lib.hid hk1
  have HN1 := Lib.hid hn1
  have hm1 : m < w1.heap.size := by have := hk1.size; omega
  obtain ⟨sa, sc, hsl⟩ := H1.out.sl
  rw [HN.out] at hsl
  have hcell := H1.out.cell
  rw [hsl] at hcell
  clear hM1 hk1 hn1
  go_wp2_with fail
  go_loopw [6] (fun s6 wr => ∃ j : Nat, j ≤ k0 ∧ s6 = .int .i64 j ∧ wr = w1) (fun i _ => n - (intOf i).toNat)
  case atStart => exact ⟨0, by omega, rfl, rfl⟩
  case round =>
    obtain ⟨j, hj, rfl, rfl⟩ := hrel
    by_cases hjn : j < n
    · obtain ⟨q, hq⟩ : ∃ q, Q1[j]? = some q := ⟨_, List.getElem?_eq_getElem (by have := HN.out; omega)⟩
      obtain ⟨g, c, hv, hgl, c0, c1⟩ := H1.out.own.at hq
      rw [hsl] at hv
      injection hv with e1 e2 e3
      subst e1 e3
      by_cases hjk : j < k0
      · have hle : q.2 ≤ a := iQ_lt (by rw [HK0.out]; exact hjk) hq
        have hleb : decide (q.2 ≤ a) = true := by simpa using hle
        clear hq e2 hsl
        go_wp2_with fail
        go_roundw
        case rel => exact ⟨j + 1, by omega, by go_num, by first | rfl | trivial⟩
        case measure => simp [intOf]; omega
      · have hjk0 : j = k0 := by omega
        have hgt : a < q.2 := iQ_at (by rw [HK0.out, ← hjk0]; exact hq)
        have hleb : decide (q.2 ≤ a) = false := by simp; omega
        have hle : ¬ q.2 ≤ a := by omega
        subst hjk0
        have HSL := Lib.hid hsl
        clear hq e2 hsl hjk
        go_wp2_with fail
        have hins := tinsert_any v1 n j wr.heap.size Q1 (id, a) (wr.alloc (.cells #[.int .i64 id, .int .i64 a] 131)) (H1.out.own.alloc _) HN.out hiq (by omega) (heap_alloc_new wr _) (fun e => by have := H1.out.own.lt _ e; omega)
        rw [HSL.out] at hins
        refine hins.mono ?_
        rintro e w2 ⟨a', c', rfl, ho, hk, hf⟩
        have hka : Kept wr w2 (fun i => v1.ownBlock = some i) := by
          rw [HSL.out]
          exact (Kept.of_below ((Below.refl _ _).alloc (Nat.le_refl _) _)).trans hk (fun _ _ hi => hi)
        have hf' : ∀ k, (Value.slice a' (Q1.take j ++ (id, a) :: Q1.drop j).length c').ownBlock = some k → v1.ownBlock = some k ∨ wr.heap.size ≤ k := fun k hk' => by
          rw [HSL.out]
          rcases hf k hk' with h1 | h1
          · exact .inl h1
          · exact .inr (by simp at h1; omega)
        obtain ⟨s1, s2, s3⟩ := H1.out.step hka ho hf'
        have hm2 := (hka.block m hm1 H1.out.ne).trans H1.out.hdr
        have hcell2 : w2.cell? ⟨m, 0, none⟩ = some v1 := by rw [cell_of_row w2 m 0 _ 133 (0, 0) hm2]; rfl
        have hfz2 : ∀ j, w2.frozen? ⟨m, j, none⟩ = false := fun j => by simp [World.frozen?, hm2]
        have HP : Hid (TPost w m v (insQ Q1 (id, a)) (.tuple #[]) (.returned (.tuple #[])) (w2.setCell ⟨m, 0, none⟩ (.slice a' (Q1.take j ++ (id, a) :: Q1.drop j).length c'))) := by
          refine ⟨rfl, _, ?_, HK1.out.trans s2 (fun i hlt hi => (HN1.out i hi).elim (fun h => h) (fun h => by omega)), fun i hi => (s3 i hi).elim (fun h => HN1.out i h) (fun h => .inr (Nat.le_trans HK1.out.size h))⟩
          unfold insQ
          rw [HK0.out]
          exact s1
        have hm2l : m < w2.heap.size := (Array.getElem?_eq_some_iff.1 hm2).1
        clear hins ho hk hf hka hf' s1 s2 s3 hm2
        obtain ⟨nn, hnn⟩ : ∃ nn, (Q1.take j ++ (id, a) :: Q1.drop j).length = nn := ⟨_, rfl⟩
        rw [hnn] at HP ⊢
        clear hnn
        go_wp2
        go_end0
        exact HP.out
    · have hjk0 : j = k0 := by omega
      subst hjk0
      have HSL := Lib.hid hsl
      clear hsl
      go_wp2_with fail
      have hins := tinsert_any v1 n j wr.heap.size Q1 (id, a) (wr.alloc (.cells #[.int .i64 id, .int .i64 a] 131)) (H1.out.own.alloc _) HN.out hiq (by omega) (heap_alloc_new wr _) (fun e => by have := H1.out.own.lt _ e; omega)
      rw [HSL.out] at hins
      refine hins.mono ?_
      rintro e w2 ⟨a', c', rfl, ho, hk, hf⟩
      have hka : Kept wr w2 (fun i => v1.ownBlock = some i) := by
        rw [HSL.out]
        exact (Kept.of_below ((Below.refl _ _).alloc (Nat.le_refl _) _)).trans hk (fun _ _ hi => hi)
      have hf' : ∀ k, (Value.slice a' (Q1.take j ++ (id, a) :: Q1.drop j).length c').ownBlock = some k → v1.ownBlock = some k ∨ wr.heap.size ≤ k := fun k hk' => by
        rw [HSL.out]
        rcases hf k hk' with h1 | h1
        · exact .inl h1
        · exact .inr (by simp at h1; omega)
      obtain ⟨s1, s2, s3⟩ := H1.out.step hka ho hf'
      have hm2 := (hka.block m hm1 H1.out.ne).trans H1.out.hdr
      have hcell2 : w2.cell? ⟨m, 0, none⟩ = some v1 := by rw [cell_of_row w2 m 0 _ 133 (0, 0) hm2]; rfl
      have hfz2 : ∀ j, w2.frozen? ⟨m, j, none⟩ = false := fun j => by simp [World.frozen?, hm2]
      have HP : Hid (TPost w m v (insQ Q1 (id, a)) (.tuple #[]) (.returned (.tuple #[])) (w2.setCell ⟨m, 0, none⟩ (.slice a' (Q1.take j ++ (id, a) :: Q1.drop j).length c'))) := by
        refine ⟨rfl, _, ?_, HK1.out.trans s2 (fun i hlt hi => (HN1.out i hi).elim (fun h => h) (fun h => by omega)), fun i hi => (s3 i hi).elim (fun h => HN1.out i h) (fun h => .inr (Nat.le_trans HK1.out.size h))⟩
        unfold insQ
        rw [HK0.out]
        exact s1
      have hm2l : m < w2.heap.size := (Array.getElem?_eq_some_iff.1 hm2).1
      clear hins ho hk hf hka hf' s1 s2 s3 hm2
      obtain ⟨nn, hnn⟩ : ∃ nn, (Q1.take j ++ (id, a) :: Q1.drop j).length = nn := ⟨_, rfl⟩
      rw [hnn] at HP ⊢
      clear hnn
      go_wp2
      go_end0
      exact HP.out

end Go.Proofs.YtgnjenmicojgnaaGreat
