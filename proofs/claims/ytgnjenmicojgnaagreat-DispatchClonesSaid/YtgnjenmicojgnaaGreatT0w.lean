/-
  What the document's Without, Behind, Ahead and Ids make of a row of entries.
-/
import Derived.Test.YtgnjenmicojgnaaGreatS0w
namespace Go.Proofs.YtgnjenmicojgnaaGreat
set_option linter.unusedVariables false
set_option linter.unusedSimpArgs false
open Go.RowKit

theorem info88 : (Tryz.prog.info? 88).map (fun i => (i.zero, i.size, i.bytes)) = some (some (.agg #[.int .i64 0, .int .i64 0]), 2, 16) := by kernel_rfl

def NewE (w : World) (qs : List (Int × Int)) (e : Ending) (w' : World) : Prop :=
  ∃ u, e = .returned u ∧ OwnP 88 w' u qs ∧ (∀ b, u.ownBlock = some b → w.heap.size ≤ b) ∧ Below w.heap.size w w'

theorem one_reads88 {w : World} {vb : Nat} {q : Int × Int} (hv : w.heap[vb]? = some (.cells #[.int .i64 q.1, .int .i64 q.2] 88 (0, 0))) : ReadsP w (.slice (some ⟨vb, 0, none⟩) 1 1) [q] :=
  ⟨_, _, rfl, fun _ => ⟨_, rfl, fun j u hu => by
    rw [Addr.add_lit, cell_of_row w vb _ _ 88 (0, 0) hv]
    match j, hu with
    | 0, hu => simp [pv, flatG, tmC] at hu; subst hu; rfl
    | 1, hu => simp [pv, flatG, tmC] at hu; subst hu; rfl
    | j + 2, hu => simp [pv, flatG, tmC] at hu⟩⟩

/-- append of one entry to a slice of this call's own. -/
theorem app_one88 {w wr : World} {u : Value} {xs : List (Int × Int)} (q : Int × Int) (ho : OwnP 88 wr u xs) (hf : ∀ b, u.ownBlock = some b → w.heap.size ≤ b) (hb : Below w.heap.size w wr) (hl : xs.length ≤ 1000) :
    ∃ v' w', (Builtin.append_ #[45, 45] 45 #[u, .slice (some ⟨wr.heap.size, 0, none⟩) 1 1]).run Tryz.prog (wr.alloc (.cells #[.int .i64 q.1, .int .i64 q.2] 88)) = .ok v' w' ∧ OwnP 88 w' v' (xs ++ [q]) ∧ (∀ b, v'.ownBlock = some b → w.heap.size ≤ b) ∧ Below w.heap.size w w' := by
  obtain ⟨v', w', h1, h2, h3, h4⟩ := own_appendP (t := 45) (ty := 45) Tryz.underlying45 info88 (ho.alloc (.cells #[.int .i64 q.1, .int .i64 q.2] 88)) (one_reads88 (q := q) (heap_alloc_new wr _)) (by simp; omega)
  refine ⟨v', w', h1, h2, fun b hb' => ?_, grown_below (w := w) (hb.alloc hb.size _) h3 hf⟩
  rcases h4 b hb' with h5 | h5
  · exact hf b h5
  · have := hb.size
    simp at h5
    omega

theorem step_app88 {ops : Array Oper} {o : Oper} {a : Act} {W w0 : World} {K : Act → World → Prop} {Q : Exit → Act → World → Prop} {E : Prop} {B : Nat}
    (hg : o.guard = none) (s x : Operand) (hop : o.op = Op.call { callee := Callee.builtin Builtin.append, args := #[s, x], argTypes := #[45, 45] })
    {v u : Value} {xs ys : List (Int × Int)} (hs : a.eval s = v) (hx : a.eval x = u) (ho : OwnP 88 W v xs) (hy : ReadsP W u ys) (hl : xs.length + ys.length ≤ 1000) (hf : ∀ b, v.ownBlock = some b → B ≤ b) (hb : Below B w0 W) (hBW : B ≤ W.heap.size)
    (hK : ∀ v' w', OwnP 88 w' v' (xs ++ ys) → (∀ b, v'.ownBlock = some b → B ≤ b) → Below B w0 w' → W.grownBy w' v.ownBlock → K (a.put o.dst v') w') :
    if Region.wanted o (yielded ops a.tmps) = true then Oper.wp Tryz.prog o a W K Q else E := by
  have hw : Region.wanted o (yielded ops a.tmps) = true := by simp [Region.wanted, hg]
  rw [if_pos hw]
  obtain ⟨v', w', h1, h2, h3, h4⟩ := own_appendP (t := 45) (ty := o.type) Tryz.underlying45 info88 ho hy (by omega)
  have hb' : Below B w0 w' := hb.grown h3 hBW (fun k hk => hf k hk)
  have hf' : ∀ b, v'.ownBlock = some b → B ≤ b := fun b hb'' => by
    rcases h4 b hb'' with h5 | h5
    · exact hf b h5
    · omega
  unfold Oper.wp
  simp [execOp, hop, resolve, invoke, builtin, hs, hx, h1, Result.andThen]
  exact hK v' w' h2 hf' hb' h3

theorem own_nil88 {W : World} {b : Nat} (h : W.heap[b]? = some (.cells #[] 88 (0, 0))) : OwnP 88 W (.slice (some ⟨b, 0, none⟩) 0 0) [] :=
  OwnP.make (qs := []) h rfl (Nat.le_refl _) (Nat.zero_le _) (fun j u hu => by simp [pv, flatG] at hu)

def kW (f : Int → Bool) (E : List (Int × Int)) : Nat := (E.takeWhile (fun x => f x.2)).length
theorem kW_cons (f : Int → Bool) (p : Int × Int) (r : List (Int × Int)) : kW f (p :: r) = if f p.2 = true then kW f r + 1 else 0 := by
  unfold kW
  rw [List.takeWhile_cons]
  split <;> rfl
theorem kW_le (f : Int → Bool) : ∀ (E : List (Int × Int)), kW f E ≤ E.length
  | [] => Nat.le_refl _
  | p :: r => by
    rw [kW_cons]
    have := kW_le f r
    split
    · simp; exact this
    · omega
theorem kW_lt {f : Int → Bool} : ∀ {E : List (Int × Int)} {j : Nat} {q : Int × Int}, j < kW f E → E[j]? = some q → f q.2 = true
  | [], j, q, h, hq => by simp at hq
  | p :: r, 0, q, h, hq => by
    rw [kW_cons] at h
    simp at hq
    subst hq
    by_cases hp : f p.2 = true
    · exact hp
    · rw [if_neg hp] at h; omega
  | p :: r, j + 1, q, h, hq => by
    rw [kW_cons] at h
    by_cases hp : f p.2 = true
    · rw [if_pos hp] at h
      exact kW_lt (E := r) (j := j) (by omega) (by simpa using hq)
    · rw [if_neg hp] at h; omega
theorem kW_at {f : Int → Bool} : ∀ {E : List (Int × Int)} {q : Int × Int}, E[kW f E]? = some q → f q.2 = false
  | [], q, hq => by simp [kW] at hq
  | p :: r, q, hq => by
    rw [kW_cons] at hq
    by_cases hp : f p.2 = true
    · rw [if_pos hp, List.getElem?_cons_succ] at hq
      exact kW_at hq
    · rw [if_neg hp] at hq
      simp at hq
      subst hq
      simpa using hp
theorem insW_kW (f : Int → Bool) (E : List (Int × Int)) (q : Int × Int) : insW f E q = E.take (kW f E) ++ q :: E.drop (kW f E) := rfl

def WoPost (w : World) (E : List (Int × Int)) (id : Int) (e : Ending) (w' : World) : Prop :=
  ∃ (u : Value) (a : Int), e = .returned (.tuple #[u, .int .i64 a]) ∧ OwnP 88 w' u (rmQ E id) ∧ (∀ b, u.ownBlock = some b → w.heap.size ≤ b) ∧ (a < 0 ↔ id ∉ E.map Prod.fst) ∧ Below w.heap.size w w'

set_option maxRecDepth 100000 in
set_option maxHeartbeats 2000000 in
theorem without_any (v : Value) (L : List (Int × Int)) (id : Int) (w : World) (h : OwnP 88 w v L) (hl : L.length ≤ 900) :
    Calls Tryz.prog 86 #[v, .int .i64 id] w (WoPost w L id) := by
  obtain ⟨n, hn⟩ : ∃ n, L.length = n := ⟨_, rfl⟩
  obtain ⟨sa, sc, hsl⟩ := h.sl
  rw [hn] at hsl hl
  subst hsl
  have HN := Lib.hid hn
  have H := Lib.hid h
  clear h hn
  go_enter Tryz.func86, Tryz.ntmps86
  go_wp2_with fail
  go_loopw [6, 7, 8] (fun s5 s7 s6 wr => ∃ (j : Nat) (a : Int), j ≤ n ∧ s6 = .int .i64 j ∧ s7 = .int .i64 a ∧ (a < 0 ↔ id ∉ (L.take j).map Prod.fst) ∧ OwnP 88 wr s5 (rmQ (L.take j) id) ∧ (∀ b, s5.ownBlock = some b → w.heap.size ≤ b) ∧ Below w.heap.size w wr) (fun _ _ i _ => n - (intOf i).toNat)
  case atStart => exact ⟨0, -1, by omega, rfl, rfl, by simp, by simpa [rmQ] using OwnP.nil 88 w, fun b hb => by simp [Value.ownBlock] at hb, Below.refl _ _⟩
  case round =>
    obtain ⟨j, a, hj, rfl, rfl, ha, ho, hf, hb⟩ := hrel
    have HA := Lib.hid ha
    have HO := Lib.hid ho
    have HF := Lib.hid hf
    have HB := Lib.hid hb
    clear ho hf hb ha
    by_cases hjn : j < n
    · obtain ⟨q, hq⟩ : ∃ q, L[j]? = some q := ⟨_, List.getElem?_eq_getElem (by have := HN.out; omega)⟩
      obtain ⟨g, c, hv, hgl, c0, c1⟩ := (H.out.below HB.out).at hq
      injection hv with e1 e2 e3
      subst e1 e3
      have htk : rmQ (L.take (j + 1)) id = rmQ (L.take j) id ++ (if q.1 = id then [] else [q]) := by
        unfold rmQ
        rw [List.take_add_one, hq, List.filter_append]
        by_cases hq1 : q.1 = id <;> simp [hq1]
      have hid2 : id ∈ (L.take (j + 1)).map Prod.fst ↔ id ∈ (L.take j).map Prod.fst ∨ id = q.1 := by
        rw [List.take_add_one, hq]
        simp
      have HID2 := Lib.hid hid2
      have HTK := Lib.hid htk
      clear hq e2 htk hid2
      by_cases hqi : q.1 = id
      · have hqb : (q.1 == id) = true := by simp [hqi]
        have HO2 : Hid (OwnP 88 wr u6 (rmQ (L.take (j + 1)) id)) := by
          unfold Hid
          rw [HTK.out, if_pos hqi, List.append_nil]
          exact HO.out
        have HA2 : Hid ((j : Int) < 0 ↔ id ∉ (L.take (j + 1)).map Prod.fst) := by
          unfold Hid
          rw [HID2.out]
          constructor
          · intro h; omega
          · intro h; exact absurd (.inr hqi.symm) h
        clear hqi
        go_wp2_with fail
        go_roundw
        case rel => exact ⟨j + 1, j, by omega, by go_num, rfl, HA2.out, HO2.out, HF.out, HB.out⟩
        case measure => simp [intOf]; omega
      · have hqb : (q.1 == id) = false := by simpa using hqi
        obtain ⟨v', w2, hrun, ho2, hf2, hb2⟩ := app_one88 q HO.out HF.out HB.out (by have := List.length_filter_le (fun q : Int × Int => q.1 != id) (L.take j); rw [List.length_take] at this; unfold rmQ; omega)
        have HO2 : Hid (OwnP 88 w2 v' (rmQ (L.take (j + 1)) id)) := by
          unfold Hid
          rw [HTK.out, if_neg hqi]
          exact ho2
        have HA2 : Hid (a < 0 ↔ id ∉ (L.take (j + 1)).map Prod.fst) := by
          unfold Hid
          rw [HID2.out, HA.out]
          simp [Ne.symm hqi]
        have HF2 := Lib.hid hf2
        have HB2 := Lib.hid hb2
        clear ho2 hf2 hb2
        go_wp2_with (first | (at_builtin; refine Lib.wpList_append_run _ rfl (.tmp 23) (.tmp 28) 45 45 rfl _ _ rfl rfl _ _ hrun ?_))
        go_roundw
        case rel => exact ⟨j + 1, a, by omega, by go_num, rfl, HA2.out, HO2.out, HF2.out, HB2.out⟩
        case measure => simp [intOf]; omega
    · obtain rfl : j = n := by omega
      have HO2 : Hid (OwnP 88 wr u6 (rmQ L id) ∧ (a < 0 ↔ id ∉ L.map Prod.fst)) := by
        have h1 := HO.out
        have h2 := HA.out
        rw [List.take_of_length_le (by have := HN.out; omega)] at h1 h2
        exact ⟨h1, h2⟩
      go_wp2_with fail
      go_ret2
      exact ⟨_, a, rfl, HO2.out.1, HF.out, HO2.out.2, HB.out⟩

set_option maxRecDepth 100000 in
set_option maxHeartbeats 4000000 in
theorem behind_any (v : Value) (L : List (Int × Int)) (id pr : Int) (w : World) (h : OwnP 88 w v L) (hl : L.length ≤ 100) :
    Calls Tryz.prog 42 #[v, .int .i64 id, .int .i64 pr] w (NewE w (insW (fun y => decide (pr ≤ y)) (rmQ L id) (id, pr))) := by
  have HC := Lib.hid (without_any v L id w h (by omega))
  have hl2 := rmQ_length L id
  obtain ⟨E, hE⟩ : ∃ E, rmQ L id = E := ⟨_, rfl⟩
  rw [hE] at hl2 ⊢
  have HE := Lib.hid hE
  clear h hE
  go_enter Tryz.func42, Tryz.ntmps42
  go_wp2_with fail
  refine HC.out.mono ?_
  rintro e w1 ⟨u, at0, rfl, ho, hf, -, hb⟩
  rw [HE.out] at ho
  obtain ⟨n, hn⟩ : ∃ n, E.length = n := ⟨_, rfl⟩
  obtain ⟨sa, sc, hsl⟩ := ho.sl
  rw [hn] at hsl hl2
  subst hsl
  obtain ⟨k0, hk0⟩ : ∃ k0, kW (fun y => decide (pr ≤ y)) E = k0 := ⟨_, rfl⟩
  have hk0l : k0 ≤ n := by rw [← hk0, ← hn]; exact kW_le _ _
  have HK0 := Lib.hid hk0
  have HN := Lib.hid hn
  have HO := Lib.hid ho
  have HF := Lib.hid hf
  have HB := Lib.hid hb
  clear ho hf hb hk0 hn HC
  go_wp2_with fail
  go_loop [7] (fun s7 => ∃ i : Nat, i ≤ k0 ∧ s7 = .int .i64 i) (fun i => n - (intOf i).toNat)
  case atStart => exact ⟨0, by omega, rfl⟩
  case round =>
    obtain ⟨i, hii, rfl⟩ := hrel
    by_cases hik : i < k0
    · have hid : i < n := by omega
      have hidb : decide ((i : Int) < (n : Int)) = true := by simp; omega
      obtain ⟨p, hp⟩ : ∃ p, E[i]? = some p := ⟨_, List.getElem?_eq_getElem (by have := HN.out; omega)⟩
      have hple0 := kW_lt (by rw [HK0.out]; exact hik) hp
      have hple : pr ≤ p.2 := by simpa using hple0
      have hpb : decide (pr ≤ p.2) = true := by simpa using hple
      obtain ⟨g', c', hv', hgl', d0, d1⟩ := HO.out.at hp
      injection hv' with e1 e2 e3
      subst e1 e3
      clear hp e2 hple0
      go_wp2_with fail
      go_round
      case rel => exact ⟨i + 1, by omega, by go_num⟩
      case measure => simp [intOf]; omega
    · obtain rfl : i = k0 := by omega
      rcases HO.out.shape with ⟨hnil, hE0⟩ | ⟨g, c, cur, hcons, hrow, hcs, hnc, hcm, hcells⟩
      · injection hnil with e1 e2 e3
        subst e1 e3
        have hn0 : n = 0 := by have := HN.out; rw [hE0] at this; simpa using this.symm
        have hi0 : i = 0 := by omega
        subst hn0 hi0
        have HE0 := Lib.hid hE0
        have hidb : decide ((0 : Int) < ((0 : Nat) : Int)) = false := by simp
        clear e2 hE0 hik hii hk0l
        have hb0 : ∀ o, Below w1.heap.size w1 (w1.alloc o) := fun o => (Below.refl _ _).alloc (Nat.le_refl _) o
        obtain ⟨v2, w2, hrun, ho2, hg2, hf2⟩ := own_appendP (t := 45) (ty := 45) Tryz.underlying45 info88 (own_nil88 (heap_alloc_new w1 (.cells #[] 88))) (reads_nil _ 0) (by simp)
        have HO2 := Lib.hid ho2
        have HB2 : Hid (Below w1.heap.size w1 w2) := (hb0 _).grown hg2 (by simp) (fun k hk => by simp [Value.ownBlock] at hk; omega)
        have HF2 : Hid (∀ b, v2.ownBlock = some b → w1.heap.size ≤ b) := fun b hb => by
          rcases hf2 b hb with h5 | h5
          · simp [Value.ownBlock] at h5; omega
          · simp at h5; omega
        clear ho2 hg2 hf2
        go_wp2_with (first | (at_builtin; refine Lib.wpList_append_run _ rfl (.tmp 30) (.tmp 33) 45 45 rfl _ _ rfl rfl _ _ hrun ?_))
        go_region_held_law (fun W => True) (trivial)
          (first
            | (refine step_app88 (B := w1.heap.size) (w0 := w1) rfl (.tmp 35) (.tmp 39) rfl (v := v2) (u := .slice (some ⟨w2.heap.size, 0, none⟩) 1 1) (xs := [] ++ []) (ys := [(id, pr)]) (by simp [Act.eval, Act.put]) (by simp [Act.eval, Act.put]) (HO2.out.alloc _) (one_reads88 (q := (id, pr)) (heap_alloc_new _ _)) (by simp) HF2.out (((HB2.out.trans ((Below.refl _ _).mono HB2.out.size)).drew).alloc (by have := HB2.out.size; simpa using this) _) (by have := HB2.out.size; simp; omega) ?_; intro v5 w5 ho5 hf5 hb5 hg5)
            | (refine step_app88 (B := w1.heap.size) (w0 := w1) rfl (.tmp 40) (.tmp 43) rfl (v := v5) (u := .slice none 0 0) (xs := ([] ++ []) ++ [(id, pr)]) (ys := []) (by simp [Act.eval, Act.put]) (by simp [Act.eval, Act.put]) ho5 (reads_nil _ 0) (by simp) hf5 hb5 hb5.size ?_; intro v6 w6 ho6 hf6 hb6 hg6))
        have HP : Hid (NewE w (insW (fun y => decide (pr ≤ y)) E (id, pr)) (.returned v6) w6) := by
          refine ⟨v6, rfl, ?_, fun b hb => Nat.le_trans HB.out.size (hf6 b hb), HB.out.trans (hb6.mono HB.out.size)⟩
          rw [insW_kW, HK0.out, HE0.out]
          simpa using ho6
        clear ho5 hf5 hb5 hg5 ho6 hf6 hb6 hg6
        go_wp2
        exact bodyPost_ret (v := v6) (by simp [results, Tryz.results42, go_sem]) rfl HP.out
      · injection hcons with e1 e2 e3
        subst e1 e3
        have hnc' : n ≤ sc := by have := HN.out; omega
        have hic : i ≤ sc := by omega
        have hcmx : sc ≤ 9223372036854775807 := by unfold maxLen at hcm; exact hcm
        have hgl : g < w1.heap.size := (Array.getElem?_eq_some_iff.1 hrow).1
        obtain ⟨A0, hA0, hA1⟩ : ∃ A0 : Addr, (if sc = i then some ⟨g, 0, none⟩ else some ⟨g, i * 2, none⟩ : Option Addr) = some A0 ∧ (A0 = ⟨g, i * 2, none⟩ ∨ E.drop i = []) := by
          by_cases hdi : sc = i
          · exact ⟨⟨g, 0, none⟩, if_pos hdi, .inr (List.drop_of_length_le (by have := HN.out; omega))⟩
          · exact ⟨⟨g, i * 2, none⟩, if_neg hdi, .inl rfl⟩
        have HR1 : Hid (∀ W, Below w1.heap.size w1 W → ReadsP W (.slice (some ⟨g, 0, none⟩) i sc) (E.take i)) := fun W hW => reads_of_own (i := 0) HO.out hW (.inl rfl) (by rw [List.length_take]; have := HN.out; omega) (fun t u hu => by rw [← pv_take] at hu; have ht := (List.getElem?_eq_some_iff.1 hu).1; rw [List.length_take] at ht; rw [List.getElem?_take, if_pos (by omega)] at hu; simpa using hu)
        have HR2 : Hid (∀ W, Below w1.heap.size w1 W → ReadsP W (.slice (some A0) (n - i) (sc - i)) (E.drop i)) := fun W hW => reads_of_own (i := i) HO.out hW hA1 (by rw [List.length_drop, HN.out]) (fun t u hu => by rw [← pv_drop, List.getElem?_drop] at hu; exact hu)
        have hb0 : ∀ o, Below w1.heap.size w1 (w1.alloc o) := fun o => (Below.refl _ _).alloc (Nat.le_refl _) o
        obtain ⟨v2, w2, hrun, ho2, hg2, hf2⟩ := own_appendP (t := 45) (ty := 45) Tryz.underlying45 info88 (own_nil88 (heap_alloc_new w1 (.cells #[] 88))) (HR1.out _ (hb0 _)) (by rw [List.length_take]; simp; omega)
        have HO2 := Lib.hid ho2
        have HB2 : Hid (Below w1.heap.size w1 w2) := (hb0 _).grown hg2 (by simp) (fun k hk => by simp [Value.ownBlock] at hk; omega)
        have HF2 : Hid (∀ b, v2.ownBlock = some b → w1.heap.size ≤ b) := fun b hb => by
          rcases hf2 b hb with h5 | h5
          · simp [Value.ownBlock] at h5; omega
          · simp at h5; omega
        have HTL : Hid ((E.take i).length ≤ 200) := by unfold Hid; rw [List.length_take]; omega
        have HTL2 : Hid ((E.drop i).length ≤ 200) := by unfold Hid; rw [List.length_drop]; have := HN.out; omega
        have HA1 := Lib.hid hA1
        have HROW := Lib.hid hrow
        have HCELLS := Lib.hid hcells
        have HCS := Lib.hid hcs
        clear ho2 hg2 hf2 hA1 hrow hcells hcs e2
        by_cases hid : i < n
        · have hidb : decide ((i : Int) < (n : Int)) = true := by simp; omega
          obtain ⟨p, hp⟩ : ∃ p, E[i]? = some p := ⟨_, List.getElem?_eq_getElem (by have := HN.out; omega)⟩
          have hple0 := kW_at (by rw [HK0.out]; exact hp)
          have hple : ¬ (pr ≤ p.2) := by simpa using hple0
          have hpb : decide (pr ≤ p.2) = false := by simpa using hple
          obtain ⟨g', c', hv', hgl', d0, d1⟩ := HO.out.at hp
          injection hv' with e1 e2 e3
          injection e1 with e1
          injection e1 with e1
          subst e1 e3
          clear hp e2 hple0
          go_wp2_with (first | (at_builtin; refine Lib.wpList_append_run _ rfl (.tmp 30) (.tmp 33) 45 45 rfl _ _ rfl rfl _ _ hrun ?_))
          go_region_held_law (fun W => True) (trivial)
            (first
              | (refine step_app88 (B := w1.heap.size) (w0 := w1) rfl (.tmp 35) (.tmp 39) rfl (v := v2) (u := .slice (some ⟨w2.heap.size, 0, none⟩) 1 1) (xs := [] ++ E.take i) (ys := [(id, pr)]) (by simp [Act.eval, Act.put]) (by simp [Act.eval, Act.put]) (HO2.out.alloc _) (one_reads88 (q := (id, pr)) (heap_alloc_new _ _)) (by have := HTL.out; simp only [List.nil_append, List.length_cons, List.length_nil]; omega) HF2.out (((HB2.out.trans ((Below.refl _ _).mono HB2.out.size)).drew).alloc (by have := HB2.out.size; simpa using this) _) (by have := HB2.out.size; simp; omega) ?_; intro v5 w5 ho5 hf5 hb5 hg5)
              | (refine step_app88 (B := w1.heap.size) (w0 := w1) rfl (.tmp 40) (.tmp 43) rfl (v := v5) (u := .slice (some A0) (n - i) (sc - i)) (xs := ([] ++ E.take i) ++ [(id, pr)]) (ys := E.drop i) (by simp [Act.eval, Act.put]) (by simp [Act.eval, Act.put]) ho5 (HR2.out _ hb5) (by have := HTL.out; have := HTL2.out; simp only [List.length_append, List.length_nil, List.length_cons]; omega) hf5 hb5 hb5.size ?_; intro v6 w6 ho6 hf6 hb6 hg6))
          have HP : Hid (NewE w (insW (fun y => decide (pr ≤ y)) E (id, pr)) (.returned v6) w6) := by
            refine ⟨v6, rfl, ?_, fun b hb => Nat.le_trans HB.out.size (hf6 b hb), HB.out.trans (hb6.mono HB.out.size)⟩
            rw [insW_kW, HK0.out]
            simpa using ho6
          clear ho5 hf5 hb5 hg5 ho6 hf6 hb6 hg6
          go_wp2
          exact bodyPost_ret (v := v6) (by simp [results, Tryz.results42, go_sem]) rfl HP.out
        · have hni : i = n := by omega
          subst hni
          have hidb : decide ((i : Int) < (i : Int)) = false := by simp
          go_wp2_with (first | (at_builtin; refine Lib.wpList_append_run _ rfl (.tmp 30) (.tmp 33) 45 45 rfl _ _ rfl rfl _ _ hrun ?_))
          go_region_held_law (fun W => True) (trivial)
            (first
              | (refine step_app88 (B := w1.heap.size) (w0 := w1) rfl (.tmp 35) (.tmp 39) rfl (v := v2) (u := .slice (some ⟨w2.heap.size, 0, none⟩) 1 1) (xs := [] ++ E.take i) (ys := [(id, pr)]) (by simp [Act.eval, Act.put]) (by simp [Act.eval, Act.put]) (HO2.out.alloc _) (one_reads88 (q := (id, pr)) (heap_alloc_new _ _)) (by have := HTL.out; simp only [List.nil_append, List.length_cons, List.length_nil]; omega) HF2.out (((HB2.out.trans ((Below.refl _ _).mono HB2.out.size)).drew).alloc (by have := HB2.out.size; simpa using this) _) (by have := HB2.out.size; simp; omega) ?_; intro v5 w5 ho5 hf5 hb5 hg5)
              | (refine step_app88 (B := w1.heap.size) (w0 := w1) rfl (.tmp 40) (.tmp 43) rfl (v := v5) (u := .slice (some A0) (i - i) (sc - i)) (xs := ([] ++ E.take i) ++ [(id, pr)]) (ys := E.drop i) (by simp [Act.eval, Act.put]) (by simp [Act.eval, Act.put]) ho5 (HR2.out _ hb5) (by have := HTL.out; have := HTL2.out; simp only [List.length_append, List.length_nil, List.length_cons]; omega) hf5 hb5 hb5.size ?_; intro v6 w6 ho6 hf6 hb6 hg6))
          have HP : Hid (NewE w (insW (fun y => decide (pr ≤ y)) E (id, pr)) (.returned v6) w6) := by
            refine ⟨v6, rfl, ?_, fun b hb => Nat.le_trans HB.out.size (hf6 b hb), HB.out.trans (hb6.mono HB.out.size)⟩
            rw [insW_kW, HK0.out]
            simpa using ho6
          clear ho5 hf5 hb5 hg5 ho6 hf6 hb6 hg6
          go_wp2
          exact bodyPost_ret (v := v6) (by simp [results, Tryz.results42, go_sem]) rfl HP.out

set_option maxRecDepth 100000 in
set_option maxHeartbeats 4000000 in
theorem ahead_any (v : Value) (L : List (Int × Int)) (id pr : Int) (w : World) (h : OwnP 88 w v L) (hl : L.length ≤ 100) :
    Calls Tryz.prog 85 #[v, .int .i64 id, .int .i64 pr] w (NewE w (insW (fun y => decide (pr < y)) (rmQ L id) (id, pr))) := by
  have HC := Lib.hid (without_any v L id w h (by omega))
  have hl2 := rmQ_length L id
  obtain ⟨E, hE⟩ : ∃ E, rmQ L id = E := ⟨_, rfl⟩
  rw [hE] at hl2 ⊢
  have HE := Lib.hid hE
  clear h hE
  go_enter Tryz.func85, Tryz.ntmps85
  go_wp2_with fail
  refine HC.out.mono ?_
  rintro e w1 ⟨u, at0, rfl, ho, hf, -, hb⟩
  rw [HE.out] at ho
  obtain ⟨n, hn⟩ : ∃ n, E.length = n := ⟨_, rfl⟩
  obtain ⟨sa, sc, hsl⟩ := ho.sl
  rw [hn] at hsl hl2
  subst hsl
  obtain ⟨k0, hk0⟩ : ∃ k0, kW (fun y => decide (pr < y)) E = k0 := ⟨_, rfl⟩
  have hk0l : k0 ≤ n := by rw [← hk0, ← hn]; exact kW_le _ _
  have HK0 := Lib.hid hk0
  have HN := Lib.hid hn
  have HO := Lib.hid ho
  have HF := Lib.hid hf
  have HB := Lib.hid hb
  clear ho hf hb hk0 hn HC
  go_wp2_with fail
  go_loop [7] (fun s7 => ∃ i : Nat, i ≤ k0 ∧ s7 = .int .i64 i) (fun i => n - (intOf i).toNat)
  case atStart => exact ⟨0, by omega, rfl⟩
  case round =>
    obtain ⟨i, hii, rfl⟩ := hrel
    by_cases hik : i < k0
    · have hid : i < n := by omega
      have hidb : decide ((i : Int) < (n : Int)) = true := by simp; omega
      obtain ⟨p, hp⟩ : ∃ p, E[i]? = some p := ⟨_, List.getElem?_eq_getElem (by have := HN.out; omega)⟩
      have hple0 := kW_lt (by rw [HK0.out]; exact hik) hp
      have hple : pr < p.2 := by simpa using hple0
      have hpb : decide (pr < p.2) = true := by simpa using hple
      obtain ⟨g', c', hv', hgl', d0, d1⟩ := HO.out.at hp
      injection hv' with e1 e2 e3
      subst e1 e3
      clear hp e2 hple0
      go_wp2_with fail
      go_round
      case rel => exact ⟨i + 1, by omega, by go_num⟩
      case measure => simp [intOf]; omega
    · obtain rfl : i = k0 := by omega
      rcases HO.out.shape with ⟨hnil, hE0⟩ | ⟨g, c, cur, hcons, hrow, hcs, hnc, hcm, hcells⟩
      · injection hnil with e1 e2 e3
        subst e1 e3
        have hn0 : n = 0 := by have := HN.out; rw [hE0] at this; simpa using this.symm
        have hi0 : i = 0 := by omega
        subst hn0 hi0
        have HE0 := Lib.hid hE0
        have hidb : decide ((0 : Int) < ((0 : Nat) : Int)) = false := by simp
        clear e2 hE0 hik hii hk0l
        have hb0 : ∀ o, Below w1.heap.size w1 (w1.alloc o) := fun o => (Below.refl _ _).alloc (Nat.le_refl _) o
        obtain ⟨v2, w2, hrun, ho2, hg2, hf2⟩ := own_appendP (t := 45) (ty := 45) Tryz.underlying45 info88 (own_nil88 (heap_alloc_new w1 (.cells #[] 88))) (reads_nil _ 0) (by simp)
        have HO2 := Lib.hid ho2
        have HB2 : Hid (Below w1.heap.size w1 w2) := (hb0 _).grown hg2 (by simp) (fun k hk => by simp [Value.ownBlock] at hk; omega)
        have HF2 : Hid (∀ b, v2.ownBlock = some b → w1.heap.size ≤ b) := fun b hb => by
          rcases hf2 b hb with h5 | h5
          · simp [Value.ownBlock] at h5; omega
          · simp at h5; omega
        clear ho2 hg2 hf2
        go_wp2_with (first | (at_builtin; refine Lib.wpList_append_run _ rfl (.tmp 30) (.tmp 33) 45 45 rfl _ _ rfl rfl _ _ hrun ?_))
        go_region_held_law (fun W => True) (trivial)
          (first
            | (refine step_app88 (B := w1.heap.size) (w0 := w1) rfl (.tmp 35) (.tmp 39) rfl (v := v2) (u := .slice (some ⟨w2.heap.size, 0, none⟩) 1 1) (xs := [] ++ []) (ys := [(id, pr)]) (by simp [Act.eval, Act.put]) (by simp [Act.eval, Act.put]) (HO2.out.alloc _) (one_reads88 (q := (id, pr)) (heap_alloc_new _ _)) (by simp) HF2.out (((HB2.out.trans ((Below.refl _ _).mono HB2.out.size)).drew).alloc (by have := HB2.out.size; simpa using this) _) (by have := HB2.out.size; simp; omega) ?_; intro v5 w5 ho5 hf5 hb5 hg5)
            | (refine step_app88 (B := w1.heap.size) (w0 := w1) rfl (.tmp 40) (.tmp 43) rfl (v := v5) (u := .slice none 0 0) (xs := ([] ++ []) ++ [(id, pr)]) (ys := []) (by simp [Act.eval, Act.put]) (by simp [Act.eval, Act.put]) ho5 (reads_nil _ 0) (by simp) hf5 hb5 hb5.size ?_; intro v6 w6 ho6 hf6 hb6 hg6))
        have HP : Hid (NewE w (insW (fun y => decide (pr < y)) E (id, pr)) (.returned v6) w6) := by
          refine ⟨v6, rfl, ?_, fun b hb => Nat.le_trans HB.out.size (hf6 b hb), HB.out.trans (hb6.mono HB.out.size)⟩
          rw [insW_kW, HK0.out, HE0.out]
          simpa using ho6
        clear ho5 hf5 hb5 hg5 ho6 hf6 hb6 hg6
        go_wp2
        exact bodyPost_ret (v := v6) (by simp [results, Tryz.results85, go_sem]) rfl HP.out
      · injection hcons with e1 e2 e3
        subst e1 e3
        have hnc' : n ≤ sc := by have := HN.out; omega
        have hic : i ≤ sc := by omega
        have hcmx : sc ≤ 9223372036854775807 := by unfold maxLen at hcm; exact hcm
        have hgl : g < w1.heap.size := (Array.getElem?_eq_some_iff.1 hrow).1
        obtain ⟨A0, hA0, hA1⟩ : ∃ A0 : Addr, (if sc = i then some ⟨g, 0, none⟩ else some ⟨g, i * 2, none⟩ : Option Addr) = some A0 ∧ (A0 = ⟨g, i * 2, none⟩ ∨ E.drop i = []) := by
          by_cases hdi : sc = i
          · exact ⟨⟨g, 0, none⟩, if_pos hdi, .inr (List.drop_of_length_le (by have := HN.out; omega))⟩
          · exact ⟨⟨g, i * 2, none⟩, if_neg hdi, .inl rfl⟩
        have HR1 : Hid (∀ W, Below w1.heap.size w1 W → ReadsP W (.slice (some ⟨g, 0, none⟩) i sc) (E.take i)) := fun W hW => reads_of_own (i := 0) HO.out hW (.inl rfl) (by rw [List.length_take]; have := HN.out; omega) (fun t u hu => by rw [← pv_take] at hu; have ht := (List.getElem?_eq_some_iff.1 hu).1; rw [List.length_take] at ht; rw [List.getElem?_take, if_pos (by omega)] at hu; simpa using hu)
        have HR2 : Hid (∀ W, Below w1.heap.size w1 W → ReadsP W (.slice (some A0) (n - i) (sc - i)) (E.drop i)) := fun W hW => reads_of_own (i := i) HO.out hW hA1 (by rw [List.length_drop, HN.out]) (fun t u hu => by rw [← pv_drop, List.getElem?_drop] at hu; exact hu)
        have hb0 : ∀ o, Below w1.heap.size w1 (w1.alloc o) := fun o => (Below.refl _ _).alloc (Nat.le_refl _) o
        obtain ⟨v2, w2, hrun, ho2, hg2, hf2⟩ := own_appendP (t := 45) (ty := 45) Tryz.underlying45 info88 (own_nil88 (heap_alloc_new w1 (.cells #[] 88))) (HR1.out _ (hb0 _)) (by rw [List.length_take]; simp; omega)
        have HO2 := Lib.hid ho2
        have HB2 : Hid (Below w1.heap.size w1 w2) := (hb0 _).grown hg2 (by simp) (fun k hk => by simp [Value.ownBlock] at hk; omega)
        have HF2 : Hid (∀ b, v2.ownBlock = some b → w1.heap.size ≤ b) := fun b hb => by
          rcases hf2 b hb with h5 | h5
          · simp [Value.ownBlock] at h5; omega
          · simp at h5; omega
        have HTL : Hid ((E.take i).length ≤ 200) := by unfold Hid; rw [List.length_take]; omega
        have HTL2 : Hid ((E.drop i).length ≤ 200) := by unfold Hid; rw [List.length_drop]; have := HN.out; omega
        have HA1 := Lib.hid hA1
        have HROW := Lib.hid hrow
        have HCELLS := Lib.hid hcells
        have HCS := Lib.hid hcs
        clear ho2 hg2 hf2 hA1 hrow hcells hcs e2
        by_cases hid : i < n
        · have hidb : decide ((i : Int) < (n : Int)) = true := by simp; omega
          obtain ⟨p, hp⟩ : ∃ p, E[i]? = some p := ⟨_, List.getElem?_eq_getElem (by have := HN.out; omega)⟩
          have hple0 := kW_at (by rw [HK0.out]; exact hp)
          have hple : ¬ (pr < p.2) := by simpa using hple0
          have hpb : decide (pr < p.2) = false := by simpa using hple
          obtain ⟨g', c', hv', hgl', d0, d1⟩ := HO.out.at hp
          injection hv' with e1 e2 e3
          injection e1 with e1
          injection e1 with e1
          subst e1 e3
          clear hp e2 hple0
          go_wp2_with (first | (at_builtin; refine Lib.wpList_append_run _ rfl (.tmp 30) (.tmp 33) 45 45 rfl _ _ rfl rfl _ _ hrun ?_))
          go_region_held_law (fun W => True) (trivial)
            (first
              | (refine step_app88 (B := w1.heap.size) (w0 := w1) rfl (.tmp 35) (.tmp 39) rfl (v := v2) (u := .slice (some ⟨w2.heap.size, 0, none⟩) 1 1) (xs := [] ++ E.take i) (ys := [(id, pr)]) (by simp [Act.eval, Act.put]) (by simp [Act.eval, Act.put]) (HO2.out.alloc _) (one_reads88 (q := (id, pr)) (heap_alloc_new _ _)) (by have := HTL.out; simp only [List.nil_append, List.length_cons, List.length_nil]; omega) HF2.out (((HB2.out.trans ((Below.refl _ _).mono HB2.out.size)).drew).alloc (by have := HB2.out.size; simpa using this) _) (by have := HB2.out.size; simp; omega) ?_; intro v5 w5 ho5 hf5 hb5 hg5)
              | (refine step_app88 (B := w1.heap.size) (w0 := w1) rfl (.tmp 40) (.tmp 43) rfl (v := v5) (u := .slice (some A0) (n - i) (sc - i)) (xs := ([] ++ E.take i) ++ [(id, pr)]) (ys := E.drop i) (by simp [Act.eval, Act.put]) (by simp [Act.eval, Act.put]) ho5 (HR2.out _ hb5) (by have := HTL.out; have := HTL2.out; simp only [List.length_append, List.length_nil, List.length_cons]; omega) hf5 hb5 hb5.size ?_; intro v6 w6 ho6 hf6 hb6 hg6))
          have HP : Hid (NewE w (insW (fun y => decide (pr < y)) E (id, pr)) (.returned v6) w6) := by
            refine ⟨v6, rfl, ?_, fun b hb => Nat.le_trans HB.out.size (hf6 b hb), HB.out.trans (hb6.mono HB.out.size)⟩
            rw [insW_kW, HK0.out]
            simpa using ho6
          clear ho5 hf5 hb5 hg5 ho6 hf6 hb6 hg6
          go_wp2
          exact bodyPost_ret (v := v6) (by simp [results, Tryz.results85, go_sem]) rfl HP.out
        · have hni : i = n := by omega
          subst hni
          have hidb : decide ((i : Int) < (i : Int)) = false := by simp
          go_wp2_with (first | (at_builtin; refine Lib.wpList_append_run _ rfl (.tmp 30) (.tmp 33) 45 45 rfl _ _ rfl rfl _ _ hrun ?_))
          go_region_held_law (fun W => True) (trivial)
            (first
              | (refine step_app88 (B := w1.heap.size) (w0 := w1) rfl (.tmp 35) (.tmp 39) rfl (v := v2) (u := .slice (some ⟨w2.heap.size, 0, none⟩) 1 1) (xs := [] ++ E.take i) (ys := [(id, pr)]) (by simp [Act.eval, Act.put]) (by simp [Act.eval, Act.put]) (HO2.out.alloc _) (one_reads88 (q := (id, pr)) (heap_alloc_new _ _)) (by have := HTL.out; simp only [List.nil_append, List.length_cons, List.length_nil]; omega) HF2.out (((HB2.out.trans ((Below.refl _ _).mono HB2.out.size)).drew).alloc (by have := HB2.out.size; simpa using this) _) (by have := HB2.out.size; simp; omega) ?_; intro v5 w5 ho5 hf5 hb5 hg5)
              | (refine step_app88 (B := w1.heap.size) (w0 := w1) rfl (.tmp 40) (.tmp 43) rfl (v := v5) (u := .slice (some A0) (i - i) (sc - i)) (xs := ([] ++ E.take i) ++ [(id, pr)]) (ys := E.drop i) (by simp [Act.eval, Act.put]) (by simp [Act.eval, Act.put]) ho5 (HR2.out _ hb5) (by have := HTL.out; have := HTL2.out; simp only [List.length_append, List.length_nil, List.length_cons]; omega) hf5 hb5 hb5.size ?_; intro v6 w6 ho6 hf6 hb6 hg6))
          have HP : Hid (NewE w (insW (fun y => decide (pr < y)) E (id, pr)) (.returned v6) w6) := by
            refine ⟨v6, rfl, ?_, fun b hb => Nat.le_trans HB.out.size (hf6 b hb), HB.out.trans (hb6.mono HB.out.size)⟩
            rw [insW_kW, HK0.out]
            simpa using ho6
          clear ho5 hf5 hb5 hg5 ho6 hf6 hb6 hg6
          go_wp2
          exact bodyPost_ret (v := v6) (by simp [results, Tryz.results85, go_sem]) rfl HP.out

set_option maxRecDepth 100000 in
set_option maxHeartbeats 2000000 in
theorem ids_any (v : Value) (L : List (Int × Int)) (w : World) (h : OwnP 88 w v L) (hl : L.length ≤ 900) :
    Calls Tryz.prog 23 #[v] w (AllPost w (L.map Prod.fst)) := by
  obtain ⟨n, hn⟩ : ∃ n, L.length = n := ⟨_, rfl⟩
  obtain ⟨sa, sc, hsl⟩ := h.sl
  rw [hn] at hsl hl
  subst hsl
  have HN := Lib.hid hn
  have H := Lib.hid h
  clear h hn
  go_enter Tryz.func23, Tryz.ntmps23
  go_wp2_with fail
  go_loopw [3, 4] (fun s3 s4 wr => ∃ j : Nat, j ≤ n ∧ s4 = .int .i64 j ∧ Own wr s3 ((L.take j).map Prod.fst) ∧ (∀ b, s3.ownBlock = some b → w.heap.size ≤ b) ∧ Below w.heap.size w wr) (fun _ i _ => n - (intOf i).toNat)
  case atStart => exact ⟨0, by omega, rfl, by simpa using Own.nil w, fun b hb => by simp [Value.ownBlock] at hb, Below.refl _ _⟩
  case round =>
    obtain ⟨j, hj, rfl, ho, hf, hb⟩ := hrel
    have HO := Lib.hid ho
    have HF := Lib.hid hf
    have HB := Lib.hid hb
    clear ho hf hb
    by_cases hjn : j < n
    · obtain ⟨q, hq⟩ : ∃ q, L[j]? = some q := ⟨_, List.getElem?_eq_getElem (by have := HN.out; omega)⟩
      obtain ⟨g, c, hv, hgl, c0, c1⟩ := (H.out.below HB.out).at hq
      injection hv with e1 e2 e3
      subst e1 e3
      have htk : (L.take (j + 1)).map Prod.fst = (L.take j).map Prod.fst ++ [q.1] := by rw [List.take_add_one, hq]; simp
      obtain ⟨x1, w5, hrun, ho5, hg5, hf5⟩ := own_append (t := 39) (tx := 39) (ty := 39) Tryz.underlying39 Tryz.underlying39 (xs := (L.take j).map Prod.fst) (v := u3) (w := wr.alloc (.cells #[.int .i64 q.1] 3)) (HO.out.keep (fun b hb => Below.heap_alloc wr _ b (HO.out.lt b hb))) (x := .slice (some ⟨wr.heap.size, 0, none⟩) 1 1) (ys := [q.1]) ⟨_, _, rfl, fun _ => ⟨_, rfl, fun j u hu => by
        match j, hu with
        | 0, hu =>
          simp [iv] at hu
          subst hu
          simp [Addr.add]
        | j + 1, hu => simp [iv] at hu⟩⟩ (by simp; omega)
      rw [← htk] at ho5
      have HO5 := Lib.hid ho5
      have HB5 : Hid (Below w.heap.size w w5) := grown_below (w := w) (HB.out.alloc HB.out.size _) hg5 HF.out
      have HF5 : Hid (∀ b, x1.ownBlock = some b → w.heap.size ≤ b) := fun b hb => by
        rcases hf5 b hb with h5 | h5
        · exact HF.out b h5
        · have := HB.out.size
          simp at h5
          omega
      clear hq e2 htk ho5 hg5 hf5
      go_wp2_with (first | (at_builtin; refine Lib.wpList_append_run _ rfl (.tmp 11) (.tmp 17) 39 39 rfl _ _ rfl rfl _ _ hrun ?_))
      go_roundw
      case rel => exact ⟨j + 1, by omega, by go_num, HO5.out, HF5.out, HB5.out⟩
      case measure => simp [intOf]; omega
    · obtain rfl : j = n := by omega
      have HO2 : Hid (Own wr u3 (L.map Prod.fst)) := by
        have := HO.out
        rw [List.take_of_length_le (by have := HN.out; omega)] at this
        exact this
      go_wp2_with fail
      go_ret
      exact ⟨_, rfl, HO2.out, HF.out, HB.out⟩

end Go.Proofs.YtgnjenmicojgnaaGreat
