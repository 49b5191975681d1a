/-
  The plain law of DispatchWakes: timers in their order, those that are due and those that are left.
  The row of attributes that a statement makes, round by round.
  What DispatchWakes answers of a list of waits and a step: true.
-/
import Derived.Test.YtgnjenmicojgnaaNa
import Derived.Test.YtgnjenmicojgnaaNb
import Derived.Test.YtgnjenmicojgnaaC0
namespace Go.Proofs.Ytgnjenmicojgnaa
set_option linter.unusedVariables false
set_option linter.unusedSimpArgs false
open Go.RowKit

def Srtd (Q : List (Int × Int)) : Prop := Q.Pairwise (fun a b => a.2 ≤ b.2)

theorem insQ_nil (q : Int × Int) : insQ [] q = [q] := rfl
theorem insQ_cons (p : Int × Int) (r : List (Int × Int)) (q : Int × Int) : insQ (p :: r) q = if p.2 ≤ q.2 then p :: insQ r q else q :: p :: r := by
  unfold insQ
  rw [iQ_cons]
  split <;> simp
theorem mem_insQ (Q : List (Int × Int)) (q x : Int × Int) : x ∈ insQ Q q ↔ x = q ∨ x ∈ Q := by
  induction Q with
  | nil => simp [insQ_nil]
  | cons p r ih =>
    rw [insQ_cons]
    split
    · simp only [List.mem_cons, ih]
      constructor
      · rintro (h | h | h)
        · exact .inr (.inl h)
        · exact .inl h
        · exact .inr (.inr h)
      · rintro (h | h | h)
        · exact .inr (.inl h)
        · exact .inl h
        · exact .inr (.inr h)
    · simp only [List.mem_cons]
theorem insQ_srtd {Q : List (Int × Int)} (h : Srtd Q) (q : Int × Int) : Srtd (insQ Q q) := by
  induction Q with
  | nil => exact List.pairwise_singleton _ _
  | cons p r ih =>
    unfold Srtd at h ih ⊢
    rw [List.pairwise_cons] at h
    rw [insQ_cons]
    split
    · rename_i hp
      rw [List.pairwise_cons]
      refine ⟨fun x hx => ?_, ih h.2⟩
      rcases (mem_insQ r q x).1 hx with rfl | hx
      · exact hp
      · exact h.1 x hx
    · rename_i hp
      rw [List.pairwise_cons, List.pairwise_cons]
      refine ⟨fun x hx => ?_, h⟩
      rcases List.mem_cons.1 hx with rfl | hx
      · omega
      · have := h.1 x hx
        omega
theorem insQ_front {Q : List (Int × Int)} {q : Int × Int} (h : ∀ x, x ∈ Q → q.2 < x.2) : insQ Q q = q :: Q := by
  cases Q with
  | nil => rfl
  | cons p r =>
    rw [insQ_cons, if_neg (by have := h p (List.mem_cons_self ..); omega)]
theorem Srtd.front {p q : Int × Int} {r : List (Int × Int)} (h : Srtd (p :: r)) (hq : q.2 < p.2) : ∀ x, x ∈ p :: r → q.2 < x.2 := by
  unfold Srtd at h
  rw [List.pairwise_cons] at h
  intro x hx
  rcases List.mem_cons.1 hx with rfl | hx
  · exact hq
  · have := h.1 x hx
    omega
theorem flt_insQ (f : Int → Bool) {Q : List (Int × Int)} (h : Srtd Q) (q : Int × Int) : (insQ Q q).filter (fun x => f x.2) = if f q.2 = true then insQ (Q.filter (fun x => f x.2)) q else Q.filter (fun x => f x.2) := by
  induction Q with
  | nil =>
    rw [insQ_nil]
    by_cases e : f q.2 = true <;> simp [e, insQ_nil]
  | cons p r ih =>
    have hr : Srtd r := by
      unfold Srtd at h ⊢
      rw [List.pairwise_cons] at h
      exact h.2
    rw [insQ_cons]
    by_cases hp : p.2 ≤ q.2
    · rw [if_pos hp, List.filter_cons, ih hr]
      by_cases e : f q.2 = true
      · rw [if_pos e, if_pos e]
        by_cases e2 : f p.2 = true
        · rw [List.filter_cons]
          simp only [e2, if_true]
          rw [insQ_cons, if_pos hp]
        · rw [List.filter_cons]
          simp only [e2, if_false]
          simp
      · rw [if_neg e, if_neg e, List.filter_cons]
    · rw [if_neg hp]
      by_cases e : f q.2 = true
      · rw [if_pos e, List.filter_cons]
        simp only [e, if_true]
        rw [insQ_front]
        intro x hx
        exact h.front (by omega) x ((List.mem_filter.1 hx).1)
      · rw [if_neg e, List.filter_cons]
        simp only [e]
        simp

theorem fold_srtd (xs : List (Int × Int)) : ∀ {Q : List (Int × Int)}, Srtd Q → Srtd (xs.foldl insQ Q) := by
  induction xs with
  | nil => exact fun h => h
  | cons a r ih => exact fun h => ih (insQ_srtd h a)
theorem srt_srtd (xs : List (Int × Int)) : Srtd (srt xs) := fold_srtd xs List.Pairwise.nil
theorem fold_flt (f : Int → Bool) (xs : List (Int × Int)) : ∀ {Q : List (Int × Int)}, Srtd Q → (xs.foldl insQ Q).filter (fun x => f x.2) = (xs.filter (fun x => f x.2)).foldl insQ (Q.filter (fun x => f x.2)) := by
  induction xs with
  | nil => exact fun h => rfl
  | cons a r ih =>
    intro Q h
    rw [List.foldl_cons, ih (insQ_srtd h a), flt_insQ f h, List.filter_cons]
    by_cases e : f a.2 = true
    · simp only [e, if_true, List.foldl_cons]
    · simp only [e]
      simp
theorem lo_srt (now : Int) (xs : List (Int × Int)) : lo now (srt xs) = srt (lo now xs) := fold_flt (fun a => decide (a ≤ now)) xs List.Pairwise.nil
theorem hi_srt (now : Int) (xs : List (Int × Int)) : hi now (srt xs) = srt (hi now xs) := fold_flt (fun a => decide (now < a)) xs List.Pairwise.nil
theorem mem_fold (x : Int × Int) (xs : List (Int × Int)) : ∀ (Q : List (Int × Int)), x ∈ xs.foldl insQ Q ↔ x ∈ xs ∨ x ∈ Q := by
  induction xs with
  | nil => intro Q; simp
  | cons a r ih =>
    intro Q
    rw [List.foldl_cons, ih, mem_insQ, List.mem_cons]
    constructor
    · rintro (h | h | h)
      · exact .inl (.inr h)
      · exact .inl (.inl h)
      · exact .inr h
    · rintro ((h | h) | h)
      · exact .inr (.inl h)
      · exact .inl h
      · exact .inr (.inr h)
theorem mem_srt (x : Int × Int) (xs : List (Int × Int)) : x ∈ srt xs ↔ x ∈ xs := by
  have := mem_fold x xs []
  simpa [srt] using this

/-- In order: what is due stands in front. -/
theorem take_lo {Q : List (Int × Int)} (h : Srtd Q) (now : Int) : Q.take (iQ Q now) = lo now Q ∧ Q.drop (iQ Q now) = hi now Q := by
  induction Q with
  | nil => exact ⟨rfl, rfl⟩
  | cons p r ih =>
    have h0 := h
    unfold Srtd at h
    rw [List.pairwise_cons] at h
    rw [iQ_cons]
    by_cases hp : p.2 ≤ now
    · obtain ⟨h1, h2⟩ := ih h.2
      rw [if_pos hp, List.take_succ_cons, List.drop_succ_cons, h1, h2]
      unfold lo hi
      rw [List.filter_cons, List.filter_cons]
      constructor
      · simp [hp]
      · rw [if_neg]
        simpa using hp
    · have hall : ∀ x, x ∈ p :: r → now < x.2 := h0.front (q := (0, now)) (by simpa using hp)
      rw [if_neg hp]
      constructor
      · unfold lo
        rw [List.take_zero, eq_comm, List.filter_eq_nil_iff]
        intro x hx
        have := hall x hx
        simpa using this
      · unfold hi
        rw [List.drop_zero, eq_comm, List.filter_eq_self]
        intro x hx
        simpa using hall x hx

theorem due_ids (L : List (Int × Int)) (now : Int) : (srt L).take (iQ (srt L) now) = srt (lo now L) ∧ (srt L).drop (iQ (srt L) now) = srt (hi now L) := by
  obtain ⟨h1, h2⟩ := take_lo (srt_srtd L) now
  exact ⟨h1.trans (lo_srt now L), h2.trans (hi_srt now L)⟩

theorem insQ_nd {Q : List (Int × Int)} {q : Int × Int} (h : (Q.map Prod.fst).Nodup) (hq : q.1 ∉ Q.map Prod.fst) : ((insQ Q q).map Prod.fst).Nodup := by
  induction Q with
  | nil => rw [insQ_nil]; simp
  | cons p r ih =>
    rw [List.map_cons, List.nodup_cons] at h
    rw [List.map_cons, List.mem_cons, not_or] at hq
    rw [insQ_cons]
    split
    · rw [List.map_cons, List.nodup_cons]
      refine ⟨fun hm => ?_, ih h.2 hq.2⟩
      obtain ⟨x, hx, he⟩ := List.mem_map.1 hm
      rcases (mem_insQ r q x).1 hx with rfl | hx
      · exact hq.1 he
      · exact h.1 (by rw [← he]; exact List.mem_map.2 ⟨x, hx, rfl⟩)
    · rw [List.map_cons, List.map_cons, List.nodup_cons, List.nodup_cons, List.mem_cons, not_or]
      exact ⟨hq, h⟩

/-- The first k have been started, and each waits; the others are dormant. -/
structure SInv (n k : Nat) (due : List (Int × Int)) (ps : List Pr) : Prop where
  len : ps.length = n
  dlen : due.length = k
  kn : k ≤ n
  wt : ∀ q, q ∈ due → 0 ≤ q.1 ∧ q.1 < k ∧ 0 ≤ q.2 ∧ q.2 ≤ 20 ∧ ps[q.1.toNat]? = some (wP q.2)
  nd : ((srt due).map Prod.fst).Nodup
  rest : ∀ j, k ≤ j → j < n → ps[j]? = some (prOf (sAt 5))
  dl : ∀ p, p ∈ ps → p.dl = 0

theorem SInv.zero (n : Nat) : SInv n 0 [] ((List.replicate n (sAt 5)).map prOf) :=
  ⟨by simp, rfl, by omega, fun q hq => by simp at hq, List.nodup_nil, fun j _ hj => by simp [hj], fun p hp => by
    rw [List.map_replicate, List.mem_replicate] at hp
    rw [hp.2]
    rfl⟩

theorem start_sP5 : startF 0 (prOf (sAt 5)) = some (sP 5 0) := by
  unfold startF startP prOf sAt sP
  simp

theorem SInv.step {n k : Nat} {due : List (Int × Int)} {ps : List Pr} (h : SInv n k due ps) (hk : k < n) {a : Int} (h1 : 1 ≤ a) (h2 : a ≤ 20) :
    act (startF 0) (tickB 0) ps (k : Int) = (ps.set k (sP 5 0), 0) ∧ lookP (ps.set k (sP 5 0)) (k : Int) = sP 5 0 ∧ act (waitF a) (decide (a ≤ 1099511627776)) (ps.set k (sP 5 0)) (k : Int) = (ps.set k (wP a), 0) ∧ lookP (ps.set k (wP a)) (k : Int) = wP a ∧
      idxQ (srt due) (k : Int) = -1 ∧ due.filter (fun q => q.1 != (k : Int)) = due ∧ SInv n (k + 1) (due ++ [((k : Int), a)]) (ps.set k (wP a)) := by
  have hkl : k < ps.length := by rw [h.len]; exact hk
  have hno : (k : Int) ∉ (srt due).map Prod.fst := fun hm => by
    obtain ⟨x, hx, he⟩ := List.mem_map.1 hm
    have := h.wt x ((mem_srt x due).1 hx)
    omega
  have hone : ∀ x : Pr, (ps.set k x)[k]? = some x := fun x => by rw [List.getElem?_set, if_pos rfl, if_pos hkl]
  refine ⟨?_, look_get (hone _), ?_, look_get (hone _), idxQ_none hno, ?_, ⟨by simpa using h.len, by simp [h.dlen], hk, fun q hq => ?_, ?_, fun j hj hn => ?_, fun p hp => ?_⟩⟩
  · have := act_in (f := startF 0) (may := tickB 0) (ps := ps) (i := (k : Int)) (p := prOf (sAt 5)) (by omega) (by simpa using h.rest k (Nat.le_refl _) hk)
    rw [this]
    unfold stepP codeP
    rw [show tickB 0 = true from tick_in (by omega) (by omega), start_sP5]
    simp
  · have := act_in (f := waitF a) (may := decide (a ≤ 1099511627776)) (ps := ps.set k (sP 5 0)) (i := (k : Int)) (p := sP 5 0) (by omega) (by simpa using hone (sP 5 0))
    rw [this]
    unfold stepP codeP
    rw [show decide (a ≤ 1099511627776) = true by simp; omega, wait_sP (by omega)]
    simp [List.set_set]
  · rw [List.filter_eq_self]
    intro q hq
    have := h.wt q hq
    have : q.1 ≠ (k : Int) := by omega
    simpa using this
  · rw [List.mem_append, List.mem_singleton] at hq
    rcases hq with hq | rfl
    · obtain ⟨k1, k2, k3, k4, k5⟩ := h.wt q hq
      refine ⟨k1, by omega, k3, k4, ?_⟩
      rw [List.getElem?_set, if_neg (by omega)]
      exact k5
    · refine ⟨by simp, by simp; omega, by simp; omega, h2, ?_⟩
      simpa using hone (wP a)
  · rw [srt_snoc]
    exact insQ_nd h.nd hno
  · rw [List.getElem?_set, if_neg (by omega)]
    exact h.rest j (by omega) hn
  · rcases List.mem_or_eq_of_mem_set hp with hp | rfl
    · exact h.dl p hp
    · rfl

theorem SInv.done {n : Nat} {due : List (Int × Int)} {ps : List Pr} (h : SInv n n due ps) : WInv n [] (srt due) ps :=
  ⟨h.len, by rw [srt_length, h.dlen]; simp, by simpa using h.nd, fun x hx => by simp at hx, fun q hq => by
    have := h.wt q ((mem_srt q due).1 hq)
    exact this, h.dl⟩

theorem new5 {n : Nat} (h2 : n ≤ 12) : newOk (List.replicate n (sAt 5)) = true := by
  have : n = 0 ∨ n = 1 ∨ n = 2 ∨ n = 3 ∨ n = 4 ∨ n = 5 ∨ n = 6 ∨ n = 7 ∨ n = 8 ∨ n = 9 ∨ n = 10 ∨ n = 11 ∨ n = 12 := by omega
  rcases this with rfl | rfl | rfl | rfl | rfl | rfl | rfl | rfl | rfl | rfl | rfl | rfl | rfl <;> decide

end Go.Proofs.Ytgnjenmicojgnaa

namespace Go.Proofs.Ytgnjenmicojgnaa
set_option linter.unusedVariables false
set_option linter.unusedSimpArgs false
open Go.RowKit

structure AttInv (w wr : World) (n k : Nat) (a : At) : Prop where
  get : ∃ cur, wr.heap[w.heap.size]? = some (.cells cur 31 (0, 0)) ∧ cur.size = n * 5 ∧ ∀ i, i < k → ∀ j, j < 5 → cur[i * 5 + j]? = (atC a)[j]?
  bel : Below w.heap.size w wr

theorem AttInv.row {w wr : World} {n : Nat} {a : At} (h : AttInv w wr n n a) : AtRow wr (some ⟨w.heap.size, 0, none⟩) (List.replicate n a) := by
  obtain ⟨cur, hg, hs, hc⟩ := h.get
  refine AtRow.of_rowG (fun _ => ⟨w.heap.size, 0, rfl, (Array.getElem?_eq_some_iff.1 hg).1, fun i x hx k hk => ?_⟩)
  rw [List.getElem?_replicate] at hx
  split at hx
  · rename_i hi
    injection hx with hx
    subst hx
    rw [cell_of_row wr _ _ cur 31 (0, 0) hg, Nat.zero_add]
    exact hc i hi k hk
  · cases hx

theorem AttInv.put {w wr : World} {n k : Nat} {a : At} (h : AttInv w wr n k a) (hk : k < n) : AttInv w (wr.setCells w.heap.size (k * 5) (atC a)) n (k + 1) a := by
  obtain ⟨cur, hg, hs, hc⟩ := h.get
  obtain ⟨cur', hg', hs', hc'⟩ := heap_setCells (atC a) (k * 5) wr cur hg
  refine ⟨⟨cur', hg', by omega, fun i hi j hj => ?_⟩, ?_⟩
  · rw [hc' _ (by omega)]
    by_cases e : i = k
    · subst e
      rw [if_pos (by rw [atC_length]; omega), show i * 5 + j - i * 5 = j by omega]
    · rw [if_neg (by rw [atC_length]; omega)]
      exact hc i (by omega) j hj
  · exact h.bel.trans ((Kept.setCells wr w.heap.size (k * 5) (atC a)).below h.bel.size (fun i hi => by omega))

theorem mod_in (x m : Int) (hm : 0 < m) (hm2 : m ≤ 100) : ∃ a : Int, wrap64 (1 + wrap64 ((IntKind.u64.wrap x).tmod m)) = a ∧ 1 ≤ a ∧ a ≤ m := by
  have h1 : 0 ≤ IntKind.u64.wrap x := by
    simp [IntKind.wrap, IntKind.bits, IntKind.signed]
    omega
  have h2 := Int.tmod_nonneg m h1
  have h3 := Int.tmod_lt_of_pos (IntKind.u64.wrap x) hm
  generalize (IntKind.u64.wrap x).tmod m = y at *
  refine ⟨1 + y, ?_, by omega, by omega⟩
  unfold wrap64
  omega

end Go.Proofs.Ytgnjenmicojgnaa

namespace Go.Proofs.Ytgnjenmicojgnaa
set_option linter.unusedVariables false
set_option linter.unusedSimpArgs false
open Go.RowKit

set_option maxRecDepth 100000 in
set_option maxHeartbeats 8000000 in
theorem wakes_any (A : Option Addr) (n1 cc : Nat) (zs : List Int) (sv x0 x1 : Int) (w : World) (hA : Nums w .i64 A n1 zs x0 x1) :
    Calls Try.prog 10 #[.slice A n1 cc, .int .i64 sv] w fun e w' => e = .returned (.bool true) ∧ Below w.heap.size w w' := by
  obtain ⟨n, hn⟩ : ∃ n : Nat, min (n1 : Int) 12 = n := ⟨min n1 12, by omega⟩
  have hn12 : n ≤ 12 := by omega
  have hnn1 : n ≤ n1 := by omega
  obtain ⟨i0, hi0, hz0, hz1, hz2⟩ := info_parts info31
  obtain ⟨ROW, hsz, hmk⟩ : ∃ ROW : Array Value, ROW.size = n * 5 ∧ ∀ W : World, Sem.run Try.prog (Instr.makeSlice 32 (.int .i64 n) (.int .i64 n)) W = .ok (.slice (some ⟨W.heap.size, 0, none⟩) n n) (W.alloc (.cells ROW 31)) := by
    refine ⟨_, size_madeCells (Value.agg #[.int .i64 0, .int .i64 0, .int .i64 0, .int .i64 0, .int .i64 0]).cells (n * 5), fun W => ?_⟩
    have := run_make (P := Try.prog) W 32 31 i0 _ Try.underlying32 hi0 hz0 .i64 .i64 n n (by omega) (Int.le_refl _) (by rw [hz2]; omega) (by omega)
    simpa [hz1] using this
  have HSZ := Lib.hid hsz
  have HA := Lib.hid hA
  clear hsz hA hi0 hz0 hz1 hz2
  go_enter Try.func10, Try.ntmps10
  go_wp2_with fail
  obtain ⟨W0, hW0⟩ : ∃ W0, W0 = w.alloc (.cells ROW 31) := ⟨_, rfl⟩
  have HI0 : Hid (AttInv w W0 n 0 (sAt 5)) := by
    rw [hW0]
    exact ⟨⟨_, heap_alloc_new w _, HSZ.out, fun i hi => absurd hi (Nat.not_lt_zero _)⟩, (Below.refl _ _).alloc (Nat.le_refl _) _⟩
  rw [← hW0]
  clear hW0 hmk hn
  go_loopw [7] (fun s7 wr => ∃ k : Nat, k ≤ n ∧ s7 = .int .i64 k ∧ AttInv w wr n k (sAt 5)) (fun i _ => n - (intOf i).toNat)
  case atStart => exact ⟨0, by omega, rfl, HI0.out⟩
  case round =>
    clear HI0
    obtain ⟨k, hk, rfl, hatt⟩ := hrel
    have HATT := Lib.hid hatt
    by_cases hlt : k < n
    · obtain ⟨cur, hg, hs, hc⟩ := hatt.get
      have hfz : ∀ j, wr.frozen? ⟨w.heap.size, j, none⟩ = false := fun j => by simp [World.frozen?, hg]
      have hcell : ∀ j, j < 5 → ∃ u, wr.cell? ⟨w.heap.size, k * 5 + j, none⟩ = some u := fun j hj => by
        rw [cell_of_row wr _ _ cur 31 (0, 0) hg, Array.getElem?_eq_getElem (by omega)]
        exact ⟨_, rfl⟩
      obtain ⟨u0, e0⟩ := hcell 0 (by omega)
      obtain ⟨u1, e1⟩ := hcell 1 (by omega)
      obtain ⟨u2, e2⟩ := hcell 2 (by omega)
      obtain ⟨u3, e3⟩ := hcell 3 (by omega)
      obtain ⟨u4, e4⟩ := hcell 4 (by omega)
      rw [Nat.add_zero] at e0
      have hwl : w.heap.size < wr.heap.size := (Array.getElem?_eq_some_iff.1 hg).1
      have HPUT := Lib.hid (hatt.put hlt)
      clear hg hs hc hcell hatt
      go_wp2_with fail
      go_roundw
      case rel => exact ⟨k + 1, by omega, by go_num, HPUT.out⟩
      case measure => simp [intOf]; omega
    · obtain rfl : k = n := by omega
      clear hlt hatt hk
      go_wp2_with fail
      refine (dnew_any (some ⟨w.heap.size, 0, none⟩) k k (List.replicate k (sAt 5)) wr (by simp) HATT.out.row (by omega) (new5 hn12)).mono ?_
      rintro e w1 ⟨d, t, g, c, l, m, rfl, hD, hlow, hb1⟩
      have L1 : Hid (Lives w w1 d t g c l m v0 (.slice none 0 0) ((List.replicate k (sAt 5)).map prOf) (rowR 5 []) []) := ⟨by rw [rowR_nil]; exact hD, fun i hi => Nat.le_trans HATT.out.bel.size (hlow i hi), HATT.out.bel.trans (hb1.mono HATT.out.bel.size)⟩
      clear hD hlow hb1 HATT
      obtain ⟨n, hnk⟩ : ∃ n, n = k := ⟨_, rfl⟩
      subst hnk
      go_wp2_with fail
      refine (told_any20 w1).mono ?_
      rintro e w2 ⟨rfl, hb2⟩
      have L2 := Lib.hid (L1.out.below hb2)
      clear hb2 L1
      go_wp2_with fail
      go_loopw [10, 11] (fun s10 s11 wr => ∃ (k : Nat) (due : List (Int × Int)) (V : Nat → Value) (v : Value) (ps : List Pr), s11 = .int .i64 k ∧ SInv n k due ps ∧ Lives w wr d t g c l m V v ps (rowR 5 []) (srt due) ∧ OwnP 127 wr s10 due ∧ (∀ b, s10.ownBlock = some b → w.heap.size ≤ b ∧ ¬ inD d t g l m V v b)) (fun _ i _ => n - (intOf i).toNat)
      case atStart => exact ⟨0, [], v0, .slice none 0 0, _, rfl, SInv.zero n, L2.out, OwnP.nil 127 _, fun b hb => by simp [Value.ownBlock] at hb⟩
      case round =>
        clear L2
        obtain ⟨k, due, V, v, ps, rfl, hsi, hlv, hown, hout⟩ := hrel
        have HL := Lib.hid hlv
        have HT := Lib.hid hsi
        have HO := Lib.hid hown
        have HOUT := Lib.hid hout
        have hkn := hsi.kn
        clear hlv hsi hown hout
        by_cases hlt : k < n
        · obtain ⟨ab, ao, rfl, habl, hacell⟩ := HA.out (by omega)
          obtain ⟨hac, -, -⟩ := hacell k (by omega)
          have hac' : wr.cell? ⟨ab, ao + k, none⟩ = some (.int .i64 (zs.getD k 0)) := (HL.out.bel.cell (p := ⟨ab, ao + k, none⟩) habl).trans hac
          have habl' : ab < wr.heap.size := by have := HL.out.bel.size; omega
          obtain ⟨ua, uc, hus⟩ := HO.out.sl
          subst hus
          rw [HT.out.dlen] at HO HOUT ⊢
          obtain ⟨z, hz⟩ : ∃ z, zs.getD k 0 = z := ⟨_, rfl⟩
          rw [hz] at hac'
          obtain ⟨a, ha, ha1, ha2⟩ := mod_in z 20 (by omega) (by omega)
          obtain ⟨hs1, hs2, hs3, hs4, hs5, hs6, hs7⟩ := HT.out.step hlt ha1 ha2
          obtain ⟨ps1, hps1⟩ : ∃ ps1, ps.set k (sP 5 0) = ps1 := ⟨_, rfl⟩
          obtain ⟨ps2, hps2⟩ : ∃ ps2, ps.set k (wP a) = ps2 := ⟨_, rfl⟩
          rw [hps1] at hs1 hs2 hs3
          rw [hps2] at hs3 hs4 hs7
          have HS1 := Lib.hid hs1
          have HS2 := Lib.hid hs2
          have HS3 := Lib.hid hs3
          have HS4 := Lib.hid hs4
          have HS5 := Lib.hid hs5
          have HS6 := Lib.hid hs6
          have HS7 := Lib.hid hs7
          have HQL : Hid ((srt due).length ≤ 100) := by
            have h1 := srt_length due
            have h2 := HT.out.dlen
            unfold Hid
            omega
          have HDL : Hid (due.length ≤ 100) := by
            have h2 := HT.out.dlen
            unfold Hid
            omega
          clear hacell hac hz hs1 hs2 hs3 hs4 hs5 hs6 hs7 hps1 hps2 HT
          go_wp2_with fail
          refine (dstart_ok (ps' := ps1) (R' := rowR 5 [(k : Int)]) HL.out.D k 0 HS1.out (fun W hW => by
            have := follow_put hW k 5 (by omega) (by omega) (by rw [HS2.out]; rfl) (by rw [HS2.out]; rfl) (by rw [HS2.out]; rfl) (rowR_none (by simp)) (rowR_len (by simp) _) (by have := HQL.out; omega) HS5.out
            rw [rowR_at, rowR_put] at this
            exact this)).mono ?_
          intro e w3 hp
          obtain ⟨rfl, V3, v3, hl3, hk3, hn3⟩ := HL.out.step hp
          have L3 := Lib.hid hl3
          have HO3 : Hid (OwnP 127 w3 (.slice ua k uc) due) := HO.out.keep (fun b hb => hk3.block b (HO.out.lt b hb) (HOUT.out b hb).2)
          have HOUT3 : Hid (∀ b, (Value.slice ua k uc).ownBlock = some b → w.heap.size ≤ b ∧ ¬ inD d t g l m V3 v3 b) := fun b hb => ⟨(HOUT.out b hb).1, fun hi => by
            rcases hn3 b hi with h1 | h1
            · exact (HOUT.out b hb).2 h1
            · have := HO.out.lt b hb
              omega⟩
          clear hp hl3 hk3 hn3 HO HOUT HL hac'
          go_wp2_with fail
          refine (dwait_ok (ps' := ps2) (R' := rowR 5 []) (Q' := insQ (srt due) ((k : Int), a)) L3.out.D k a HS3.out (fun W hW => follow_wait hW k a 5 (by rw [HS4.out]; rfl) (rowR_prio (by omega) (by simp)) (by rw [rowR_at, rowR_put, List.erase_cons_head]) (by rw [HS4.out]; exact (until_wP (by omega)).2) (by rw [HS4.out]; exact (until_wP (by omega)).1) (by have := HQL.out; omega) HS5.out)).mono ?_
          rw [← srt_snoc]
          intro e w4 hp
          obtain ⟨rfl, V4, v4, hl4, hk4, hn4⟩ := L3.out.step hp
          have L4 := Lib.hid hl4
          have HO4 : Hid (OwnP 127 w4 (.slice ua k uc) due) := HO3.out.keep (fun b hb => hk4.block b (HO3.out.lt b hb) (HOUT3.out b hb).2)
          clear hp hl4 hk4 hn4 HO3 HOUT3 L3
          go_wp2_with fail
          refine (set20_any (.slice ua k uc) due k a w4 HO4.out (by have := HDL.out; omega)).mono ?_
          rw [HS6.out]
          rintro e w5 ⟨u5, rfl, ho5, hf5, hb5⟩
          have L5 := Lib.hid (L4.out.below hb5)
          have HO5 := Lib.hid ho5
          have HOUT5 : Hid (∀ b, u5.ownBlock = some b → w.heap.size ≤ b ∧ ¬ inD d t g l m V4 v4 b) := fun b hb => by
            have h1 := hf5 b hb
            have h2 := L4.out.bel.size
            exact ⟨by omega, fun hi => by have := L4.out.D.lt hi; omega⟩
          clear ho5 hf5 hb5 HO4 L4
          go_wp2_with fail
          go_roundw
          case rel => exact ⟨k + 1, due ++ [((k : Int), a)], V4, v4, ps2, by go_num, HS7.out, L5.out, HO5.out, HOUT5.out⟩
          case measure => simp [intOf]; omega
        · obtain rfl : k = n := by omega
          have HW := Lib.hid HT.out.done
          have HWT : Hid (∀ q, q ∈ due → 0 ≤ q.2 ∧ q.2 ≤ 20) := fun q hq => by
            have := HT.out.wt q hq
            omega
          obtain ⟨nn, hnn⟩ : ∃ nn, nn = k := ⟨_, rfl⟩
          subst hnn
          obtain ⟨by', hby, hby1, hby5⟩ := mod_in sv 5 (by omega) (by omega)
          clear HT hlt
          go_wp2_with fail
          rw [hby]
          have HST : Hid (∃ (due : List (Int × Int)) (V : Nat → Value) (v : Value) (ps : List Pr) (row : List Int), WInv nn row (srt due) ps ∧ (∀ q, q ∈ due → 0 - by' < q.2 ∧ q.2 ≤ 20) ∧ Lives w wr d t g c l m V v ps (rowR 5 row) (srt due) ∧ OwnP 127 wr u10 due ∧ (∀ b, u10.ownBlock = some b → w.heap.size ≤ b ∧ ¬ inD d t g l m V v b)) :=
            ⟨due, V, v, ps, [], HW.out, fun q hq => by have := HWT.out q hq; omega, HL.out, HO.out, HOUT.out⟩
          clear HL HO HOUT HW HWT hby
          go_loopw [10, 14] (fun s10 s14 wr => ∃ (now : Int) (due : List (Int × Int)) (V : Nat → Value) (v : Value) (ps : List Pr) (row : List Int), s14 = .int .i64 now ∧ 0 ≤ now ∧ now ≤ 40 ∧ WInv nn row (srt due) ps ∧ (∀ q, q ∈ due → now - by' < q.2 ∧ q.2 ≤ 20) ∧ Lives w wr d t g c l m V v ps (rowR 5 row) (srt due) ∧ OwnP 127 wr s10 due ∧ (∀ b, s10.ownBlock = some b → w.heap.size ≤ b ∧ ¬ inD d t g l m V v b)) (fun _ i _ => (30 - intOf i).toNat)
          case atStart =>
            obtain ⟨due, V, v, ps, row, h1, h2, h3, h4, h5⟩ := HST.out
            exact ⟨0, due, V, v, ps, row, rfl, by omega, by omega, h1, h2, h3, h4, h5⟩
          case round =>
            clear HST
            obtain ⟨now, due, V, v, ps, row, rfl, hn0, hn40, hwi, hdu, hlv, hown, hout⟩ := hrel
            have HL := Lib.hid hlv
            have HW := Lib.hid hwi
            have HDU := Lib.hid hdu
            have HO := Lib.hid hown
            have HOUT := Lib.hid hout
            have HDL : Hid (due.length ≤ 12) := by
              have h1 := hwi.sum
              rw [srt_length] at h1
              unfold Hid
              omega
            have HRL : Hid (row.length ≤ 12) := by
              have h1 := hwi.sum
              unfold Hid
              omega
            clear hlv hwi hdu hown hout
            by_cases hlt : now < 30
            · go_wp2_with fail
              refine (due20_any _ due now wr HO.out (by have := HDL.out; omega)).mono ?_
              rintro e w3 ⟨u, u2, rfl, ho3, hf3, hp3, hg3, hb3⟩
              have L3 := Lib.hid (HL.out.below hb3)
              have HO3 := Lib.hid ho3
              have HP3 := Lib.hid hp3
              have HF3 : Hid (∀ b, u.ownBlock = some b → ¬ inD d t g l m V v b) := fun b hb hi => by
                have h1 := hf3 b hb
                have := HL.out.D.lt hi
                omega
              have HG3 : Hid (∀ b, u2.ownBlock = some b → w.heap.size ≤ b ∧ ¬ inD d t g l m V v b) := fun b hb => by
                have h1 := hg3 b hb
                have h2 := HL.out.bel.size
                exact ⟨by omega, fun hi => by have := HL.out.D.lt hi; omega⟩
              clear ho3 hf3 hp3 hg3 hb3 HL HO HOUT
              go_wp2_with fail
              refine (advance_any L3.out.D HW.out now hn0 (by omega) (by omega)).mono ?_
              rw [show AdvPost w3 nn d t g c l m V v row (srt due) (iQ (srt due) now) = AdvPost w3 nn d t g c l m V v row (srt due) (iQ (srt due) now) from rfl]
              rintro e w4 ⟨x, a2, c2, V4, v4, ps4, rfl, hri, hwi4, hd4, hk4, hn4⟩
              rw [(due_ids due now).1] at hri hwi4 hd4
              rw [(due_ids due now).2] at hwi4 hd4
              have HRI := Lib.hid hri
              have HW4 := Lib.hid hwi4
              have L4 : Hid (Lives w w4 d t g c l m V4 v4 ps4 (rowR 5 (row ++ (srt (lo now due)).map Prod.fst)) (srt (hi now due))) := ⟨hd4, fun i hi => by
                rcases hn4 i hi with h1 | h1
                · exact L3.out.low i h1
                · exact Nat.le_trans L3.out.bel.size h1, L3.out.bel.trans (hk4.below L3.out.bel.size L3.out.low)⟩
              have HO4 : Hid (Own w4 u ((srt (lo now due)).map Prod.fst)) := HO3.out.keep (fun b hb => hk4.block b (HO3.out.lt b hb) (HF3.out b hb))
              have HP4 : Hid (OwnP 127 w4 u2 (hi now due)) := HP3.out.keep (fun b hb => hk4.block b (HP3.out.lt b hb) (HG3.out b hb).2)
              have HG4 : Hid (∀ b, u2.ownBlock = some b → w.heap.size ≤ b ∧ ¬ inD d t g l m V4 v4 b) := fun b hb => ⟨(HG3.out b hb).1, fun hi => by
                rcases hn4 b hi with h1 | h1
                · exact (HG3.out b hb).2 h1
                · have := HP3.out.lt b hb
                  omega⟩
              have HSL : Hid (((srt (lo now due)).map Prod.fst).length ≤ 1000) := by
                have h1 := List.length_filter_le (fun q : Int × Int => decide (q.2 ≤ now)) due
                have h2 := HDL.out
                unfold Hid
                rw [List.length_map, srt_length]
                unfold lo
                omega
              clear hri hwi4 hd4 hk4 hn4 HO3 HP3 HF3 HG3 L3 HW
              go_wp2_with fail
              refine (same20_any x u _ _ w4 HRI.out HO4.out.ri (by have := HSL.out; omega)).mono ?_
              rw [show ∀ zs : List Int, decide (zs = zs) = true from fun zs => by simp]
              rintro e w5 ⟨rfl, hb5⟩
              have L5 := Lib.hid (L4.out.below hb5)
              have HP5 : Hid (OwnP 127 w5 u2 (hi now due)) := HP4.out.keep (fun b hb => hb5.block b (HP4.out.lt b hb))
              have HDU5 : Hid (∀ q, q ∈ hi now due → now + by' - by' < q.2 ∧ q.2 ≤ 20) := fun q hq => by
                unfold hi at hq
                rw [List.mem_filter] at hq
                have h1 := HDU.out q hq.1
                have h2 : now < q.2 := by simpa using hq.2
                omega
              clear hb5 L4 HP4 HRI HO4 HSL HDU
              go_wp2_with fail
              go_roundw
              case rel => exact ⟨now + by', hi now due, V4, v4, ps4, _, by go_num, by omega, by omega, HW4.out, HDU5.out, L5.out, HP5.out, HG4.out⟩
              case measure => simp [intOf]; omega
            · have hdue : due = [] := by
                cases hd : due with
                | nil => rfl
                | cons q r =>
                  have := HDU.out q (by rw [hd]; exact List.mem_cons_self ..)
                  omega
              subst hdue
              obtain ⟨sa, sc, hsl⟩ := HO.out.sl
              subst hsl
              have hrn : row.length = nn := by
                have := HW.out.sum
                simpa [srt] using this
              subst hrn
              go_wp2_with fail
              refine (ready_any HL.out.D (rowR_len (by have := HRL.out; omega))).mono ?_
              rintro e w6 ⟨u6, rfl, ho6, hf6, hb6⟩
              rw [rowR_all (by omega)] at ho6
              obtain ⟨ra, rc, hr6⟩ := ho6.sl
              subst hr6
              have HBE : Hid (Below w.heap.size w w6) := HL.out.bel.trans (hb6.mono HL.out.bel.size)
              clear ho6 hf6 hb6 HL HO HOUT HW HDU
              go_wp2_with fail
              go_ret
              exact ⟨rfl, HBE.out⟩

end Go.Proofs.Ytgnjenmicojgnaa
