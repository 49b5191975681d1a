/-
  The plain law of a Dispatch: its row has just those that are ready, its timers just those that wait up to a tick.
-/
import Derived.Test.YtgnjenmicojgnaaGreatS0w
namespace Go.Proofs.YtgnjenmicojgnaaGreat
set_option linter.unusedVariables false
set_option linter.unusedSimpArgs false
open Go.RowKit

structure RInv (ps : List Pr) (R : Nat → List Int) (D : List (Int × Int)) : Prop where
  len : ps.length ≤ 16
  ok : ∀ p, p ∈ ps → p.Ok
  nd : ∀ p, (R p).Nodup
  mem : ∀ (p : Nat) (i : Int), i ∈ R p ↔ 0 ≤ i ∧ i < ps.length ∧ stateR (lookP ps i) = 1 ∧ curR (lookP ps i) = p
  ndD : (D.map Prod.fst).Nodup
  tm : ∀ (i a : Int), (i, a) ∈ D ↔ 0 ≤ i ∧ i < ps.length ∧ untilB (lookP ps i) = true ∧ untilR (lookP ps i) = a

theorem nd_len : ∀ {n : Nat} {xs : List Int}, xs.Nodup → (∀ x, x ∈ xs → 0 ≤ x ∧ x < n) → xs.length ≤ n
  | 0, xs, _, hx => by
    cases xs with
    | nil => exact Nat.le_refl _
    | cons a r => have := hx a (List.mem_cons_self ..); omega
  | n + 1, xs, hn, hx => by
    have h1 := nd_len (n := n) (xs := xs.erase (n : Int)) (hn.erase _) (fun x hm => by
      have h2 := hx x (List.mem_of_mem_erase hm)
      have h3 := (hn.mem_erase_iff.1 hm).1
      omega)
    rw [List.length_erase] at h1
    split at h1 <;> omega

section
variable {ps : List Pr} {R : Nat → List Int} {D : List (Int × Int)}

theorem RInv.rlen (h : RInv ps R D) (p : Nat) : (R p).length ≤ 16 := Nat.le_trans (nd_len (h.nd p) (fun x hx => ⟨((h.mem p x).1 hx).1, ((h.mem p x).1 hx).2.1⟩)) h.len
theorem RInv.rlen2 (h : RInv ps R D) : ∀ p, (R p).length ≤ 1000 := fun p => by have := h.rlen p; omega
theorem RInv.dlen (h : RInv ps R D) : D.length ≤ 16 := by
  have := nd_len (n := ps.length) h.ndD (fun x hx => by
    obtain ⟨q, hq, rfl⟩ := List.mem_map.1 hx
    have := (h.tm q.1 q.2).1 hq
    exact ⟨this.1, this.2.1⟩)
  have h2 := h.len
  simp at this
  omega
theorem RInv.qlen (h : RInv ps R D) : (srt D).length ≤ 900 := by rw [srt_length]; have := h.dlen; omega
theorem RInv.qnd (h : RInv ps R D) : ((srt D).map Prod.fst).Nodup := srt_nd h.ndD
theorem RInv.one (h : RInv ps R D) {p q : Nat} {i : Int} (hp : i ∈ R p) (hq : i ∈ R q) : p = q := by
  have h1 := ((h.mem p i).1 hp).2.2.2
  have h2 := ((h.mem q i).1 hq).2.2.2
  omega
theorem RInv.prio_iff (h : RInv ps R D) {p : Nat} {i : Int} : prio R i = some p ↔ i ∈ R p := by
  constructor
  · intro hp; exact (prio_some hp).2
  · intro hm
    have h1 := ((h.mem p i).1 hm).2.2.2
    have h2 := (cur_ok h.ok i).2
    exact prio_first (by omega) hm (fun q hq hm2 => by have := h.one hm hm2; omega)
theorem RInv.prio_not (h : RInv ps R D) {i : Int} : prio R i = none ↔ ∀ p, i ∉ R p := by
  constructor
  · intro hn p hm
    rw [h.prio_iff.2 hm] at hn
    cases hn
  · intro hn
    exact Go.Proofs.YtgnjenmicojgnaaGreat.prio_not (fun q _ => hn q)
theorem RInv.prio_at (h : RInv ps R D) {i : Int} (h0 : 0 ≤ i) (h1 : i < ps.length) : prio R i = if stateR (lookP ps i) = 1 then some (curR (lookP ps i)).toNat else none := by
  have hc := (cur_ok h.ok i).1
  by_cases hs : stateR (lookP ps i) = 1
  · rw [if_pos hs, h.prio_iff, h.mem]
    exact ⟨h0, h1, hs, by omega⟩
  · rw [if_neg hs, h.prio_not]
    intro p hm
    exact hs ((h.mem p i).1 hm).2.2.1

theorem RInv.rm_flt (h : RInv ps R D) (i : Int) (p : Nat) : rmR R i p = (R p).filter (fun j => j != i) := by
  have hne : i ∉ R p → (R p).filter (fun j => j != i) = R p := fun hn => by
    rw [List.filter_eq_self]
    intro j hj
    have : j ≠ i := fun e => hn (e ▸ hj)
    simpa using this
  cases hp : prio R i with
  | none => rw [rmR_none hp, hne (h.prio_not.1 hp p)]
  | some q =>
    rw [rmR_some hp]
    have hq := h.prio_iff.1 hp
    by_cases e : p = q
    · subst e
      rw [upd_same, (h.nd p).erase_eq_filter]
    · rw [upd_other _ _ e, hne (fun hm => e (h.one hm hq))]
theorem RInv.rm_mem (h : RInv ps R D) (i : Int) (p : Nat) (j : Int) : j ∈ rmR R i p ↔ j ∈ R p ∧ j ≠ i := by
  rw [h.rm_flt, List.mem_filter]
  simp
theorem RInv.rm_nd (h : RInv ps R D) (i : Int) (p : Nat) : (rmR R i p).Nodup := by rw [h.rm_flt]; exact (h.nd p).filter _
theorem RInv.rm_none (h : RInv ps R D) (i : Int) : prio (rmR R i) i = none := Go.Proofs.YtgnjenmicojgnaaGreat.prio_not (fun q _ hm => ((h.rm_mem i q i).1 hm).2 rfl)
theorem RInv.rowE_rm (h : RInv ps R D) (i : Int) : rowE (rmR R i) = rmQ (rowE R) i := rowN_flt R (rmR R i) i 64 (fun p _ => h.rm_flt i p)
theorem RInv.ids_mem (h : RInv ps R D) {i : Int} : i ∈ (rowE R).map Prod.fst ↔ ∃ p, i ∈ R p := by
  rw [List.mem_map]
  constructor
  · rintro ⟨x, hx, rfl⟩
    obtain ⟨p, -, hp, -⟩ := mem_rowN.1 hx
    exact ⟨p, hp⟩
  · rintro ⟨p, hp⟩
    have h1 := ((h.mem p i).1 hp).2.2.2
    have h2 := (cur_ok h.ok i).2
    exact ⟨(i, (p : Int)), mem_rowN.2 ⟨p, by omega, hp, rfl⟩, rfl⟩

theorem lookP_set {i j : Int} {p' : Pr} (h0 : 0 ≤ i) (h1 : i < ps.length) (hj : 0 ≤ j) : lookP (ps.set i.toNat p') j = if j = i then p' else lookP ps j := by
  have hjn : ¬ j < 0 := by omega
  unfold lookP
  simp only [hjn, if_false]
  rw [List.getElem?_set]
  by_cases e : j = i
  · subst e
    rw [if_pos rfl, if_pos (by omega), if_pos rfl]
    rfl
  · rw [if_neg (by omega), if_neg e]

/-- One process becomes another one. -/
theorem RInv.set {R' : Nat → List Int} {D' : List (Int × Int)} {i : Int} {p' : Pr} (h : RInv ps R D) (h0 : 0 ≤ i) (h1 : i < ps.length) (hok : p'.Ok)
    (hnd : ∀ p, (R' p).Nodup) (hoth : ∀ p j, j ≠ i → (j ∈ R' p ↔ j ∈ R p)) (hself : ∀ p : Nat, i ∈ R' p ↔ stateR p' = 1 ∧ curR p' = p)
    (hndD : (D'.map Prod.fst).Nodup) (hothD : ∀ j a, j ≠ i → ((j, a) ∈ D' ↔ (j, a) ∈ D)) (hselfD : ∀ a, (i, a) ∈ D' ↔ untilB p' = true ∧ untilR p' = a) : RInv (ps.set i.toNat p') R' D' := by
  refine ⟨by rw [List.length_set]; exact h.len, fun p hp => ?_, hnd, fun p j => ?_, hndD, fun j a => ?_⟩
  · rcases List.mem_or_eq_of_mem_set hp with hp | rfl
    · exact h.ok p hp
    · exact hok
  · rw [List.length_set]
    by_cases e : j = i
    · subst e
      rw [lookP_set h0 h1 h0, if_pos rfl, hself]
      exact ⟨fun hh => ⟨h0, h1, hh⟩, fun hh => hh.2.2⟩
    · rw [hoth p j e, h.mem]
      constructor
      · rintro ⟨a, b, c, d⟩
        rw [lookP_set h0 h1 a, if_neg e]
        exact ⟨a, b, c, d⟩
      · rintro ⟨a, b, c, d⟩
        rw [lookP_set h0 h1 a, if_neg e] at c d
        exact ⟨a, b, c, d⟩
  · rw [List.length_set]
    by_cases e : j = i
    · subst e
      rw [lookP_set h0 h1 h0, if_pos rfl, hselfD]
      exact ⟨fun hh => ⟨h0, h1, hh⟩, fun hh => hh.2.2⟩
    · rw [hothD j a e, h.tm]
      constructor
      · rintro ⟨a, b, c, d⟩
        rw [lookP_set h0 h1 a, if_neg e]
        exact ⟨a, b, c, d⟩
      · rintro ⟨a, b, c, d⟩
        rw [lookP_set h0 h1 a, if_neg e] at c d
        exact ⟨a, b, c, d⟩

theorem mem_rmQ {D : List (Int × Int)} {i : Int} {x : Int × Int} : x ∈ rmQ D i ↔ x ∈ D ∧ x.1 ≠ i := by
  unfold rmQ
  rw [List.mem_filter]
  simp
theorem rmQ_nd {D : List (Int × Int)} (h : (D.map Prod.fst).Nodup) (i : Int) : ((rmQ D i).map Prod.fst).Nodup := by
  unfold rmQ
  exact h.sublist ((List.filter_sublist).map _)

theorem newD_nd (p' : Pr) (i : Int) (h : (D.map Prod.fst).Nodup) : ((newD p' i D).map Prod.fst).Nodup := by
  unfold newD
  split
  · split
    · exact h
    · rw [List.map_append, List.nodup_append]
      refine ⟨rmQ_nd h i, by simp, fun a ha b hb => ?_⟩
      simp at hb
      subst hb
      obtain ⟨x, hx, rfl⟩ := List.mem_map.1 ha
      exact (mem_rmQ.1 hx).2
  · exact rmQ_nd h i
theorem newD_oth (p' : Pr) (i j a : Int) (e : j ≠ i) : (j, a) ∈ newD p' i D ↔ (j, a) ∈ D := by
  unfold newD
  split
  · split
    · exact Iff.rfl
    · rw [List.mem_append, mem_rmQ]
      simp [e]
  · rw [mem_rmQ]
    simp [e]
theorem newD_self (p' : Pr) (i a : Int) (h : (D.map Prod.fst).Nodup) : (i, a) ∈ newD p' i D ↔ untilB p' = true ∧ untilR p' = a := by
  unfold newD
  by_cases hu : untilB p' = true
  · rw [if_pos hu]
    by_cases ht : tickOf D i = some (untilR p')
    · rw [if_pos ht, ← tickOf_iff h, ht]
      simp [hu]
    · rw [if_neg ht, List.mem_append, mem_rmQ]
      simp [hu]
      exact eq_comm
  · rw [if_neg hu, mem_rmQ]
    simp [hu]

theorem newR_none {p' : Pr} {i : Int} (hs : stateR p' = 1) (hp : prio R i = none) : newR p' i R = upd R (curR p').toNat (R (curR p').toNat ++ [i]) := by
  unfold newR
  rw [if_pos hs, hp]
theorem newR_in {p' : Pr} {i : Int} {q : Nat} (hs : stateR p' = 1) (hp : prio R i = some q) : newR p' i R = R := by
  unfold newR
  rw [if_pos hs, hp]
theorem newR_out {p' : Pr} {i : Int} (hs : stateR p' ≠ 1) : newR p' i R = rmR R i := if_neg hs

theorem cur_of_ok {p : Pr} (h : p.Ok) : 0 ≤ curR p ∧ curR p ≤ 63 := by
  have := cur_ok (ps := [p]) (fun q hq => by rw [List.mem_singleton] at hq; rw [hq]; exact h) 0
  simpa [lookP] using this

/-- The ends of a row get one more. -/
theorem put_mem {S : Nat → List Int} {q : Nat} {xs : List Int} {i : Int} (hx : ∀ j, j ∈ xs ↔ j ∈ S q ∨ j = i) (p : Nat) (j : Int) (e : j ≠ i) : j ∈ upd S q xs p ↔ j ∈ S p := by
  by_cases hp : p = q
  · subst hp
    rw [upd_same, hx]
    simp [e]
  · rw [upd_other _ _ hp]
theorem put_self {S : Nat → List Int} {q : Nat} {xs : List Int} {i : Int} (hx : ∀ j, j ∈ xs ↔ j ∈ S q ∨ j = i) (hno : ∀ p, i ∉ S p) (p : Nat) : i ∈ upd S q xs p ↔ p = q := by
  by_cases hp : p = q
  · subst hp
    rw [upd_same, hx]
    simp
  · rw [upd_other _ _ hp]
    simp [hp, hno p]
theorem put_nd {S : Nat → List Int} {q : Nat} {xs : List Int} (hS : ∀ p, (S p).Nodup) (hx : xs.Nodup) (p : Nat) : (upd S q xs p).Nodup := by
  by_cases hp : p = q
  · subst hp
    rw [upd_same]
    exact hx
  · rw [upd_other _ _ hp]
    exact hS p
theorem snoc_nd {xs : List Int} {i : Int} (h : xs.Nodup) (hi : i ∉ xs) : (xs ++ [i]).Nodup := by
  rw [List.nodup_append]
  refine ⟨h, by simp, fun a ha b hb => ?_⟩
  simp at hb
  subst hb
  rintro rfl
  exact hi ha

/-- A process has become another one, and follow was called. -/
theorem RInv.put {i : Int} {p' : Pr} (h : RInv ps R D) (h0 : 0 ≤ i) (h1 : i < ps.length) (hok : p'.Ok) (hcur : stateR (lookP ps i) = 1 → stateR p' = 1 → curR p' = curR (lookP ps i)) :
    RInv (ps.set i.toNat p') (newR p' i R) (newD p' i D) := by
  have hc := cur_of_ok hok
  have hc0 := cur_ok h.ok i
  by_cases hs : stateR p' = 1
  · cases hp : prio R i with
    | none =>
      have hno := h.prio_not.1 hp
      rw [newR_none hs hp]
      refine h.set h0 h1 hok (put_nd h.nd (snoc_nd (h.nd _) (hno _))) (fun p j e => put_mem (by simp) p j e) (fun p => ?_) (newD_nd p' i h.ndD) (fun j a e => newD_oth p' i j a e) (fun a => newD_self p' i a h.ndD)
      rw [put_self (by simp) hno]
      constructor
      · rintro rfl; exact ⟨hs, by omega⟩
      · rintro ⟨-, e⟩; omega
    | some q =>
      have hq := h.prio_iff.1 hp
      have hq2 := ((h.mem q i).1 hq).2.2
      have hcc := hcur hq2.1 hs
      rw [newR_in hs hp]
      refine h.set h0 h1 hok h.nd (fun p j e => Iff.rfl) (fun p => ?_) (newD_nd p' i h.ndD) (fun j a e => newD_oth p' i j a e) (fun a => newD_self p' i a h.ndD)
      rw [h.mem]
      constructor
      · rintro ⟨-, -, -, e⟩; exact ⟨hs, by omega⟩
      · rintro ⟨-, e⟩; exact ⟨h0, h1, hq2.1, by omega⟩
  · rw [newR_out hs]
    refine h.set h0 h1 hok (h.rm_nd i) (fun p j e => by rw [h.rm_mem]; simp [e]) (fun p => ?_) (newD_nd p' i h.ndD) (fun j a e => newD_oth p' i j a e) (fun a => newD_self p' i a h.ndD)
    rw [h.rm_mem]
    simp [hs]

/-- The same behind a process that was taken out of its row first. -/
theorem RInv.put2 {i : Int} {p' : Pr} (h : RInv ps R D) (h0 : 0 ≤ i) (h1 : i < ps.length) (hok : p'.Ok) : RInv (ps.set i.toNat p') (newR p' i (rmR R i)) (newD p' i D) := by
  have hc := cur_of_ok hok
  have hno : ∀ p, i ∉ rmR R i p := fun p hm => ((h.rm_mem i p i).1 hm).2 rfl
  have hp := h.rm_none i
  by_cases hs : stateR p' = 1
  · rw [newR_none hs hp]
    refine h.set h0 h1 hok (put_nd (h.rm_nd i) (snoc_nd (h.rm_nd i _) (hno _))) (fun p j e => (put_mem (by simp) p j e).trans (by rw [h.rm_mem]; simp [e])) (fun p => ?_) (newD_nd p' i h.ndD) (fun j a e => newD_oth p' i j a e) (fun a => newD_self p' i a h.ndD)
    rw [put_self (by simp) hno]
    constructor
    · rintro rfl; exact ⟨hs, by omega⟩
    · rintro ⟨-, e⟩; omega
  · rw [newR_out hs, rmR_none hp]
    refine h.set h0 h1 hok (h.rm_nd i) (fun p j e => by rw [h.rm_mem]; simp [e]) (fun p => ?_) (newD_nd p' i h.ndD) (fun j a e => newD_oth p' i j a e) (fun a => newD_self p' i a h.ndD)
    rw [h.rm_mem]
    simp [hs]

/-- Another priority, and move was called. -/
theorem RInv.mv {i : Int} {p' : Pr} (b : Bool) (h : RInv ps R D) (h0 : 0 ≤ i) (h1 : i < ps.length) (hok : p'.Ok) (hs : stateR p' = stateR (lookP ps i)) (hub : untilB p' = untilB (lookP ps i)) (hur : untilR p' = untilR (lookP ps i)) :
    RInv (ps.set i.toNat p') (mvR b i (curR p').toNat R) D := by
  have hc := cur_of_ok hok
  have hself : ∀ a, (i, a) ∈ D ↔ untilB p' = true ∧ untilR p' = a := fun a => by
    rw [h.tm, hub, hur]
    exact ⟨fun hh => hh.2.2, fun hh => ⟨h0, h1, hh⟩⟩
  have hno : ∀ p, i ∉ rmR R i p := fun p hm => ((h.rm_mem i p i).1 hm).2 rfl
  cases hp : prio R i with
  | none =>
    rw [mvR_none hp]
    have hn := h.prio_not.1 hp
    refine h.set h0 h1 hok h.nd (fun _ _ _ => Iff.rfl) (fun p => ?_) h.ndD (fun _ _ _ => Iff.rfl) hself
    rw [hs]
    constructor
    · intro hm; exact absurd hm (hn p)
    · rintro ⟨e, -⟩
      have := h.prio_at h0 h1
      rw [hp, if_pos e] at this
      cases this
  | some q =>
    have hq := (h.mem q i).1 (h.prio_iff.1 hp)
    by_cases e : q = (curR p').toNat
    · rw [← e, mvR_same hp]
      refine h.set h0 h1 hok h.nd (fun _ _ _ => Iff.rfl) (fun p => ?_) h.ndD (fun _ _ _ => Iff.rfl) hself
      rw [h.mem, hs]
      constructor
      · rintro ⟨_, _, k1, k2⟩; exact ⟨k1, by omega⟩
      · rintro ⟨k1, k2⟩; exact ⟨h0, h1, k1, by omega⟩
    · rw [mvR_to hp e]
      have hx : ∀ j, j ∈ (if b = true then i :: rmR R i (curR p').toNat else rmR R i (curR p').toNat ++ [i]) ↔ j ∈ rmR R i (curR p').toNat ∨ j = i := fun j => by
        cases b with
        | true => simp; exact or_comm
        | false => simp
      have hxn : (if b = true then i :: rmR R i (curR p').toNat else rmR R i (curR p').toNat ++ [i]).Nodup := by
        cases b with
        | true => simp; exact ⟨hno _, h.rm_nd i _⟩
        | false => exact snoc_nd (h.rm_nd i _) (hno _)
      refine h.set h0 h1 hok (put_nd (h.rm_nd i) hxn) (fun p j e => (put_mem hx p j e).trans (by rw [h.rm_mem]; simp [e])) (fun p => ?_) h.ndD (fun _ _ _ => Iff.rfl) hself
      rw [put_self hx hno, hs]
      constructor
      · rintro rfl; exact ⟨hq.2.2.1, by omega⟩
      · rintro ⟨-, e⟩; omega

/-- A change that nobody sees in the row and the timers. -/
theorem RInv.still {i : Int} {p' : Pr} (h : RInv ps R D) (h0 : 0 ≤ i) (h1 : i < ps.length) (hok : p'.Ok) (hs : stateR p' = stateR (lookP ps i)) (hcu : curR p' = curR (lookP ps i)) (hub : untilB p' = untilB (lookP ps i)) (hur : untilR p' = untilR (lookP ps i)) :
    RInv (ps.set i.toNat p') R D := by
  refine h.set h0 h1 hok h.nd (fun _ _ _ => Iff.rfl) (fun p => ?_) h.ndD (fun _ _ _ => Iff.rfl) (fun a => ?_)
  · rw [h.mem, hs, hcu]
    exact ⟨fun hh => hh.2.2, fun hh => ⟨h0, h1, hh⟩⟩
  · rw [h.tm, hub, hur]
    exact ⟨fun hh => hh.2.2, fun hh => ⟨h0, h1, hh⟩⟩

theorem lookP_map (f : Pr → Pr) (hf : f zeroP = zeroP) (ps : List Pr) (i : Int) : lookP (ps.map f) i = f (lookP ps i) := by
  unfold lookP
  split
  · exact hf.symm
  · rw [List.getElem?_map]
    cases ps[i.toNat]? with
    | none => exact hf.symm
    | some p => rfl

theorem RInv.mark (h : RInv ps R D) (now : Int) : RInv (ps.map (markP now)) R D := by
  have hz : markP now zeroP = zeroP := by
    have hm : missB now zeroP = false := rfl
    unfold markP
    rw [hm]
    rfl
  have e1 : ∀ p, stateR (markP now p) = stateR p ∧ curR (markP now p) = curR p ∧ untilB (markP now p) = untilB p ∧ untilR (markP now p) = untilR p := fun p => by
    unfold markP
    split
    · exact ⟨rfl, rfl, rfl, rfl⟩
    · exact ⟨rfl, rfl, rfl, rfl⟩
  refine ⟨by rw [List.length_map]; exact h.len, fun p hp => ?_, h.nd, fun p i => ?_, h.ndD, fun i a => ?_⟩
  · obtain ⟨q, hq, rfl⟩ := List.mem_map.1 hp
    exact mark_ok now (h.ok q hq)
  · rw [List.length_map, lookP_map _ hz, (e1 _).1, (e1 _).2.1]
    exact h.mem p i
  · rw [List.length_map, lookP_map _ hz, (e1 _).2.2.1, (e1 _).2.2.2]
    exact h.tm i a
end

end Go.Proofs.YtgnjenmicojgnaaGreat
