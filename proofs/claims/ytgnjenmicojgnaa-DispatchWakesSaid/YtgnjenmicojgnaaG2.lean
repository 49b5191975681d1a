/-
  The plain law of one action: the table and the document's slice still say the same, and the error's number is the same.
-/
import Derived.Test.YtgnjenmicojgnaaG1
import Derived.Test.YtgnjenmicojgnaaE4
namespace Go.Proofs.Ytgnjenmicojgnaa
set_option linter.unusedVariables false
set_option linter.unusedSimpArgs false
open Go.RowKit

theorem relL_set {ps : List Pr} {rs : List Rf} {k : Nat} {p : Pr} {r : Rf} (h : RelL ps rs) (hr : Rel p r) : RelL (ps.set k p) (rs.set k r) := by
  refine ⟨by simpa using h.1, fun i x y hx hy => ?_⟩
  rw [List.getElem?_set] at hx hy
  by_cases e : k = i
  · subst e
    rw [if_pos rfl] at hx hy
    split at hx
    · split at hy
      · injection hx with hx
        injection hy with hy
        rw [← hx, ← hy]
        exact hr
      · cases hy
    · cases hx
  · rw [if_neg e] at hx hy
    exact h.2 i x y hx hy

theorem act_in {f : Pr → Option Pr} {may : Bool} {ps : List Pr} {i : Int} {p : Pr} (h0 : 0 ≤ i) (hp : ps[i.toNat]? = some p) : act f may ps i = (ps.set i.toNat (stepP f may p), codeP f may p) := by
  have hl : i.toNat < ps.length := (List.getElem?_eq_some_iff.1 hp).1
  have hset : ps.set i.toNat p = ps := by
    apply List.ext_getElem?
    intro j
    rw [List.getElem?_set]
    by_cases e : i.toNat = j
    · subst e
      rw [if_pos rfl, if_pos hl, hp]
    · rw [if_neg e]
  unfold act stepP codeP
  rw [if_neg (by omega)]
  cases may with
  | false => simp [hset]
  | true =>
    simp only [Bool.true_eq_false, if_false, if_true, hp, Option.bind_some]
    cases hf : f p with
    | none => simp [hset]
    | some p' => simp

theorem act_out {f : Pr → Option Pr} {may : Bool} {ps : List Pr} {i : Int} (h : i < 0 ∨ (ps.length : Int) ≤ i) : act f may ps i = (ps, 9) := by
  unfold act
  rw [if_pos h]

theorem act_rel {f : Pr → Option Pr} {may : Bool} {F : Rf → Rf × Int} (hF : ∀ p r, p.Ok → Rel p r → (F r).2 = codeP f may p ∧ Rel (stepP f may p) (F r).1) {ps : List Pr} {rs : List Rf} (h : RelL ps rs) (hok : ∀ p, p ∈ ps → p.Ok)
    {i : Int} {r : Rf} (h0 : 0 ≤ i) (hr : rs[i.toNat]? = some r) : (act f may ps i).2 = (F r).2 ∧ RelL (act f may ps i).1 (rs.set i.toNat (F r).1) := by
  have hl : i.toNat < rs.length := (List.getElem?_eq_some_iff.1 hr).1
  obtain ⟨p, hp⟩ : ∃ p, ps[i.toNat]? = some p := ⟨_, List.getElem?_eq_getElem (by rw [h.1]; exact hl)⟩
  obtain ⟨h1, h2⟩ := hF p r (hok p (List.mem_of_getElem? hp)) (h.2 _ p r hp hr)
  rw [act_in h0 hp]
  exact ⟨h1.symm, relL_set h h2⟩

theorem done_rel (n : Int) {ps : List Pr} {rs : List Rf} (h : RelL ps rs) (hok : ∀ p, p ∈ ps → p.Ok) {i : Int} {r : Rf} (h0 : 0 ≤ i) (hr : rs[i.toNat]? = some r) :
    (act (doneF n) (tickB n) ps i).2 = (doneRf n r).2.2 ∧ doneR ps i n = (doneRf n r).2.1 ∧ RelL (act (doneF n) (tickB n) ps i).1 (rs.set i.toNat (doneRf n r).1) := by
  have hl : i.toNat < rs.length := (List.getElem?_eq_some_iff.1 hr).1
  obtain ⟨p, hp⟩ : ∃ p, ps[i.toNat]? = some p := ⟨_, List.getElem?_eq_getElem (by rw [h.1]; exact hl)⟩
  obtain ⟨h1, h2, h3⟩ := rel_done n (hok p (List.mem_of_getElem? hp)) (h.2 _ p r hp hr)
  unfold doneR
  rw [act_in h0 hp]
  refine ⟨h1.symm, ?_, relL_set h h3⟩
  rw [h2, hp]
  rfl

theorem charge_rel (n : Int) {ps : List Pr} {rs : List Rf} (h : RelL ps rs) (hok : ∀ p, p ∈ ps → p.Ok) {i : Int} {r : Rf} (h0 : 0 ≤ i) (hr : rs[i.toNat]? = some r) :
    chargeR ps i n = (chargeRf n r).2 ∧ RelL (act (chargeF n) (tickB n) ps i).1 (rs.set i.toNat (chargeRf n r).1) := by
  have hl : i.toNat < rs.length := (List.getElem?_eq_some_iff.1 hr).1
  obtain ⟨p, hp⟩ : ∃ p, ps[i.toNat]? = some p := ⟨_, List.getElem?_eq_getElem (by rw [h.1]; exact hl)⟩
  obtain ⟨h1, h2⟩ := rel_charge n (hok p (List.mem_of_getElem? hp)) (h.2 _ p r hp hr)
  unfold chargeR overR
  rw [act_in h0 hp]
  refine ⟨?_, relL_set h h2⟩
  rw [h1, hp]
  by_cases c0 : codeP (chargeF n) (tickB n) p = 0 <;> simp [c0]

theorem rel_miss {p : Pr} {r : Rf} (now : Int) (h : Rel p r) : missB now p = missR now r ∧ Rel (markP now p) (rmark now r) := by
  have e : missB now p = missR now r := by
    unfold missB missR Pr.busyB
    rw [h.dl, h.st]
    by_cases h1 : p.st = 1 ∨ p.st = 2
    · have n3 : p.st ≠ 3 := by omega
      rw [h.missed n3, h.beg n3]
    · have b1 : (p.st == 1) = false := by simp; omega
      have b2 : (p.st == 2) = false := by simp; omega
      rw [b1, b2]
      simp
  refine ⟨e, ?_⟩
  unfold markP rmark
  rw [← e]
  split
  · exact ⟨h.pri, h.per, h.cap, h.dl, h.off, h.st, h.held, h.base, h.raised, h.til, h.beg, h.used, fun _ => rfl, ⟨h.ok.per, h.ok.cap, h.ok.dl, h.ok.off, h.ok.beg, h.ok.used⟩⟩
  · exact h

theorem miss_ids {ps : List Pr} {rs : List Rf} (now : Int) (h : RelL ps rs) (k : Nat) : idsTo now ps k = ridsTo now rs k := by
  unfold idsTo ridsTo
  congr 1
  apply List.filter_congr
  intro i _
  unfold isMiss risMiss
  cases hp : ps[i]? with
  | none =>
    have : rs[i]? = none := by
      rw [List.getElem?_eq_none_iff] at hp ⊢
      rw [← h.1]
      exact hp
    rw [this]
    rfl
  | some p =>
    have hl : i < ps.length := (List.getElem?_eq_some_iff.1 hp).1
    obtain ⟨r, hr⟩ : ∃ r, rs[i]? = some r := ⟨_, List.getElem?_eq_getElem (by rw [← h.1]; exact hl)⟩
    rw [hr]
    simp [(rel_miss now (h.2 i p r hp hr)).1]

theorem miss_relL {ps : List Pr} {rs : List Rf} (now : Int) (h : RelL ps rs) : RelL (ps.map (markP now)) (rs.map (rmark now)) := by
  refine ⟨by simpa using h.1, fun i x y hx hy => ?_⟩
  rw [List.getElem?_map] at hx hy
  cases hp : ps[i]? with
  | none => rw [hp] at hx; cases hx
  | some p =>
    cases hr : rs[i]? with
    | none => rw [hr] at hy; cases hy
    | some r =>
      rw [hp] at hx
      rw [hr] at hy
      injection hx with hx
      injection hy with hy
      rw [← hx, ← hy]
      exact (rel_miss now (h.2 i p r hp hr)).2

theorem relL_fresh {l : List At} (h : newOk l = true) : RelL (l.map prOf) (l.map rfOf) := by
  refine ⟨by simp, fun i x y hx hy => ?_⟩
  rw [List.getElem?_map] at hx hy
  cases hp : l[i]? with
  | none => rw [hp] at hx; cases hx
  | some a =>
    rw [hp] at hx hy
    injection hx with hx
    injection hy with hy
    rw [← hx, ← hy]
    unfold newOk at h
    rw [Bool.and_eq_true] at h
    exact rel_fresh (List.all_eq_true.1 h.2 a (List.mem_of_getElem? hp))

theorem RowG.apart {w w' : World} {g : Nat} {A : Option Addr} {l : List Rf} (h : RowG w rfC 13 A l) (ha : Apart w.heap.size w w' g) (hne : l.length ≠ 0 → ∀ b o, A = some ⟨b, o, none⟩ → b ≠ g) : RowG w' rfC 13 A l := by
  intro hl
  obtain ⟨b, o, rfl, hb, hc⟩ := h hl
  have hbk := ha.block b hb (hne hl b o rfl)
  exact ⟨b, o, rfl, Nat.lt_of_lt_of_le hb ha.size, fun i a hi k hk => (World.cell?_of_block (w := w) hbk).trans (hc i a hi k hk)⟩

end Go.Proofs.Ytgnjenmicojgnaa
