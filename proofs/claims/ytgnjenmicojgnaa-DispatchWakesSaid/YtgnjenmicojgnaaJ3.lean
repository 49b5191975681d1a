/-
  A list of package ready: what check and Put do.
-/
import Derived.Test.YtgnjenmicojgnaaJ2
namespace Go.Proofs.Ytgnjenmicojgnaa
set_option linter.unusedVariables false
set_option linter.unusedSimpArgs false
open Go.RowKit

theorem Own.sl {w : World} {v : Value} {xs : List Int} (h : Own w v xs) : ∃ a c, v = .slice a xs.length c := by
  rcases h.shape with ⟨h1, rfl⟩ | ⟨g, c, cur, h1, _⟩
  · exact ⟨none, 0, h1⟩
  · exact ⟨_, _, h1⟩

theorem Own.alloc {w : World} {v : Value} {xs : List Int} (h : Own w v xs) (o : Obj) : Own (w.alloc o) v xs := h.keep (fun k hk => Below.heap_alloc w o k (h.lt k hk))

/-- What an operation on a list leaves. -/
def LPost (w : World) (l : Nat) (V : Nat → Value) (R' : Nat → List Int) (v : Value) (e : Ending) (w' : World) : Prop :=
  e = .returned v ∧ ∃ V', Rdy w' l V' R' ∧ Kept w w' (inL l V) ∧ (∀ i, inL l V' i → inL l V i ∨ w.heap.size ≤ i)

theorem prio_is {l : Nat} {V : Nat → Value} {R : Nat → List Int} {id : Int} {w : World} {k : Nat} {b : Bool} (h : Rdy w l V R) (hk : (prio R id).getD 0 = k) (hb : (prio R id).isSome = b) :
    Calls Try.prog 117 #[.pointer (some ⟨l, 0, none⟩), .int .i64 id] w fun e w' => e = .returned (.tuple #[.int .i64 k, .bool b]) ∧ w' = w := by
  have := prio_any l V R id w h
  rw [hk, hb] at this
  exact this

set_option maxRecDepth 100000 in
set_option maxHeartbeats 1000000 in
theorem check_any (l p : Nat) (V : Nat → Value) (R : Nat → List Int) (id : Int) (w : World) (h : Rdy w l V R) (hid : 0 ≤ id) (hp : p < 64) (hno : prio R id = none) :
    Calls Try.prog 121 #[.pointer (some ⟨l, 0, none⟩), .int .i64 id, .int .i64 p] w fun e w' => e = .returned (.int .i64 0) ∧ w' = w := by
  have HR := Lib.hid h
  have HNO := Lib.hid hno
  clear h hno
  go_enter Try.func121, Try.ntmps121
  go_wp2_with fail
  refine (prio_is (k := 0) (b := false) HR.out (by rw [HNO.out]; rfl) (by rw [HNO.out]; rfl)).mono ?_
  rintro e w1 ⟨rfl, rfl⟩
  go_wp2
  go_ret
  exact ⟨rfl, rfl⟩

set_option maxRecDepth 100000 in
set_option maxHeartbeats 1000000 in
theorem put_any (l p : Nat) (V : Nat → Value) (R : Nat → List Int) (id : Int) (w : World) (h : Rdy w l V R) (hid : 0 ≤ id) (hp : p < 64) (hno : prio R id = none) (hl : (R p).length ≤ 1000) :
    Calls Try.prog 106 #[.pointer (some ⟨l, 0, none⟩), .int .i64 id, .int .i64 p] w (LPost w l V (upd R p (R p ++ [id])) (.int .i64 0)) := by
  have HR := Lib.hid h
  have HNO := Lib.hid hno
  clear h hno
  go_enter Try.func106, Try.ntmps106
  go_wp2_with fail
  refine (check_any l p V R id w HR.out hid hp HNO.out).mono ?_
  rintro e w1 ⟨rfl, rfl⟩
  obtain ⟨s, hh, hw⟩ := HR.out.hdr
  have hrow := hh.row hp
  have hll := hh.lt
  have HH := Lib.hid hh
  have HW := Lib.hid hw
  obtain ⟨a, c, hV⟩ := (HR.out.rows p hp).sl
  obtain ⟨v', w2, hrun, ho, hg, hf⟩ := own_append (t := 130) (tx := 130) (ty := 130) Try.underlying130 Try.underlying130 ((HR.out.rows p hp).alloc (.cells #[.int .i64 id] 3)) (x := .slice (some ⟨w1.heap.size, 0, none⟩) 1 1) (ys := [id]) ⟨_, _, rfl, fun _ => ⟨_, rfl, fun j u hu => by
    match j, hu with
    | 0, hu =>
      simp [iv] at hu
      subst hu
      simp [Addr.add]
    | j + 1, hu => simp [iv] at hu⟩⟩ (by simp; omega)
  rw [hV] at hrow hrun hg hf
  obtain ⟨a', c', rfl⟩ := ho.sl
  have hk : Kept w1 w2 (fun i => (V p).ownBlock = some i) := by
    rw [hV]
    exact (Kept.of_below ((Below.refl _ _).alloc (Nat.le_refl _) _)).trans (Kept.of_grown hg (S := fun i => (Value.slice a (R p).length c).ownBlock = some i) (fun i hi => hi)) (fun _ _ hi => hi)
  have hh2 : Hdr w2 l V s := hh.keep (hk.block l hll (HR.out.lne p hp))
  have HH2 := Lib.hid hh2
  have HO := Lib.hid ho
  have HK := Lib.hid hk
  have HF : Hid (∀ k, (Value.slice a' (R p ++ [id]).length c').ownBlock = some k → (V p).ownBlock = some k ∨ w1.heap.size ≤ k) := by
    intro k hk'
    rw [hV]
    rcases hf k hk' with h1 | h1
    · exact .inl h1
    · exact .inr (by simp at h1; omega)
  clear hh hw hV ho hg hf hk hh2
  obtain ⟨n', hn'⟩ : ∃ n', (R p ++ [id]).length = n' := ⟨_, rfl⟩
  rw [hn'] at hrun HO HF
  have HN := Lib.hid hn'
  clear hn'
  go_wp2_with (first | (at_builtin; refine Lib.wpList_append_run _ rfl _ _ _ _ rfl _ _ rfl rfl _ _ hrun ?_))
  refine (note_any l p V s _ a' n' c' w2 HH2.out hp HW.out).mono ?_
  rintro e w3 ⟨rfl, s', hh3, hw3, hk3⟩
  obtain ⟨h1, h2, h3⟩ := HR.out.step hp HK.out HO.out HN.out.symm HF.out hh3 hw3 hk3
  have HP : Hid (LPost w1 l V (upd R p (R p ++ [id])) (.int .i64 0) (.returned (.int .i64 0)) w3) := ⟨rfl, _, h1, h2, h3⟩
  clear hh3 hw3 hk3 h1 h2 h3
  go_wp2
  go_ret
  exact HP.out

end Go.Proofs.Ytgnjenmicojgnaa
