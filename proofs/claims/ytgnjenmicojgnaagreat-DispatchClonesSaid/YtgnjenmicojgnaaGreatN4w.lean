/-
  What the document's Due tells of a slice of timers.
-/
import Derived.Test.YtgnjenmicojgnaaGreatN3w
import Derived.Deep.RegionHeldLaw
namespace Go.Proofs.YtgnjenmicojgnaaGreat
set_option linter.unusedVariables false
set_option linter.unusedSimpArgs false
open Go.RowKit

def srt (xs : List (Int × Int)) : List (Int × Int) := xs.foldl insQ []
def lo (now : Int) (xs : List (Int × Int)) : List (Int × Int) := xs.filter (fun q => decide (q.2 ≤ now))
def hi (now : Int) (xs : List (Int × Int)) : List (Int × Int) := xs.filter (fun q => decide (now < q.2))

theorem srt_snoc (xs : List (Int × Int)) (q : Int × Int) : srt (xs ++ [q]) = insQ (srt xs) q := by unfold srt; rw [List.foldl_append]; rfl
theorem insQ_length (Q : List (Int × Int)) (q : Int × Int) : (insQ Q q).length = Q.length + 1 := by
  unfold insQ
  have := iQ_le Q q.2
  simp
  omega
theorem srt_length (xs : List (Int × Int)) : (srt xs).length = xs.length := by
  have : ∀ (xs : List (Int × Int)) (Q : List (Int × Int)), (xs.foldl insQ Q).length = Q.length + xs.length := by
    intro xs
    induction xs with
    | nil => intro Q; rfl
    | cons a r ih => intro Q; rw [List.foldl_cons, ih, insQ_length, List.length_cons]; omega
  unfold srt
  simpa using this xs []

/-- append of pairs as one step of a region that draws: the slice is this call's own (its block is at B or above). -/
theorem step_appP {ops : Array Oper} {o : Oper} {a : Act} {W w0 : World} {K : Act → World → Prop} {Q : Exit → Act → World → Prop} {E : Prop} {B : Nat} {S : World → Prop}
    (hg : o.guard = none) (s x : Operand) (hop : o.op = Op.call { callee := Callee.builtin Builtin.append, args := #[s, x], argTypes := #[46, 46] })
    {v u : Value} {xs ys : List (Int × Int)} (hs : a.eval s = v) (hx : a.eval x = u) (ho : OwnP 99 W v xs) (hy : ReadsP W u ys) (hl : xs.length + ys.length ≤ 1000) (hf : ∀ b, v.ownBlock = some b → B ≤ b) (hb : Below B w0 W) (hBW : B ≤ W.heap.size) (hS : ∀ W, Below B w0 W → S W)
    (hK : ∀ v' w', OwnP 99 w' v' (xs ++ ys) → (∀ b, v'.ownBlock = some b → B ≤ b) → Below B w0 w' → W.grownBy w' v.ownBlock → S w' → K (a.put o.dst v') w') :
    if Region.wanted o (yielded ops a.tmps) = true then Oper.wp Tryz.prog o a W K Q else E := by
  have hw : Region.wanted o (yielded ops a.tmps) = true := by simp [Region.wanted, hg]
  rw [if_pos hw]
  obtain ⟨v', w', h1, h2, h3, h4⟩ := own_appendP (t := 46) (ty := o.type) Tryz.underlying46 info99 ho hy (by omega)
  have hb' : Below B w0 w' := hb.grown h3 hBW (fun k hk => hf k hk)
  have hf' : ∀ b, v'.ownBlock = some b → B ≤ b := fun b hb'' => by
    rcases h4 b hb'' with h5 | h5
    · exact hf b h5
    · omega
  unfold Oper.wp
  simp [execOp, hop, resolve, invoke, builtin, hs, hx, h1, Result.andThen]
  exact hK v' w' h2 hf' hb' h3 (hS w' hb')

theorem own_nil0 {W : World} {b : Nat} (h : W.heap[b]? = some (.cells #[] 99 (0, 0))) : OwnP 99 W (.slice (some ⟨b, 0, none⟩) 0 0) [] :=
  OwnP.make (qs := []) h rfl (Nat.le_refl _) (Nat.zero_le _) (fun j u hu => by simp [pv, flatG] at hu)

theorem reads_of_own {T : TypeId} {W w1 : World} {g n c k i : Nat} {A0 : Addr} {qs ys : List (Int × Int)} (h : OwnP T w1 (.slice (some ⟨g, 0, none⟩) n c) qs) (hb : Below w1.heap.size w1 W) (hA : A0 = ⟨g, i * 2, none⟩ ∨ ys = []) (hk : ys.length = k) {c' : Nat} (hys : ∀ (j : Nat) (u : Value), (pv ys)[j]? = some u → (pv qs)[i * 2 + j]? = some u) :
    ReadsP W (.slice (some A0) k c') ys := by
  refine ⟨_, _, by rw [hk], fun hne => ⟨_, rfl, fun j u hu => ?_⟩⟩
  rcases hA with rfl | h0
  · rcases h.shape with ⟨h1, _⟩ | ⟨g0, c0, cur, h1, h2, h3, h4, h5, h6⟩
    · cases h1
    · injection h1 with e1 e2 e3
      injection e1 with e1
      injection e1 with e1
      subst e1
      rw [Addr.add_lit, hb.cell (p := ⟨g, i * 2 + j, none⟩) (Array.getElem?_eq_some_iff.1 h2).1, cell_of_row w1 g _ cur T (0, 0) h2]
      exact h6 _ _ (hys j u hu)
  · exact absurd h0 hne

theorem heap_new2 (w : World) (o o' : Obj) : ((w.drew.alloc o).alloc o').heap[w.heap.size + 1]? = some o' := by
  have := heap_alloc_new (w.drew.alloc o) o'
  simpa using this
theorem heap_new1 (w : World) (o o' : Obj) : ((w.drew.alloc o).alloc o').heap[w.heap.size]? = some o :=
  (Below.heap_alloc (w.drew.alloc o) o' w.heap.size (by simp)).trans (heap_alloc_new w.drew o)

theorem reads_nil (W : World) (c : Nat) : ReadsP W (.slice none 0 c) [] := ⟨_, _, rfl, fun h => absurd rfl h⟩

end Go.Proofs.YtgnjenmicojgnaaGreat
