/-
  Rows of whatever elements, and what Attrs makes of a list of at most 20 attributes.
-/
import Derived.Test.YtgnjenmicojgnaaGreatQb
namespace Go.Proofs.YtgnjenmicojgnaaGreat
set_option linter.unusedVariables false
set_option linter.unusedSimpArgs false
open Go.RowKit

section
variable {α : Type} {f : α → List Value} {s : Nat}
def flatG (f : α → List Value) (l : List α) : List Value := l.flatMap f

theorem flatG_length (h : ∀ a, (f a).length = s) (l : List α) : (flatG f l).length = l.length * s := by
  unfold flatG
  induction l with
  | nil => simp
  | cons a l ih => rw [List.flatMap_cons, List.length_append, ih, h, List.length_cons, Nat.add_mul]; omega

theorem flatG_get (h : ∀ a, (f a).length = s) : ∀ (l : List α) (i k : Nat) (a : α), l[i]? = some a → k < s → (flatG f l)[i * s + k]? = (f a)[k]?
  | [], i, k, a, hi, _ => by simp at hi
  | b :: l, 0, k, a, hi, hk => by
    simp at hi
    subst hi
    unfold flatG
    rw [List.flatMap_cons, Nat.zero_mul, Nat.zero_add, List.getElem?_append_left (by rw [h]; exact hk)]
  | b :: l, i + 1, k, a, hi, hk => by
    have ih := flatG_get h l i k a (by simpa using hi) hk
    unfold flatG at ih ⊢
    have hs : s ≤ (i + 1) * s := Nat.le_mul_of_pos_left s (by omega)
    rw [List.flatMap_cons, List.getElem?_append_right (by rw [h]; omega)]
    have e : (i + 1) * s + k - (f b).length = i * s + k := by rw [h, Nat.add_mul]; omega
    rw [e]
    exact ih

theorem flatG_snoc (l : List α) (a : α) : flatG f (l ++ [a]) = flatG f l ++ f a := by simp [flatG]

/-- A slice (address A) that reads as the elements l. -/
def RowG (w : World) (f : α → List Value) (s : Nat) (A : Option Addr) (l : List α) : Prop :=
  l.length ≠ 0 → ∃ b o, A = some ⟨b, o, none⟩ ∧ b < w.heap.size ∧ ∀ i a, l[i]? = some a → ∀ k, k < s → w.cell? ⟨b, o + i * s + k, none⟩ = (f a)[k]?

theorem RowG.below {w w' : World} {A : Option Addr} {l : List α} (h : RowG w f s A l) (hb : Below w.heap.size w w') : RowG w' f s A l := by
  intro hl
  obtain ⟨b, o, rfl, hbl, hc⟩ := h hl
  exact ⟨b, o, rfl, Nat.lt_of_lt_of_le hbl hb.size, fun i a hi k hk => (hb.cell (p := ⟨b, o + i * s + k, none⟩) hbl).trans (hc i a hi k hk)⟩

theorem rowG_of_own {w : World} {base T n : Nat} {v : Value} {l : List α} (hf : ∀ a, (f a).length = s) (hn : n = l.length) (h : w.ownsRow base T s v n (flatG f l)) :
    ∃ A c, v = .slice A n c ∧ RowG w f s A l ∧ (n ≠ 0 → ∃ b, A = some ⟨b, 0, none⟩ ∧ base ≤ b) := by
  rcases h.2 with ⟨rfl, h0⟩ | ⟨g, cap, cur, rfl, hg, hc, hr⟩
  · exact ⟨none, 0, by rw [h0], fun hl => absurd (hn.symm.trans h0) hl, fun hz => absurd h0 hz⟩
  · refine ⟨some ⟨g, 0, none⟩, cap, rfl, fun hl => ⟨g, 0, rfl, Row.lt ⟨_, hc⟩, fun i a hi k hk => ?_⟩, fun _ => ⟨g, rfl, hg⟩⟩
    have hil : i < l.length := (List.getElem?_eq_some_iff.1 hi).1
    have hle : (i + 1) * s ≤ n * s := Nat.mul_le_mul_right s (by omega)
    rw [Nat.add_mul] at hle
    rw [Nat.zero_add, ← flatG_get hf l i k a hi hk]
    exact h.cellAt (i * s + k) (by omega)

theorem rowG_news {w : World} {b o : Nat} {l : List α} (hs : 0 < s) (hf : ∀ a, (f a).length = s) (hc : ∀ i a, l[i]? = some a → ∀ k, k < s → w.cell? ⟨b, o + i * s + k, none⟩ = (f a)[k]?) :
    ∀ j u, (flatG f l)[j]? = some u → w.cell? ((⟨b, o, none⟩ : Addr).add j) = some u := by
  intro j u hu
  have hj : j < l.length * s := by
    have := (List.getElem?_eq_some_iff.1 hu).1
    rwa [flatG_length hf] at this
  have hadd : (⟨b, o, none⟩ : Addr).add j = ⟨b, o + j, none⟩ := by unfold Addr.add; split <;> simp_all
  have hi : j / s < l.length := by rw [Nat.div_lt_iff_lt_mul hs]; exact hj
  have hp : l[j / s]? = some l[j / s] := List.getElem?_eq_getElem hi
  have hk : j % s < s := Nat.mod_lt _ hs
  have e := hc _ _ hp (j % s) hk
  have g := flatG_get hf l (j / s) (j % s) _ hp hk
  have hjj : j / s * s + j % s = j := by rw [Nat.mul_comm]; exact Nat.div_add_mod j s
  rw [hjj] at g
  rw [Nat.add_assoc, hjj] at e
  rw [hadd, e, ← g, hu]
end

def atC (a : At) : List Value := [.int .i64 a.pri, .int .i64 a.per, .int .i64 a.cap, .int .i64 a.dl, .int .i64 a.off]
theorem atC_length (a : At) : (atC a).length = 5 := rfl

theorem AtRow.of_rowG {w : World} {A : Option Addr} {l : List At} (h : RowG w atC 5 A l) : AtRow w A l := by
  intro hl
  obtain ⟨b, o, rfl, hb, hc⟩ := h hl
  exact ⟨b, o, rfl, hb, fun k a hk => ⟨hc k a hk 0 (by omega), hc k a hk 1 (by omega), hc k a hk 2 (by omega), hc k a hk 3 (by omega), hc k a hk 4 (by omega)⟩⟩

theorem AtRow.below {w w' : World} {A : Option Addr} {l : List At} (h : AtRow w A l) (hb : Below w.heap.size w w') : AtRow w' A l := by
  intro hl
  obtain ⟨b, o, rfl, hbl, hc⟩ := h hl
  refine ⟨b, o, rfl, Nat.lt_of_lt_of_le hbl hb.size, fun k a hk => ?_⟩
  obtain ⟨h0, h1, h2, h3, h4⟩ := hc k a hk
  exact ⟨(hb.cell (p := ⟨b, _, none⟩) hbl).trans h0, (hb.cell (p := ⟨b, _, none⟩) hbl).trans h1, (hb.cell (p := ⟨b, _, none⟩) hbl).trans h2, (hb.cell (p := ⟨b, _, none⟩) hbl).trans h3, (hb.cell (p := ⟨b, _, none⟩) hbl).trans h4⟩

theorem info65 : (Tryz.prog.info? 65).map (fun i => (i.zero, i.size, i.bytes)) = some (some (.agg #[.int .i64 0, .int .i64 0, .int .i64 0, .int .i64 0, .int .i64 0]), 5, 40) := by kernel_rfl

def AttrsRel (w : World) (l : List At) (k : Nat) (v : Value) (wr : World) : Prop := wr.ownsRow w.heap.size 65 5 v k (flatG atC (l.take k)) ∧ Below w.heap.size w wr
def AttrsPost (w : World) (l : List At) (n : Nat) (e : Ending) (w' : World) : Prop := ∃ A c, e = .returned (.slice A n c) ∧ AtRow w' A l ∧ Below w.heap.size w w'

end Go.Proofs.YtgnjenmicojgnaaGreat
