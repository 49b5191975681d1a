/-
  A Dispatch and a World beside each other in memory.
-/
import Derived.Test.YtgnjenmicojgnaaGreatS4w
import Derived.Test.YtgnjenmicojgnaaGreatT4w
import Derived.StillTailTactics
namespace Go.Proofs.YtgnjenmicojgnaaGreat
set_option linter.unusedVariables false
set_option linter.unusedSimpArgs false
open Go.RowKit

/-- Where a Dispatch and a World lie; the slices that turn. -/
structure Ad where
  d : Nat
  t : Nat
  g : Nat
  c : Nat
  l : Nat
  m : Nat
  x : Nat
  t2 : Nat
  g2 : Nat
  c2 : Nat
structure Vs where
  V : Nat → Value
  v : Value
  vE : Value
  vD : Value

def iD (A : Ad) (U : Vs) (i : Nat) : Prop := inD A.d A.t A.g A.l A.m U.V U.v i
def iW (A : Ad) (U : Vs) (i : Nat) : Prop := inW A.x A.t2 A.g2 U.vE U.vD i
def iM (A : Ad) (U : Vs) (i : Nat) : Prop := iD A U i ∨ i = A.x ∨ i = A.g2
def iP (A : Ad) (U : Vs) (i : Nat) : Prop := iD A U i ∨ iW A U i

structure Duo (w : World) (A : Ad) (U : Vs) (psD : List Pr) (R : Nat → List Int) (Q : List (Int × Int)) (psW : List Pr) (E D : List (Int × Int)) (now : Int) : Prop where
  dsp : Dsp w A.d A.t A.g A.c A.l A.m U.V U.v psD R Q
  wld : Wld w A.x A.t2 A.g2 A.c2 U.vE U.vD psW E D now
  dis : ∀ i, iD A U i → ¬ iW A U i

structure Fr (w w' : World) (A : Ad) (U U' : Vs) : Prop where
  k : Kept w w' (iM A U)
  m : ∀ i, iM A U' i → iM A U i ∨ w.heap.size ≤ i
  p : ∀ i, iP A U' i → iP A U i ∨ w.heap.size ≤ i

theorem Fr.refl (w : World) (A : Ad) (U : Vs) : Fr w w A U U := ⟨Kept.refl _ _, fun i hi => .inl hi, fun i hi => .inl hi⟩
theorem Fr.below {w w' : World} (A : Ad) (U : Vs) (h : Below w.heap.size w w') : Fr w w' A U U := ⟨Kept.of_below h, fun i hi => .inl hi, fun i hi => .inl hi⟩
theorem Fr.trans {w w1 w' : World} {A : Ad} {U U1 U' : Vs} (h : Fr w w1 A U U1) (h' : Fr w1 w' A U1 U') : Fr w w' A U U' := by
  refine ⟨h.k.trans h'.k (fun i hi h4 => ?_), fun i hi => ?_, fun i hi => ?_⟩
  · rcases h.m i h4 with h5 | h5
    · exact h5
    · omega
  · rcases h'.m i hi with h5 | h5
    · exact h.m i h5
    · exact .inr (Nat.le_trans h.k.size h5)
  · rcases h'.p i hi with h5 | h5
    · exact h.p i h5
    · exact .inr (Nat.le_trans h.k.size h5)

section
variable {w w' : World} {A : Ad} {U : Vs} {psD psD' psW psW' : List Pr} {R R' : Nat → List Int} {Q Q' E E' D D' : List (Int × Int)} {now now' : Int}

theorem Duo.lt (h : Duo w A U psD R Q psW E D now) {i : Nat} (hi : iP A U i) : i < w.heap.size := by
  rcases hi with hi | hi
  · exact h.dsp.lt hi
  · exact h.wld.lt hi
theorem Duo.below (h : Duo w A U psD R Q psW E D now) (hb : Below w.heap.size w w') : Duo w' A U psD R Q psW E D now := ⟨h.dsp.below hb, h.wld.below hb, h.dis⟩
theorem iM_iP {i : Nat} (h : iM A U i) : iP A U i := by
  rcases h with h | h | h
  · exact .inl h
  · exact .inr (.inl h)
  · exact .inr (.inr (.inr (.inl h)))
theorem Duo.kept (h : Duo w A U psD R Q psW E D now) {S : Nat → Prop} (hk : Kept w w' S) (hs : ∀ i, iP A U i → ¬ S i) : Duo w' A U psD R Q psW E D now :=
  ⟨h.dsp.kept hk (fun i hi => hs i (.inl hi)), h.wld.kept hk (fun i hi => hs i (.inr hi)), h.dis⟩

/-- A call of the Dispatch. -/
theorem Duo.dpost {r : Value} {e : Ending} (h : Duo w A U psD R Q psW E D now) (hp : DPost w A.d A.t A.g A.c A.l A.m U.V U.v psD' R' Q' r e w') :
    e = .returned r ∧ ∃ U', U'.vE = U.vE ∧ U'.vD = U.vD ∧ Duo w' A U' psD' R' Q' psW E D now ∧ Fr w w' A U U' := by
  obtain ⟨he, V', v', hd, hk, hn⟩ := hp
  have hW := h.wld.kept hk (fun i hi hs => h.dis i hs hi)
  refine ⟨he, ⟨V', v', U.vE, U.vD⟩, rfl, rfl, ⟨hd, hW, fun i hi hw => ?_⟩, ⟨hk.mono (fun i _ hi => .inl hi), fun i hi => ?_, fun i hi => ?_⟩⟩
  · rcases hn i hi with h5 | h5
    · exact h.dis i h5 hw
    · have := h.wld.lt hw
      omega
  · rcases hi with hi | hi
    · exact (hn i hi).imp (fun h => .inl h) id
    · exact .inl (.inr hi)
  · rcases hi with hi | hi
    · exact (hn i hi).imp (fun h => .inl h) id
    · exact .inl (.inr hi)

/-- A call of the World. -/
theorem Duo.wpost {r : Value} {e : Ending} (h : Duo w A U psD R Q psW E D now) (hp : WPost w A.x A.t2 A.g2 A.c2 U.vE U.vD psW' E' D' now' r e w') :
    e = .returned r ∧ ∃ U', Duo w' A U' psD R Q psW' E' D' now' ∧ Fr w w' A U U' := by
  obtain ⟨he, vE', vD', hw, hk, h1, h2⟩ := hp
  have hD := h.dsp.kept hk (fun i hi hs => h.dis i hi (by
    rcases hs with hs | hs
    · exact .inl hs
    · exact .inr (.inr (.inl hs))))
  have hn : ∀ i, inW A.x A.t2 A.g2 vE' vD' i → iW A U i ∨ w.heap.size ≤ i := by
    rintro i (hi | hi | hi | hi | hi)
    · exact .inl (.inl hi)
    · exact .inl (.inr (.inl hi))
    · exact .inl (.inr (.inr (.inl hi)))
    · exact (h1 i hi).imp (fun h => .inr (.inr (.inr (.inl h)))) id
    · exact (h2 i hi).imp (fun h => .inr (.inr (.inr (.inr h)))) id
  refine ⟨he, ⟨U.V, U.v, vE', vD'⟩, ⟨hD, hw, fun i hi hw' => ?_⟩, ⟨hk.mono (fun i _ hi => .inr hi), fun i hi => ?_, fun i hi => ?_⟩⟩
  · rcases hn i hw' with h5 | h5
    · exact h.dis i hi h5
    · have := h.dsp.lt hi
      omega
  · rcases hi with hi | hi
    · exact .inl (.inl hi)
    · exact .inl (.inr hi)
  · rcases hi with hi | hi
    · exact .inl (.inl hi)
    · exact (hn i hi).imp (fun h => .inr h) id

theorem Duo.tick (h : Duo w A U psD R Q psW E D now) (n : Int) : Duo (w.setCell ⟨A.x, 3, none⟩ (.int .i64 n)) A U psD R Q psW E D n ∧ Fr w (w.setCell ⟨A.x, 3, none⟩ (.int .i64 n)) A U U := by
  obtain ⟨hw, hk⟩ := h.wld.setNow n
  have hD := h.dsp.kept hk (fun i hi hs => h.dis i hi (by
    rcases hs with hs | hs
    · exact .inl hs
    · exact .inr (.inr (.inl hs))))
  exact ⟨⟨hD, hw, h.dis⟩, ⟨hk.mono (fun i _ hi => .inr hi), fun i hi => .inl hi, fun i hi => .inl hi⟩⟩
end

/-- The operation that a statement is handed, in a block of its own. -/
structure OpAt (w : World) (b : Nat) (kd i n by' : Int) : Prop where
  c0 : w.cell? ⟨b, 0, none⟩ = some (.int .i64 kd)
  c1 : w.cell? ⟨b, 1, none⟩ = some (.int .i64 i)
  c2 : w.cell? ⟨b, 2, none⟩ = some (.int .i64 n)
  c3 : w.cell? ⟨b, 3, none⟩ = some (.int .i64 by')
  lt : b < w.heap.size
theorem OpAt.block {w w' : World} {b : Nat} {kd i n by' : Int} (h : OpAt w b kd i n by') (hb : w'.heap[b]? = w.heap[b]?) (hs : w.heap.size ≤ w'.heap.size) : OpAt w' b kd i n by' := by
  have hc : ∀ j, w'.cell? ⟨b, j, none⟩ = w.cell? ⟨b, j, none⟩ := fun j => World.cell?_of_block (a := ⟨b, j, none⟩) hb
  exact ⟨(hc 0).trans h.c0, (hc 1).trans h.c1, (hc 2).trans h.c2, (hc 3).trans h.c3, Nat.lt_of_lt_of_le h.lt hs⟩
theorem OpAt.below {w w' : World} {b : Nat} {kd i n by' : Int} (h : OpAt w b kd i n by') (hb : Below w.heap.size w w') : OpAt w' b kd i n by' := h.block (hb.block b h.lt) hb.size
theorem OpAt.fr {w w' : World} {A : Ad} {U U' : Vs} {b : Nat} {kd i n by' : Int} (h : OpAt w b kd i n by') (hf : Fr w w' A U U') (hn : ¬ iM A U b) : OpAt w' b kd i n by' := h.block (hf.k.block b h.lt hn) hf.k.size

theorem mod_u (x m : Int) (hm : 0 < m) (hm2 : m ≤ 100) : ∃ k : Int, wrap64 ((IntKind.u64.wrap x).tmod m) = k ∧ 0 ≤ k ∧ k < m := by
  have h1 : 0 ≤ IntKind.u64.wrap x := by
    simp [IntKind.wrap, IntKind.bits, IntKind.signed]
    omega
  have h2 := Int.tmod_nonneg m h1
  have h3 := Int.tmod_lt_of_pos (IntKind.u64.wrap x) hm
  generalize (IntKind.u64.wrap x).tmod m = y at *
  refine ⟨y, ?_, by omega, by omega⟩
  unfold wrap64
  omega

/-- What Do answers and leaves. -/
def DoPost (w : World) (A : Ad) (U : Vs) (n0 : Nat) (now : Int) (e : Ending) (w' : World) : Prop :=
  ∃ U' ps' R' D' nw, e = .returned (.bool true) ∧ Duo w' A U' ps' R' (srt D') ps' (rowE R') D' nw ∧ RInv ps' R' D' ∧ ps'.length = n0 ∧ now ≤ nw ∧ nw ≤ now + 2 ∧ Fr w w' A U U'

end Go.Proofs.YtgnjenmicojgnaaGreat
