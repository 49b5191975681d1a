/-
  Two tables side by side, each with the document's slice; what an act on the first does to both.
-/
import Derived.Test.YtgnjenmicojgnaaH6
namespace Go.Proofs.Ytgnjenmicojgnaa
set_option linter.unusedVariables false
set_option linter.unusedSimpArgs false
open Go.RowKit

structure Two (w : World) (n t g c : Nat) (A : Addr) (ps : List Pr) (rs : List Rf) (t2 g2 c2 : Nat) (A2 : Addr) (ps2 : List Pr) (rs2 : List Rf) : Prop where
  b1 : Both w t g c A n ps rs
  b2 : Both w t2 g2 c2 A2 n ps2 rs2
  n1 : t ≠ g2
  n2 : t2 ≠ g
  n3 : g ≠ g2
  n4 : n ≠ 0 → A.block ≠ g2
  n5 : n ≠ 0 → A2.block ≠ g

section
variable {w w' : World} {n t g c : Nat} {A : Addr} {ps : List Pr} {rs : List Rf} {t2 g2 c2 : Nat} {A2 : Addr} {ps2 : List Pr} {rs2 : List Rf}

theorem Two.symm (h : Two w n t g c A ps rs t2 g2 c2 A2 ps2 rs2) : Two w n t2 g2 c2 A2 ps2 rs2 t g c A ps rs :=
  ⟨h.b2, h.b1, h.n2, h.n1, h.n3.symm, h.n5, h.n4⟩

theorem Two.below (h : Two w n t g c A ps rs t2 g2 c2 A2 ps2 rs2) (hb : Below w.heap.size w w') : Two w' n t g c A ps rs t2 g2 c2 A2 ps2 rs2 :=
  ⟨h.b1.below hb, h.b2.below hb, h.n1, h.n2, h.n3, h.n4, h.n5⟩

theorem Two.alloc (h : Two w n t g c A ps rs t2 g2 c2 A2 ps2 rs2) (o : Obj) : Two (w.alloc o) n t g c A ps rs t2 g2 c2 A2 ps2 rs2 :=
  h.below ((Below.refl _ _).alloc (Nat.le_refl _) o)

theorem Two.step (h : Two w n t g c A ps rs t2 g2 c2 A2 ps2 rs2) {c' : Nat} {b : Addr} {ps' : List Pr} {rs' : List Rf} (h' : Both w' t g c' b n ps' rs') (ha : Apart w.heap.size w w' g) (hb : b = A ∨ w.heap.size ≤ b.block) : Two w' n t g c' b ps' rs' t2 g2 c2 A2 ps2 rs2 := by
  refine ⟨h', h.b2.apart ha h.n2 h.n3.symm h.n5, h.n1, h.n2, h.n3, fun hz => ?_, h.n5⟩
  rcases hb with rfl | hb
  · exact h.n4 hz
  · have := h.b2.gl
    omega

def TwoPost (w : World) (n t g c : Nat) (A : Addr) (t2 g2 c2 : Nat) (A2 : Addr) (ps2 : List Pr) (rs2 : List Rf) (e : Ending) (w' : World) : Prop :=
  ∃ b c' ps' rs', e = .returned (.tuple #[.slice (some b) n c', .bool true]) ∧ Two w' n t g c b ps' rs' t2 g2 c2 A2 ps2 rs2 ∧ Apart w.heap.size w w' g

theorem do_two (h : Two w n t g c A ps rs t2 g2 c2 A2 ps2 rs2) {cc : Nat} {d i x : Int} (hd : 0 ≤ d ∧ d ≤ 255) :
    Calls Try.prog 23 #[.pointer (some ⟨t, 0, none⟩), .slice (some A) n cc, .agg #[.int .u8 d, .int .i64 i, .int .i64 x]] w (TwoPost w n t g c A t2 g2 c2 A2 ps2 rs2) := by
  refine (do_both h.b1 hd).mono ?_
  rintro e w' ⟨b, c', ps', rs', rfl, hB, ha, hb⟩
  exact ⟨b, c', ps', rs', rfl, h.step hB ha hb, ha⟩

theorem same_two {x : Bool} (hx : rsameL rs rs2 = x) (h : Two w n t g c A ps rs t2 g2 c2 A2 ps2 rs2) :
    Calls Try.prog 24 #[.pointer (some ⟨t, 0, none⟩), .pointer (some ⟨t2, 0, none⟩)] w fun e w' => e = .returned (.bool x) ∧ Below w.heap.size w w' :=
  same_is ((same_rel h.b1.ok h.b2.ok h.b1.rel h.b2.rel).trans hx) h.b1.T h.b2.T

theorem same_two' {x : Bool} (hx : rsameL rs rs2 = x) (h : Two w n t g c A ps rs t2 g2 c2 A2 ps2 rs2) :
    Calls Try.prog 24 #[.pointer (some ⟨t2, 0, none⟩), .pointer (some ⟨t, 0, none⟩)] w fun e w' => e = .returned (.bool x) ∧ Below w.heap.size w w' :=
  same_is ((same_symm ps ps2).trans ((same_rel h.b1.ok h.b2.ok h.b1.rel h.b2.rel).trans hx)) h.b2.T h.b1.T

theorem rsame_two {x : Bool} {cc cc2 : Nat} (hn : n ≤ 1000) (hx : rsameL rs rs2 = x) (h : Two w n t g c A ps rs t2 g2 c2 A2 ps2 rs2) :
    Calls Try.prog 25 #[.slice (some A) n cc, .slice (some A2) n cc2] w fun e w' => e = .returned (.bool x) ∧ Below w.heap.size w w' := by
  subst hx
  exact rsame_any A A2 n n cc cc2 rs rs2 w h.b1.len h.b2.len h.b1.R h.b2.R hn

theorem same_one (h : Two w n t g c A ps rs t2 g2 c2 A2 ps2 rs2) :
    Calls Try.prog 24 #[.pointer (some ⟨t, 0, none⟩), .pointer (some ⟨t, 0, none⟩)] w fun e w' => e = .returned (.bool true) ∧ Below w.heap.size w w' :=
  same_is (same_self ps) h.b1.T h.b1.T

theorem Acts.below {w w' : World} {A : Option Addr} {l : List ActV} (h : Acts w A l) (hb : Below w.heap.size w w') : Acts w' A l := by
  intro hl
  obtain ⟨b, o, rfl, hbl, hel⟩ := h hl
  refine ⟨b, o, rfl, Nat.lt_of_lt_of_le hbl hb.size, fun k x hx => ?_⟩
  obtain ⟨h0, h1, h2, h3⟩ := hel k x hx
  exact ⟨(hb.cell (p := ⟨b, _, none⟩) hbl).trans h0, (hb.cell (p := ⟨b, _, none⟩) hbl).trans h1, (hb.cell (p := ⟨b, _, none⟩) hbl).trans h2, h3⟩
end

end Go.Proofs.Ytgnjenmicojgnaa
