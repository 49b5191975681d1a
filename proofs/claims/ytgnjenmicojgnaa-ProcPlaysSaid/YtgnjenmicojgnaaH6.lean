/-
  What do answers, whatever the act; and what the loops over acts keep.
-/
import Derived.Test.YtgnjenmicojgnaaG0
import Derived.Test.YtgnjenmicojgnaaF1
import Derived.Test.YtgnjenmicojgnaaG5
import Derived.Test.YtgnjenmicojgnaaG6
import Derived.Test.YtgnjenmicojgnaaG7
import Derived.Test.YtgnjenmicojgnaaG8
import Derived.Test.YtgnjenmicojgnaaH1
import Derived.Test.YtgnjenmicojgnaaH2
import Derived.Test.YtgnjenmicojgnaaH3
import Derived.Test.YtgnjenmicojgnaaH4
import Derived.Test.YtgnjenmicojgnaaH5
namespace Go.Proofs.Ytgnjenmicojgnaa
set_option linter.unusedVariables false
set_option linter.unusedSimpArgs false
open Go.RowKit

theorem do_any (t g c : Nat) (A : Addr) (n cc : Nat) (ps : List Pr) (rs : List Rf) (d i x : Int) (w : World) (hn : rs.length = n) (hd : 0 ≤ d ∧ d ≤ 255) (hT : Tab w t g c ps) (hR : RowG w rfC 13 (some A) rs) (hrel : RelL ps rs) (hok : ∀ p, p ∈ ps → p.Ok)
    (hne : rs.length ≠ 0 → A.block ≠ g) (hg : g < w.heap.size) :
    Calls Try.prog 23 #[.pointer (some ⟨t, 0, none⟩), .slice (some A) n cc, .agg #[.int .u8 d, .int .i64 i, .int .i64 x]] w (DoPost w t g c n A) := by
  obtain ⟨m, hlt, hm⟩ : ∃ m : Nat, m < 16 ∧ d % 16 = m := ⟨(d % 16).toNat, by omega, by omega⟩
  by_cases h1 : i < 0
  · match m, hlt, hm with
    | 0, _, hm => exact out_start0n t g c A n cc ps rs d i x w hn hd hm hT hR hrel hok hne hg h1
    | 1, _, hm => exact out_start1n t g c A n cc ps rs d i x w hn hd hm hT hR hrel hok hne hg h1
    | 2, _, hm => exact out_stop2n t g c A n cc ps rs d i x w hn hd hm hT hR hrel hok hne hg h1
    | 3, _, hm => exact out_susp3n t g c A n cc ps rs d i x w hn hd hm hT hR hrel hok hne hg h1
    | 4, _, hm => exact out_resu4n t g c A n cc ps rs d i x w hn hd hm hT hR hrel hok hne hg h1
    | 5, _, hm => exact out_wait5n t g c A n cc ps rs d i x w hn hd hm hT hR hrel hok hne hg h1
    | 6, _, hm => exact out_wake6n t g c A n cc ps rs d i x w hn hd hm hT hR hrel hok hne hg h1
    | 7, _, hm => exact out_done7n t g c A n cc ps rs d i x w hn hd hm hT hR hrel hok hne hg h1
    | 8, _, hm => exact out_done8n t g c A n cc ps rs d i x w hn hd hm hT hR hrel hok hne hg h1
    | 9, _, hm => exact out_rele9n t g c A n cc ps rs d i x w hn hd hm hT hR hrel hok hne hg h1
    | 10, _, hm => exact out_rele10n t g c A n cc ps rs d i x w hn hd hm hT hR hrel hok hne hg h1
    | 11, _, hm => exact out_charge11n t g c A n cc ps rs d i x w hn hd hm hT hR hrel hok hne hg h1
    | 12, _, hm => exact out_charge12n t g c A n cc ps rs d i x w hn hd hm hT hR hrel hok hne hg h1
    | 13, _, hm => exact do_miss t g c A n cc ps rs d i x w hn hd hm hT hR hrel hok hne
    | 14, _, hm => exact out_setp14n t g c A n cc ps rs d i x w hn hd hm hT hR hrel hok hne hg h1
    | 15, _, hm => exact out_rais15n t g c A n cc ps rs d i x w hn hd hm hT hR hrel hok hne hg h1
    | m + 16, h, _ => exact absurd h (by omega)
  · by_cases h2 : (n : Int) ≤ i
    · match m, hlt, hm with
      | 0, _, hm => exact out_start0p t g c A n cc ps rs d i x w hn hd hm hT hR hrel hok hne hg ⟨by omega, h2⟩
      | 1, _, hm => exact out_start1p t g c A n cc ps rs d i x w hn hd hm hT hR hrel hok hne hg ⟨by omega, h2⟩
      | 2, _, hm => exact out_stop2p t g c A n cc ps rs d i x w hn hd hm hT hR hrel hok hne hg ⟨by omega, h2⟩
      | 3, _, hm => exact out_susp3p t g c A n cc ps rs d i x w hn hd hm hT hR hrel hok hne hg ⟨by omega, h2⟩
      | 4, _, hm => exact out_resu4p t g c A n cc ps rs d i x w hn hd hm hT hR hrel hok hne hg ⟨by omega, h2⟩
      | 5, _, hm => exact out_wait5p t g c A n cc ps rs d i x w hn hd hm hT hR hrel hok hne hg ⟨by omega, h2⟩
      | 6, _, hm => exact out_wake6p t g c A n cc ps rs d i x w hn hd hm hT hR hrel hok hne hg ⟨by omega, h2⟩
      | 7, _, hm => exact out_done7p t g c A n cc ps rs d i x w hn hd hm hT hR hrel hok hne hg ⟨by omega, h2⟩
      | 8, _, hm => exact out_done8p t g c A n cc ps rs d i x w hn hd hm hT hR hrel hok hne hg ⟨by omega, h2⟩
      | 9, _, hm => exact out_rele9p t g c A n cc ps rs d i x w hn hd hm hT hR hrel hok hne hg ⟨by omega, h2⟩
      | 10, _, hm => exact out_rele10p t g c A n cc ps rs d i x w hn hd hm hT hR hrel hok hne hg ⟨by omega, h2⟩
      | 11, _, hm => exact out_charge11p t g c A n cc ps rs d i x w hn hd hm hT hR hrel hok hne hg ⟨by omega, h2⟩
      | 12, _, hm => exact out_charge12p t g c A n cc ps rs d i x w hn hd hm hT hR hrel hok hne hg ⟨by omega, h2⟩
      | 13, _, hm => exact do_miss t g c A n cc ps rs d i x w hn hd hm hT hR hrel hok hne
      | 14, _, hm => exact out_setp14p t g c A n cc ps rs d i x w hn hd hm hT hR hrel hok hne hg ⟨by omega, h2⟩
      | 15, _, hm => exact out_rais15p t g c A n cc ps rs d i x w hn hd hm hT hR hrel hok hne hg ⟨by omega, h2⟩
      | m + 16, h, _ => exact absurd h (by omega)
    · have hne' : A.block ≠ g := hne (by omega)
      match m, hlt, hm with
      | 0, _, hm => exact do_start0 t g c A n cc ps rs d i x w hn hd hm hT hR hrel hok hne' hg ⟨by omega, by omega⟩
      | 1, _, hm => exact do_start1 t g c A n cc ps rs d i x w hn hd hm hT hR hrel hok hne' hg ⟨by omega, by omega⟩
      | 2, _, hm => exact do_start t g c A n cc ps rs d i x w hn hd hm hT hR hrel hok hne' hg ⟨by omega, by omega⟩
      | 3, _, hm => exact do_susp3 t g c A n cc ps rs d i x w hn hd hm hT hR hrel hok hne' hg ⟨by omega, by omega⟩
      | 4, _, hm => exact do_resu4 t g c A n cc ps rs d i x w hn hd hm hT hR hrel hok hne' hg ⟨by omega, by omega⟩
      | 5, _, hm => exact do_wait5 t g c A n cc ps rs d i x w hn hd hm hT hR hrel hok hne' hg ⟨by omega, by omega⟩
      | 6, _, hm => exact do_wake6 t g c A n cc ps rs d i x w hn hd hm hT hR hrel hok hne' hg ⟨by omega, by omega⟩
      | 7, _, hm => exact do_done7 t g c A n cc ps rs d i x w hn hd hm hT hR hrel hok hne' hg ⟨by omega, by omega⟩
      | 8, _, hm => exact do_done8 t g c A n cc ps rs d i x w hn hd hm hT hR hrel hok hne' hg ⟨by omega, by omega⟩
      | 9, _, hm => exact do_rele9 t g c A n cc ps rs d i x w hn hd hm hT hR hrel hok hne' hg ⟨by omega, by omega⟩
      | 10, _, hm => exact do_rele10 t g c A n cc ps rs d i x w hn hd hm hT hR hrel hok hne' hg ⟨by omega, by omega⟩
      | 11, _, hm => exact do_charge11 t g c A n cc ps rs d i x w hn hd hm hT hR hrel hok hne' hg ⟨by omega, by omega⟩
      | 12, _, hm => exact do_charge12 t g c A n cc ps rs d i x w hn hd hm hT hR hrel hok hne' hg ⟨by omega, by omega⟩
      | 13, _, hm => exact do_miss t g c A n cc ps rs d i x w hn hd hm hT hR hrel hok hne
      | 14, _, hm => exact do_setp14 t g c A n cc ps rs d i x w hn hd hm hT hR hrel hok hne' hg ⟨by omega, by omega⟩
      | 15, _, hm => exact do_rais15 t g c A n cc ps rs d i x w hn hd hm hT hR hrel hok hne' hg ⟨by omega, by omega⟩
      | m + 16, h, _ => exact absurd h (by omega)

/-- A table (its processes in block g) and a slice of the document (at A) say the same. -/
structure Both (w : World) (t g c : Nat) (A : Addr) (n : Nat) (ps : List Pr) (rs : List Rf) : Prop where
  T : Tab w t g c ps
  R : RowG w rfC 13 (some A) rs
  rel : RelL ps rs
  ok : ∀ p, p ∈ ps → p.Ok
  len : rs.length = n
  ne : n ≠ 0 → A.block ≠ g
  gl : g < w.heap.size

theorem Both.below {w w' : World} {t g c n : Nat} {A : Addr} {ps : List Pr} {rs : List Rf} (h : Both w t g c A n ps rs) (hb : Below w.heap.size w w') : Both w' t g c A n ps rs :=
  ⟨h.T.below hb, h.R.below hb, h.rel, h.ok, h.len, h.ne, Nat.lt_of_lt_of_le h.gl hb.size⟩

theorem Both.apart {w w' : World} {t g c n g' : Nat} {A : Addr} {ps : List Pr} {rs : List Rf} (h : Both w t g c A n ps rs) (ha : Apart w.heap.size w w' g') (h1 : t ≠ g') (h2 : g ≠ g') (h3 : n ≠ 0 → A.block ≠ g') : Both w' t g c A n ps rs :=
  ⟨h.T.apart ha h1 h2, h.R.apart ha (fun hz b o e => by injection e with e; subst e; exact h3 (by have := h.len; omega)), h.rel, h.ok, h.len, h.ne, Nat.lt_of_lt_of_le h.gl ha.size⟩

def BothPost (w : World) (t g c n : Nat) (A : Addr) (e : Ending) (w' : World) : Prop :=
  ∃ b c' ps' rs', e = .returned (.tuple #[.slice (some b) n c', .bool true]) ∧ Both w' t g c b n ps' rs' ∧ Apart w.heap.size w w' g ∧ (b = A ∨ w.heap.size ≤ b.block)

theorem do_both {t g c : Nat} {A : Addr} {n cc : Nat} {ps : List Pr} {rs : List Rf} {d i x : Int} {w : World} (h : Both w t g c A n ps rs) (hd : 0 ≤ d ∧ d ≤ 255) :
    Calls Try.prog 23 #[.pointer (some ⟨t, 0, none⟩), .slice (some A) n cc, .agg #[.int .u8 d, .int .i64 i, .int .i64 x]] w (BothPost w t g c n A) := by
  refine (do_any t g c A n cc ps rs d i x w h.len hd h.T h.R h.rel h.ok (fun hz => h.ne (by have := h.len; omega)) h.gl).mono ?_
  rintro e w' ⟨b, c', ps', rs', rfl, hT, hR, hrel, hok, ha, hlen, hb⟩
  refine ⟨b, c', ps', rs', rfl, ⟨hT, hR, hrel, hok, hlen, fun hz => ?_, Nat.lt_of_lt_of_le h.gl ha.size⟩, ha, ?_⟩
  · rcases hb with rfl | ⟨k, rfl, hk⟩
    · exact h.ne hz
    · have := h.gl
      show k ≠ g
      omega
  · rcases hb with rfl | ⟨k, rfl, hk⟩
    · exact .inl rfl
    · exact .inr hk

theorem told_both {t g c : Nat} {A : Addr} {n cc : Nat} {ps : List Pr} {rs : List Rf} {w : World} (h : Both w t g c A n ps rs) :
    Calls Try.prog 34 #[.pointer (some ⟨t, 0, none⟩), .slice (some A) n cc] w fun e w' => e = .returned (.bool true) ∧ Below w.heap.size w w' :=
  told_any t g c A n cc ps rs w h.len h.T h.R h.rel h.ok

theorem tab_nil {w : World} {t g c : Nat} {ps : List Pr} (h : Tab w t g c ps) (hz : ps.length = 0) (g' : Nat) : Tab w t g' c ps := by
  refine ⟨?_, fun hn => absurd hz hn, h.len⟩
  have := h.hdr
  unfold slc at this ⊢
  rw [if_pos hz] at this ⊢
  exact this

def MadeBoth (w : World) (l : List At) (n : Nat) (e : Ending) (w' : World) : Prop :=
  ((newOk l = true ∧ ∃ t g c b c', e = .returned (.tuple #[.pointer (some ⟨t, 0, none⟩), .slice (some b) n c', .bool true]) ∧ Both w' t g c b n (l.map prOf) (l.map rfOf) ∧ w.heap.size ≤ t ∧ w.heap.size ≤ g ∧ w.heap.size ≤ b.block) ∨
    (newOk l = false ∧ e = .returned (.tuple #[.pointer none, .slice none 0 0, .bool true]))) ∧ Below w.heap.size w w'

theorem fresh_ok {l : List At} (h : newOk l = true) : ∀ p, p ∈ l.map prOf → p.Ok := by
  intro p hp
  rw [List.mem_map] at hp
  obtain ⟨a, ha, rfl⟩ := hp
  unfold newOk at h
  rw [Bool.and_eq_true] at h
  exact ok_fresh (List.all_eq_true.1 h.2 a ha)

theorem made_both {A : Option Addr} {n cc : Nat} {l : List At} {w : World} (hn : l.length = n) (hA : AtRow w A l) (hm : n ≤ 20) :
    Calls Try.prog 22 #[.slice A n cc] w (MadeBoth w l n) := by
  refine (made_any A n cc l w hn hA hm).mono ?_
  rintro e w' ⟨h, hb⟩
  refine ⟨?_, hb⟩
  rcases h with ⟨hok, t, g, c, b, c', rfl, hT, hR, ht, hg, hbb, hbt, hbg⟩ | h
  · refine .inl ⟨hok, ?_⟩
    by_cases hz : l.length = 0
    · exact ⟨t, t, c, ⟨b, 0, none⟩, c', rfl, ⟨tab_nil hT (by simpa using hz) t, hR, relL_fresh hok, fresh_ok hok, by simpa using hn, fun _ => hbt, hT.lt⟩, ht, ht, hbb⟩
    · exact ⟨t, g, c, ⟨b, 0, none⟩, c', rfl, ⟨hT, hR, relL_fresh hok, fresh_ok hok, by simpa using hn, fun _ => hbg hz, hT.glt (by simpa using hz)⟩, ht, hg hz, hbb⟩
  · exact .inr h

end Go.Proofs.Ytgnjenmicojgnaa
