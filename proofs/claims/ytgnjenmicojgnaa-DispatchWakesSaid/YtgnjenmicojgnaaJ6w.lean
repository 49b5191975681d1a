/-
  A list of package ready: what Peek and All tell.
-/
import Derived.Test.YtgnjenmicojgnaaJa
import Derived.Test.YtgnjenmicojgnaaB4
import Derived.Shelf.Strconv.Itoa0
namespace Go.Proofs.Ytgnjenmicojgnaa
set_option linter.unusedVariables false
set_option linter.unusedSimpArgs false
open Go.RowKit

def lays129_ren : Go.Shelf.Ren := ⟨fun | 129 => 116 | n => n, fun | 53 => 64 | 3 => 3 | 4 => 4 | 46 => 146 | 5 => 5 | 9 => 9 | n => n, fun | n => n⟩
theorem lays129 : Go.Proofs.Lays.n129 Try.prog lays129_ren := {
  mixed := by kernel_rfl
  f129 := Try.func116.trans (congrArg some (by kernel_rfl))
  t3 := Try.underlying3
  a3 := Try.isAgg3
  z3 := Try.sizeOf3
  v3 := Try.zeroValue3
  t4 := Try.underlying4
  a4 := Try.isAgg4
  z4 := Try.sizeOf4
  v4 := Try.zeroValue4
  t5 := Try.underlying5
  a5 := Try.isAgg5
  z5 := Try.sizeOf5
  v5 := Try.zeroValue5
  t9 := Try.underlying9
  a9 := Try.isAgg9
  z9 := Try.sizeOf9
  v9 := Try.zeroValue9
  t46 := Try.underlying146
  a46 := Try.isAgg146
  z46 := Try.sizeOf146
  v46 := Try.zeroValue146
  t53 := Try.underlying64
  a53 := Try.isAgg64
  z53 := Try.sizeOf64
  v53 := Try.zeroValue64 }
theorem len64_any (x : Int) (w : World) (h0 : 0 ≤ x) (h1 : x ≤ 18446744073709551615) :
    Calls Try.prog 116 #[.int .u64 x] w fun e w' => e = .returned (.int .i64 (Lib.bitLen x.toNat)) ∧ w' = w := Any.bits_Len64 lays129 x w h0 h1

theorem bitLenAux_zero' : ∀ f, Lib.bitLenAux f 0 = 0
  | 0 => rfl
  | f + 1 => by simp [Lib.bitLenAux]
theorem bitLenAux_log2 : ∀ (f x : Nat), x ≠ 0 → x < 2 ^ f → Lib.bitLenAux f x = x.log2 + 1
  | 0, x, h, hl => by simp at hl; omega
  | f + 1, x, h, hl => by
    unfold Lib.bitLenAux
    rw [if_neg h]
    by_cases h2 : 2 ≤ x
    · rw [bitLenAux_log2 f (x / 2) (by omega) (by rw [Nat.pow_succ] at hl; omega), Nat.log2_def x, if_pos h2]
      omega
    · have : x = 1 := by omega
      subst this
      rw [show 1 / 2 = 0 by rfl, bitLenAux_zero']
      decide

theorem len64_top {x : Int} {f : Nat → Bool} {p : Nat} (w : World) (h : WordOk x f) (hx : x ≠ 0) (hp : Nat.log2 x.toNat = p) : Calls Try.prog 116 #[.int .u64 x] w fun e w' => e = .returned (.int .i64 ((p : Int) + 1)) ∧ Below w.heap.size w w' := by
  obtain ⟨h0, h1⟩ := h.range
  refine (len64_any x w h0 (by omega)).mono ?_
  rintro e w' ⟨rfl, rfl⟩
  refine ⟨?_, Below.refl _ _⟩
  have hn : x.toNat ≠ 0 := by omega
  have : Lib.bitLen x.toNat = p + 1 := by
    have h64 : x.toNat < 2 ^ 64 := by omega
    rw [← hp]
    exact bitLenAux_log2 64 _ hn h64
  rw [this]
  simp

/-- All ids, the most urgent row first. -/
def dn (R : Nat → List Int) (k : Nat) : List Int := (List.range k).flatMap (fun i => R (63 - i))
def allR (R : Nat → List Int) : List Int := dn R 64
theorem dn_succ (R : Nat → List Int) (k : Nat) : dn R (k + 1) = dn R k ++ R (63 - k) := by
  unfold dn
  rw [List.range_succ, List.flatMap_append]
  simp
theorem dn_empty {R : Nat → List Int} : ∀ {k : Nat}, (∀ i, i < k → R (63 - i) = []) → dn R k = []
  | 0, _ => rfl
  | k + 1, h => by rw [dn_succ, dn_empty (fun i hi => h i (by omega)), h k (by omega)]; rfl
theorem dn_head {R : Nat → List Int} {k : Nat} (h : ∀ i, i < k → R (63 - i) = []) : ∀ (m : Nat), ∃ r, dn R (k + 1 + m) = R (63 - k) ++ r
  | 0 => ⟨[], by rw [Nat.add_zero, dn_succ, dn_empty h]; simp⟩
  | m + 1 => by
    obtain ⟨r, hr⟩ := dn_head h m
    exact ⟨r ++ R (63 - (k + 1 + m)), by rw [← Nat.add_assoc, dn_succ, hr, List.append_assoc]⟩
theorem dn_length {R : Nat → List Int} (h : ∀ p, (R p).length ≤ 1000) : ∀ (k : Nat), (dn R k).length ≤ k * 1000
  | 0 => by simp [dn]
  | k + 1 => by
    rw [dn_succ, List.length_append]
    have := dn_length h k
    have := h (63 - k)
    omega

theorem all_top {R : Nat → List Int} {p : Nat} (hp : p < 64) (hq : ∀ q, p < q → q < 64 → R q = []) : ∃ r, allR R = R p ++ r := by
  obtain ⟨r, hr⟩ := dn_head (R := R) (k := 63 - p) (fun i hi => hq _ (by omega) (by omega)) p
  refine ⟨r, ?_⟩
  unfold allR
  rw [show 64 = 63 - p + 1 + p by omega, hr, show 63 - (63 - p) = p by omega]
theorem all_none {R : Nat → List Int} (h : ∀ q, q < 64 → R q = []) : allR R = [] := dn_empty (fun i hi => h _ (by omega))


def first (R : Nat → List Int) : Int := ((allR R).head?).getD 0
def some1 (R : Nat → List Int) : Bool := ((allR R).head?).isSome

set_option maxRecDepth 100000 in
set_option maxHeartbeats 1000000 in
theorem peek_any (l : Nat) (V : Nat → Value) (R : Nat → List Int) (w : World) (h : Rdy w l V R) :
    Calls Try.prog 103 #[.pointer (some ⟨l, 0, none⟩)] w fun e w' => e = .returned (.tuple #[.int .i64 (first R), .bool (some1 R)]) ∧ Below w.heap.size w w' := by
  obtain ⟨s, hh, hw⟩ := h.hdr
  have hword := hh.word
  have hl := hh.lt
  by_cases hs : s = 0
  · have hall : allR R = [] := all_none (fun q hq => by have := (word_zero hw).1 hs q hq; simpa using this)
    have h1 : Hid (first R = 0) := by unfold Hid first; rw [hall]; rfl
    have h2 : Hid (some1 R = false) := by unfold Hid some1; rw [hall]; rfl
    subst hs
    clear h hh hw hall
    go_enter Try.func103, Try.ntmps103
    go_wp2
    go_ret2
    rw [h1.out, h2.out]
    exact ⟨rfl, Below.refl _ _⟩
  · obtain ⟨p, hp, hlog, hf, hq⟩ := word_top hw hs
    have hlen : 0 < (R p).length := of_decide_eq_true hf
    obtain ⟨x, xs, hx⟩ : ∃ x xs, R p = x :: xs := by
      cases hR : R p with
      | nil => rw [hR] at hlen; simp at hlen
      | cons a b => exact ⟨a, b, rfl⟩
    obtain ⟨r, hr⟩ := all_top hp (fun q h1 h2 => by have := hq q h1 h2; simpa using this)
    rw [hx] at hr
    have h1 : Hid (first R = x) := by unfold Hid first; rw [hr]; rfl
    have h2 : Hid (some1 R = true) := by unfold Hid some1; rw [hr]; rfl
    have hown := h.rows p hp
    rcases hown.shape with ⟨_, h0⟩ | ⟨g, c, cur, hV, hg, hsz, hnc, hm, hc⟩
    · rw [h0] at hlen
      simp at hlen
    have hcell : w.cell? ⟨g, 0, none⟩ = some (.int .i64 x) := by
      rw [cell_of_row w g 0 cur 3 (0, 0) hg]
      exact hc 0 x (by rw [hx]; rfl)
    have hgl : g < w.heap.size := (Array.getElem?_eq_some_iff.1 hg).1
    have hrow := hh.row hp
    rw [hV] at hrow
    obtain ⟨n, hn⟩ : ∃ n, (R p).length = n := ⟨_, rfl⟩
    rw [hn] at hrow hlen
    have HW := Lib.hid hw
    have HS := Lib.hid hs
    have HLOG := Lib.hid hlog
    have hsb : (s == 0) = false := by simpa using hs
    have hwr : wrap64 ((p : Int) + 1 - 1) = p := by unfold wrap64; omega
    clear h hh hw hlog hf hq hx hr hown hV hg hsz hnc hm hc hn
    go_enter Try.func103, Try.ntmps103
    go_wp2_with fail
    have hx1 := fun (x : BW w) => (x.cell l 64 hl).trans hword
    have hx2 := fun (x : BW w) => (x.cell l p hl).trans hrow
    have hx3 := fun (x : BW w) => (x.cell g 0 hgl).trans hcell
    refine wp_region_bw (by kernel_rfl) (by kernel_rfl) ?_
    repeat (go_big_quiet_step ((go_at_call 116; exact Calls.bw (len64_top _ HW.out HS.out HLOG.out))))
    refine wpQuiet_nil ?_
    rintro w2 ⟨x2, hx2'⟩
    have HB : Hid (Below w.heap.size w w2) := show Below w.heap.size w w2 by rw [hx2']; exact x2.property
    clear hx2' x2 hx1 hx2 hx3
    go_wp2
    go_ret2
    rw [h1.out, h2.out]
    exact ⟨rfl, HB.out⟩

def AllPost (w : World) (xs : List Int) (e : Ending) (w' : World) : Prop :=
  ∃ v, e = .returned v ∧ Own w' v xs ∧ (∀ k, v.ownBlock = some k → w.heap.size ≤ k) ∧ Below w.heap.size w w'

theorem grown_below {w wr w' : World} {v : Value} (hb : Below w.heap.size w wr) (hg : wr.grownBy w' v.ownBlock) (hf : ∀ k, v.ownBlock = some k → w.heap.size ≤ k) : Below w.heap.size w w' :=
  hb.grown hg hb.size (fun k hk => hf k hk)

set_option maxRecDepth 100000 in
set_option maxHeartbeats 1000000 in
theorem all_any (l : Nat) (V : Nat → Value) (R : Nat → List Int) (w : World) (h : Rdy w l V R) (hlen : ∀ p, (R p).length ≤ 1000) :
    Calls Try.prog 104 #[.pointer (some ⟨l, 0, none⟩)] w (AllPost w (allR R)) := by
  have hl := h.lt (.inl rfl)
  have HR := Lib.hid h
  have HLEN := Lib.hid hlen
  clear h hlen
  go_enter Try.func104, Try.ntmps104
  go_wp2_with fail
  go_loopw [3, 4] (fun s3 s4 wr => ∃ k : Nat, k ≤ 64 ∧ s4 = .int .i64 (63 - (k : Int)) ∧ Own wr s3 (dn R k) ∧ (∀ b, s3.ownBlock = some b → w.heap.size ≤ b) ∧ Below w.heap.size w wr) (fun _ i _ => (intOf i + 1).toNat)
  case atStart => exact ⟨0, by omega, rfl, Own.nil w, fun b hb => by simp [Value.ownBlock] at hb, Below.refl _ _⟩
  case round =>
    obtain ⟨k, hk, rfl, ho, hf, hb⟩ := hrel
    have HO := Lib.hid ho
    have HF := Lib.hid hf
    have HB := Lib.hid hb
    by_cases hlt : k < 64
    · have hRr := HR.out.below HB.out
      obtain ⟨s, hh, hw⟩ := hRr.hdr
      have hrow := hh.row (p := 63 - k) (by omega)
      have hll := hh.lt
      obtain ⟨v', w2, hrun, ho2, hg2, hf2⟩ := own_append (t := 42) (tx := 130) (ty := 42) Try.underlying42 Try.underlying130 ho (hRr.rows (63 - k) (by omega)).reads (by have := dn_length HLEN.out k; have := HLEN.out (63 - k); omega)
      rw [← dn_succ] at ho2
      have HO2 := Lib.hid ho2
      have HB2 : Hid (Below w.heap.size w w2) := grown_below HB.out hg2 HF.out
      have HF2 : Hid (∀ b, v'.ownBlock = some b → w.heap.size ≤ b) := fun b hb' => by
        rcases hf2 b hb' with h1 | h1
        · exact HF.out b h1
        · have := HB.out.size
          omega
      have h63 : (63 - (k : Int)).toNat = 63 - k := by omega
      have h63' : (63 : Int) - k = ((63 - k : Nat) : Int) := by omega
      rw [h63']
      have hp64 : 63 - k < 64 := by omega
      obtain ⟨p, hp⟩ : ∃ p, 63 - k = p := ⟨_, rfl⟩
      rw [hp] at hrow hrun hp64 ⊢
      have HP := Lib.hid hp
      clear ho hf hb hRr hh hw ho2 hg2 hf2 h63 h63' hp
      go_wp2_with (first | (at_builtin; refine Lib.wpList_append_run _ rfl _ _ _ _ rfl _ _ rfl rfl _ _ hrun ?_))
      have hp := HP.out
      refine ⟨⟨k + 1, by omega, by rw [show (p : Int) - 1 = 63 - ((k + 1 : Nat) : Int) by omega], HO2.out, HF2.out, HB2.out⟩, ?_⟩
      simp [intOf]
    · obtain rfl : k = 64 := by omega
      clear ho hf hb hlt
      rw [show (63 : Int) - ((64 : Nat) : Int) = -1 by rfl]
      go_wp2_with fail
      go_ret
      exact ⟨_, rfl, HO.out, HF.out, HB.out⟩

end Go.Proofs.Ytgnjenmicojgnaa
