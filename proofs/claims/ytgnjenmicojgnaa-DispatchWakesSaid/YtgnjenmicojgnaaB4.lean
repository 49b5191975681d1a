/-
  What Missed tells and marks, for every tick that may be.
-/
import Derived.Test.YtgnjenmicojgnaaB3
import Derived.Deep.DeepCutAuto
import Derived.BigQuiet
namespace Go.Proofs.Ytgnjenmicojgnaa
set_option linter.unusedVariables false
set_option linter.unusedSimpArgs false
open Go.RowKit

/-- The worlds that lie behind W: nothing of it has turned, new blocks may have come. -/
def BW (W : World) : Type := { w' : World // Below W.heap.size W w' }

instance instNonemptyBW (W : World) : Nonempty (BW W) := ⟨⟨W, Below.refl _ _⟩⟩

/-- A region that draws its order, whose operations only read, and whose callees leave all that was: one walk in the order of the text. -/
theorem wp_region_bw {P : Program} {id : Nat} {Q : Exit → Act → World → Prop} {a : Act} {w : World} {l : List Oper} (hm : P.follows .mixedOrders = true) (hB : Region.lexB .any l.toArray = true)
    (h : wpQuiet P l.toArray (fun w' => ∃ x : BW w, w' = x.val) (fun a' => ∀ w', (∃ x : BW w, w' = x.val) → Q .normal a' w') l a) : (Code.region id l.toArray true).wp P Q a w :=
  wp_region_quiet (C := fun w' => ∃ x : BW w, w' = x.val) hm hB ⟨⟨w.drew, (Below.refl _ _).drew⟩, rfl⟩ (by simpa using h)

theorem BW.cell {W : World} (x : BW W) (b o : Nat) (h : b < W.heap.size) : x.val.cell? ⟨b, o, none⟩ = W.cell? ⟨b, o, none⟩ := x.property.cell (p := ⟨b, o, none⟩) h
theorem BW.frozen {W : World} (x : BW W) (b o : Nat) (h : b < W.heap.size) : x.val.frozen? ⟨b, o, none⟩ = W.frozen? ⟨b, o, none⟩ := x.property.frozen (p := ⟨b, o, none⟩) h

/-- A callee's contract, met in such a world. -/
theorem Calls.bw {P : Program} {f : FuncId} {args : Array Value} {W : World} {v : Value} {x : BW W} (h : Calls P f args x.val fun e w' => e = .returned v ∧ Below x.val.heap.size x.val w') :
    Calls P f args x.val fun e w'' => e = .returned v ∧ ∃ y : BW W, w'' = y.val :=
  h.mono fun _ w' ⟨he, hb⟩ => ⟨he, ⟨w', x.property.trans (hb.mono x.property.size)⟩, rfl⟩

def Pr.busyB (p : Pr) : Bool := p.st == 1 || p.st == 2
theorem busy_is {p : Pr} {b : Bool} (h : p.busyB = b) (w : World) :
    Calls Try.prog 60 #[.agg p.cells] w fun e w' => e = .returned (.bool b) ∧ Below w.heap.size w w' := by
  subst h
  exact busy_any p w

theorem info3 : (Try.prog.info? 3).map (fun i => (i.zero, i.size, i.bytes)) = some (some (.int .i64 0), 1, 8) := by kernel_rfl

/-- Is a deadline missed, that was not told yet? -/
def missB (now : Int) (p : Pr) : Bool := decide (0 < p.dl) && (p.busyB && (!p.missed && decide (p.beg + p.dl ≤ now)))
def markP (now : Int) (p : Pr) : Pr := if missB now p = true then { p with missed := true } else p
def markTo (now : Int) (ps : List Pr) (k : Nat) : List Pr := (ps.take k).map (markP now) ++ ps.drop k
def isMiss (now : Int) (ps : List Pr) (i : Nat) : Bool := ((ps[i]?).map (missB now)).getD false
def idsTo (now : Int) (ps : List Pr) (k : Nat) : List Int := ((List.range k).filter (isMiss now ps)).map Int.ofNat

theorem markTo_length (now : Int) (ps : List Pr) (k : Nat) : (markTo now ps k).length = ps.length := by
  simp [markTo]; omega
theorem markTo_get (now : Int) (ps : List Pr) (k : Nat) (hk : k < ps.length) : (markTo now ps k)[k]? = ps[k]? := by
  unfold markTo
  rw [List.getElem?_append_right (by simp; omega)]
  simp [List.getElem?_drop]
  congr 1
  omega
theorem markTo_succ (now : Int) (ps : List Pr) (k : Nat) (p : Pr) (h : ps[k]? = some p) : markTo now ps (k + 1) = (markTo now ps k).set k (markP now p) := by
  have hk : k < ps.length := (List.getElem?_eq_some_iff.1 h).1
  unfold markTo
  rw [take_snoc' ps k p h, List.map_append, List.map_singleton, List.append_assoc, List.set_append_right _ _ (by simp; omega)]
  congr 1
  have e : k - ((ps.take k).map (markP now)).length = 0 := by simp; omega
  rw [e]
  have hd : ps.drop k = p :: ps.drop (k + 1) := by
    rw [List.drop_eq_getElem_cons hk]
    congr 1
    have := List.getElem?_eq_getElem hk
    rw [this] at h
    injection h
  rw [hd]
  rfl
theorem markTo_same (now : Int) (ps : List Pr) (k : Nat) (p : Pr) (h : ps[k]? = some p) (hm : missB now p = false) : markTo now ps (k + 1) = markTo now ps k := by
  rw [markTo_succ now ps k p h]
  have hk : k < ps.length := (List.getElem?_eq_some_iff.1 h).1
  have : markP now p = p := by unfold markP; rw [hm]; rfl
  rw [this]
  apply List.ext_getElem?
  intro j
  rw [List.getElem?_set]
  by_cases e : k = j
  · subst e
    rw [if_pos rfl, if_pos (by rw [markTo_length]; exact hk), markTo_get now ps k hk, h]
  · rw [if_neg e]
theorem idsTo_miss (now : Int) (ps : List Pr) (k : Nat) (p : Pr) (h : ps[k]? = some p) (hm : missB now p = true) : idsTo now ps (k + 1) = idsTo now ps k ++ [(k : Int)] := by
  unfold idsTo
  rw [List.range_succ, List.filter_append, List.map_append]
  have : isMiss now ps k = true := by simp [isMiss, h, hm]
  simp [List.filter_cons, this]
theorem idsTo_none (now : Int) (ps : List Pr) (k : Nat) (p : Pr) (h : ps[k]? = some p) (hm : missB now p = false) : idsTo now ps (k + 1) = idsTo now ps k := by
  unfold idsTo
  rw [List.range_succ, List.filter_append, List.map_append]
  have : isMiss now ps k = false := by simp [isMiss, h, hm]
  simp [List.filter_cons, this]
theorem idsTo_length (now : Int) (ps : List Pr) (k : Nat) : (idsTo now ps k).length ≤ k := by
  unfold idsTo
  rw [List.length_map]
  have := List.length_filter_le (isMiss now ps) (List.range k)
  rw [List.length_range] at this
  exact this

theorem Tab.keep2 {w w' : World} {t g c : Nat} {ps : List Pr} (h : Tab w t g c ps) (ht : w'.heap[t]? = w.heap[t]?) (hg : w'.heap[g]? = w.heap[g]?) : Tab w' t g c ps where
  hdr := ht.trans h.hdr
  rows := fun hp => by
    obtain ⟨⟨C, hC⟩, hc⟩ := h.rows hp
    exact ⟨⟨C, hg.trans hC⟩, fun i p hi => (hc i p hi).congr fun j _ _ => World.cell?_of_block (w := w) hg⟩
  len := h.len

/-- Missed's loop: what holds behind k rounds. -/
def MissRel (w : World) (t g c : Nat) (ps : List Pr) (now : Int) (k : Nat) (v : Value) (wr : World) : Prop :=
  wr.ownsRow w.heap.size 3 1 v (idsTo now ps k).length ((idsTo now ps k).map (Value.int .i64)) ∧ Tab wr t g c (markTo now ps k) ∧ Apart w.heap.size w wr g ∧ (idsTo now ps k = [] → v = .slice none 0 0)

theorem ownsRow_below {w w' : World} {base : Nat} {e : TypeId} {size : Nat} {v : Value} {n : Nat} {xs : List Value} (h : w.ownsRow base e size v n xs) (hb : Below w.heap.size w w') : w'.ownsRow base e size v n xs :=
  h.kept (row := none) ⟨hb.os, hb.tape, hb.output, hb.size, fun i hi _ => hb.block i hi⟩ (by cases h : Value.ownBlock v <;> simp)

theorem miss_keep {w wr w2 : World} {t g c : Nat} {ps : List Pr} {now : Int} {k : Nat} {v : Value} {p : Pr} (h : MissRel w t g c ps now k v wr) (hk : ps[k]? = some p) (hm : missB now p = false) (hb : Below wr.heap.size wr w2) :
    MissRel w t g c ps now (k + 1) v w2 := by
  obtain ⟨h1, h2, h3, h4⟩ := h
  unfold MissRel
  rw [idsTo_none now ps k p hk hm, markTo_same now ps k p hk hm]
  exact ⟨ownsRow_below h1 hb, h2.below hb, h3.trans (Apart.of_below hb h3.size), h4⟩

theorem miss_put {w wr w2 w3 : World} {t g c : Nat} {ps : List Pr} {now : Int} {k : Nat} {v v' : Value} {p : Pr} {o : Obj} (h : MissRel w t g c ps now k v wr) (hT0 : Tab w t g c ps) (hk : ps[k]? = some p) (hm : missB now p = true) (hb : Below wr.heap.size wr w2)
    (hown : w3.ownsRow w.heap.size 3 1 v' ((idsTo now ps k).length + 1) ((idsTo now ps k).map (Value.int .i64) ++ [.int .i64 k])) (hg : ((w2.setCell ⟨g, k * 13 + 12, none⟩ (.bool true)).alloc o).grownBy w3 v.ownBlock) :
    MissRel w t g c ps now (k + 1) v' w3 := by
  obtain ⟨h1, h2, h3, h4⟩ := h
  have hkl : k < ps.length := (List.getElem?_eq_some_iff.1 hk).1
  have hgl : g < w.heap.size := hT0.glt (by omega)
  have htl : t < w.heap.size := hT0.lt
  have hT2 := h2.below hb
  have hlen2 : (markTo now ps k).length ≠ 0 := by rw [markTo_length]; omega
  have hpk : (markTo now ps k)[k]? = some p := by rw [markTo_get now ps k hkl, hk]
  have hP : PrAt w2 g (k * 13) p := (hT2.rows hlen2).2 k p hpk
  have hn : Near w.heap.size w2 (w2.setCell ⟨g, k * 13 + 12, none⟩ (.bool true)) g (k * 13) := (Near.refl w.heap.size (k * 13) (hT2.glt hlen2)).set (k * 13 + 12) (by omega) _
  have hP' : PrAt (w2.setCell ⟨g, k * 13 + 12, none⟩ (.bool true)) g (k * 13) { p with missed := true } := by
    obtain ⟨c0, c1, c2, c3, c4, c5, c6, c7, c8, c9, c10, c11, c12⟩ := hP
    constructor <;> simp [*, World.cell?_setCell_same', World.cell?_setCell_other]
  have hT3 : Tab (w2.setCell ⟨g, k * 13 + 12, none⟩ (.bool true)) t g c ((markTo now ps k).set k { p with missed := true }) := hT2.put hn htl (by rw [markTo_length]; exact hkl) hP'
  have hmk : markP now p = { p with missed := true } := by unfold markP; rw [if_pos hm]
  have hT4 := hT3.alloc o
  have hown0 : ∀ j, v.ownBlock = some j → w.heap.size ≤ j := fun j hj => (h1.lt j hj).1
  have hs2 := h3.size
  have hs3 := hb.size
  have hA2 : Apart w.heap.size w ((w2.setCell ⟨g, k * 13 + 12, none⟩ (.bool true)).alloc o) g :=
    ((h3.trans (Apart.of_below hb h3.size)).trans (Apart.of_near hn)).alloc (Nat.le_refl _) o
  have hA3 : Apart w.heap.size ((w2.setCell ⟨g, k * 13 + 12, none⟩ (.bool true)).alloc o) w3 g := by
    exact ⟨hg.os, hg.tape, hg.output, hg.size, fun i hi hne => hg.block i (by simp; omega) (fun e => by have := hown0 i e.symm; omega)⟩
  unfold MissRel
  rw [idsTo_miss now ps k p hk hm, markTo_succ now ps k p hk, hmk, List.length_append, List.map_append]
  refine ⟨hown, ?_, hA2.trans hA3, fun h => by simp at h⟩
  have hown1 : ∀ b, b < w.heap.size → w3.heap[b]? = ((w2.setCell ⟨g, k * 13 + 12, none⟩ (.bool true)).alloc o).heap[b]? := fun b hb' => hg.block b (by simp; omega) (fun e => by have := hown0 b e.symm; omega)
  exact hT4.keep2 (hown1 t htl) (hown1 g hgl)

def MissPost (w : World) (t g c : Nat) (ps : List Pr) (now : Int) (e : Ending) (w' : World) : Prop :=
  ∃ v, e = .returned v ∧ w'.ownsRow w.heap.size 3 1 v (idsTo now ps ps.length).length ((idsTo now ps ps.length).map (Value.int .i64)) ∧ Tab w' t g c (ps.map (markP now)) ∧ Apart w.heap.size w w' g ∧ (idsTo now ps ps.length = [] → v = .slice none 0 0)

set_option maxRecDepth 100000 in
set_option maxHeartbeats 2000000 in
theorem missed_any (t g c : Nat) (ps : List Pr) (now : Int) (w : World) (hT : Tab w t g c ps) (hok : ∀ p, p ∈ ps → p.Ok) (hn : 0 ≤ now ∧ now ≤ 1099511627776) :
    Calls Try.prog 20 #[.pointer (some ⟨t, 0, none⟩), .int .i64 now] w (MissPost w t g c ps now) := by
  obtain ⟨i0, hi0, hz0, hz1, hz2⟩ := info_parts info3
  obtain ⟨hn1, hn2⟩ := hn
  obtain ⟨a, cc, hv⟩ := slc_form g c ps
  have hcell := hT.cell
  have hlen := hT.len
  rw [hv] at hcell
  obtain ⟨n, hnl⟩ : ∃ n, n = ps.length := ⟨_, rfl⟩
  rw [← hnl] at hcell hlen
  have HN := Lib.hid hnl
  have HV := Lib.hid hv
  have HT := Lib.hid hT
  have HOK := Lib.hid hok
  clear hnl hv hT hok
  go_enter Try.func20, Try.ntmps20
  go_wp2_with (go_at_call 62; refine (len_any t a n cc _ ?_).mono ?_; exact hcell; rintro e w' ⟨rfl, rfl⟩)
  clear hcell
  go_loopw [5, 10] (fun v i wr => ∃ k : Nat, k ≤ n ∧ i = .int .i64 k ∧ MissRel w t g c ps now k v wr) (fun _ i _ => n - (intOf i).toNat)
  case atStart =>
    refine ⟨0, Nat.zero_le _, rfl, World.ownsRow_nil _ _ _ _, ?_, Apart.refl _ _ _, fun _ => rfl⟩
    exact HT.out
  case round =>
    obtain ⟨k, hk, rfl, hrel⟩ := hrel
    have HREL := Lib.hid hrel
    by_cases hlt : k < n
    · obtain ⟨p, hpk⟩ : ∃ p, ps[k]? = some p := ⟨_, List.getElem?_eq_getElem (by have := HN.out; omega)⟩
      have hT := hrel.2.1
      have hlm := markTo_length now ps k
      obtain ⟨hr, hc⟩ := hT.rows (by have := HN.out; omega)
      obtain ⟨c0, c1, c2, c3, c4, c5, c6, c7, c8, c9, c10, c11, c12⟩ := hc k p (by rw [markTo_get now ps k (by have := HN.out; omega)]; exact hpk)
      have hs : slc g c (markTo now ps k) = .slice (some ⟨g, 0, none⟩) n c := by unfold slc; rw [if_neg (by have := HN.out; omega), hlm, ← HN.out]
      have hcell := hT.cell
      rw [hs] at hcell
      have hlg := hr.lt
      have hfz := hr.fz
      have hpo := HOK.out p (List.mem_of_getElem? hpk)
      have hdl1 := hpo.dl.1
      have hdl2 := hpo.dl.2
      have hbg1 := hpo.beg.1
      have hbg2 := hpo.beg.2
      have HPK := Lib.hid hpk
      clear hpk hc hs hT hpo hrel hlm
      have hxc := fun (x : BW wr) (o : Nat) => x.cell g o hlg
      have hcases : ¬ 0 < p.dl ∨ (0 < p.dl ∧ p.busyB = false) ∨ (0 < p.dl ∧ p.busyB = true ∧ p.missed = true) ∨ (0 < p.dl ∧ p.busyB = true ∧ p.missed = false ∧ now < p.beg + p.dl) ∨ (0 < p.dl ∧ p.busyB = true ∧ p.missed = false ∧ p.beg + p.dl ≤ now) := by
        by_cases h1 : 0 < p.dl <;> by_cases h2 : p.busyB = true <;> by_cases h3 : p.missed = true <;> by_cases h4 : p.beg + p.dl ≤ now <;> simp_all <;> omega
      rcases hcases with h1 | ⟨h1, h2⟩ | ⟨h1, h2, h3⟩ | ⟨h1, h2, h3, h4⟩ | ⟨h1, h2, h3, h4⟩
      · have HB : Hid (p.busyB = p.busyB) := rfl
        have HM : Hid (missB now p = false) := by unfold Hid missB; simp [h1]
        have h1b : decide (0 < p.dl) = false := by simpa using h1
        go_wp2_with fail
        refine wp_region_bw (by kernel_rfl) (by kernel_rfl) ?_
        repeat (go_big_quiet_step ((go_at_call 60; exact Calls.bw (busy_is HB.out _))))
        refine wpQuiet_nil ?_
        rintro w2 ⟨x2, hx2⟩
        have hb2 : Below wr.heap.size wr w2 := by rw [hx2]; exact x2.property
        clear hx2 x2
        have HR := Lib.hid (miss_keep HREL.out HPK.out HM.out hb2)
        clear hb2
        go_wp2
        go_roundw
        case rel => exact ⟨k + 1, by omega, by go_num, HR.out⟩
        case measure => simp [intOf]; omega
      · have HB := Lib.hid h2
        have HM : Hid (missB now p = false) := by unfold Hid missB; simp [h2]
        clear h2
        go_wp2_with fail
        refine wp_region_bw (by kernel_rfl) (by kernel_rfl) ?_
        repeat (go_big_quiet_step ((go_at_call 60; exact Calls.bw (busy_is HB.out _))))
        refine wpQuiet_nil ?_
        rintro w2 ⟨x2, hx2⟩
        have hb2 : Below wr.heap.size wr w2 := by rw [hx2]; exact x2.property
        clear hx2 x2
        have HR := Lib.hid (miss_keep HREL.out HPK.out HM.out hb2)
        clear hb2
        go_wp2
        go_roundw
        case rel => exact ⟨k + 1, by omega, by go_num, HR.out⟩
        case measure => simp [intOf]; omega
      · have HB := Lib.hid h2
        have HM : Hid (missB now p = false) := by unfold Hid missB; simp [h3]
        clear h2
        rw [h3] at c12
        clear h3
        go_wp2_with fail
        refine wp_region_bw (by kernel_rfl) (by kernel_rfl) ?_
        repeat (go_big_quiet_step ((go_at_call 60; exact Calls.bw (busy_is (p := { p with missed := true }) HB.out _))))
        refine wpQuiet_nil ?_
        rintro w2 ⟨x2, hx2⟩
        have hb2 : Below wr.heap.size wr w2 := by rw [hx2]; exact x2.property
        clear hx2 x2
        have HR := Lib.hid (miss_keep HREL.out HPK.out HM.out hb2)
        clear hb2
        go_wp2
        go_roundw
        case rel => exact ⟨k + 1, by omega, by go_num, HR.out⟩
        case measure => simp [intOf]; omega
      · have HB := Lib.hid h2
        have HM : Hid (missB now p = false) := by
          have : ¬ p.beg + p.dl ≤ now := by omega
          unfold Hid missB; simp [this]
        clear h2
        rw [h3] at c12
        clear h3
        go_wp2_with fail
        refine wp_region_bw (by kernel_rfl) (by kernel_rfl) ?_
        repeat (go_big_quiet_step ((go_at_call 60; exact Calls.bw (busy_is (p := { p with missed := false }) HB.out _))))
        refine wpQuiet_nil ?_
        rintro w2 ⟨x2, hx2⟩
        have hb2 : Below wr.heap.size wr w2 := by rw [hx2]; exact x2.property
        clear hx2 x2
        have HR := Lib.hid (miss_keep HREL.out HPK.out HM.out hb2)
        clear hb2
        go_wp2
        go_roundw
        case rel => exact ⟨k + 1, by omega, by go_num, HR.out⟩
        case measure => simp [intOf]; omega
      · have HB := Lib.hid h2
        have HM : Hid (missB now p = true) := by unfold Hid missB; simp [h1, h2, h3, h4]
        have hgw : g < w.heap.size := HT.out.glt (by have := HN.out; omega)
        have hwr : w.heap.size ≤ wr.heap.size := HREL.out.2.2.1.size
        have hil := idsTo_length now ps k
        clear h2
        rw [h3] at c12
        clear h3
        go_wp2_with fail
        refine wp_region_bw (by kernel_rfl) (by kernel_rfl) ?_
        repeat (go_big_quiet_step ((go_at_call 60; exact Calls.bw (busy_is (p := { p with missed := false }) HB.out _))))
        refine wpQuiet_nil ?_
        rintro w2 ⟨x2, hx2⟩
        have hb2 : Below wr.heap.size wr w2 := by rw [hx2]; exact x2.property
        clear hx2 x2
        have d12 : w2.cell? ⟨g, k * 13 + 12, none⟩ = some (.bool false) := (hb2.cell (p := ⟨g, k * 13 + 12, none⟩) hlg).trans c12
        have hfz2 : w2.frozen? ⟨g, k * 13 + 12, none⟩ = false := (hb2.frozen (p := ⟨g, k * 13 + 12, none⟩) hlg).trans (hfz _)
        have hs2 := hb2.size
        have HB2 := Lib.hid hb2
        have HO : Hid ((w2.setCell ⟨g, k * 13 + 12, none⟩ (.bool true)).ownsRow w.heap.size 3 1 u5 (idsTo now ps k).length ((idsTo now ps k).map (Value.int .i64))) :=
          ownsRow_setCell_below (ownsRow_below HREL.out.1 hb2) hgw _
        clear hb2 hxc c0 c1 c2 c3 c4 c5 c6 c7 c8 c9 c10 c11 c12 hfz
        go_wp2_with (
          (at_builtin
           refine wpList_append_own _ rfl (.tmp 58) (.tmp 60) 42 rfl w.heap.size 3 i0 _ 1 8 Try.underlying42 hi0 hz0 hz1 hz2 rfl (by omega) u5 (idsTo now ps k).length ((idsTo now ps k).map (Value.int .i64)) rfl (HO.out.alloc _)
             ⟨w2.heap.size, 0, none⟩ 1 1 [.int .i64 k] rfl rfl ?c1 ?c2 ?c3 ?c4 ?c5 ?_))
        case c1 =>
          intro j u hj
          match j, hj with
          | 0, hj => simp at hj; subst hj; show World.cell? _ ⟨w2.heap.size, 0, none⟩ = _; rw [World.cell?_alloc_at _ _ _ _ (by simp)]; rfl
        case c2 => intro u hu; simp at hu; subst hu; rfl
        case c3 => unfold maxLen; omega
        case c4 => omega
        case c5 => simp; omega
        · intro v' w3 hown3 hgrow _
          have HR := Lib.hid (miss_put HREL.out HT.out HPK.out HM.out HB2.out hown3 hgrow)
          clear hown3 hgrow
          go_wp2
          go_roundw
          case rel => exact ⟨k + 1, by omega, by go_num, HR.out⟩
          case measure => simp [intOf]; omega
    · have hkn : k = n := by omega
      have HP : Hid (MissPost w t g c ps now (.returned u5) wr) := by
        obtain ⟨h1, h2, h3, h4⟩ := hrel
        have hkl : k = ps.length := by have := HN.out; omega
        rw [hkl] at h1 h2 h4
        have e : markTo now ps ps.length = ps.map (markP now) := by simp [markTo]
        rw [e] at h2
        exact ⟨u5, rfl, h1, h2, h3, h4⟩
      clear hrel hkn
      go_wp2_with fail
      go_ret
      exact HP.out

end Go.Proofs.Ytgnjenmicojgnaa
