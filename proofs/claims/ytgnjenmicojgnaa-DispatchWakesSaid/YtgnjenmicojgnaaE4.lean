/-
  What the document's Missed tells and marks.
-/
import Derived.Test.YtgnjenmicojgnaaE3
import Derived.Test.YtgnjenmicojgnaaC4
namespace Go.Proofs.Ytgnjenmicojgnaa
set_option linter.unusedVariables false
set_option linter.unusedSimpArgs false
open Go.RowKit

theorem RfOwn.keep {w w' : World} {base b : Nat} {l : List Rf} (h : RfOwn w base (some ⟨b, 0, none⟩) l) (he : w'.heap[b]? = w.heap[b]?) : RfOwn w' base (some ⟨b, 0, none⟩) l := by
  intro hl
  obtain ⟨b', hb', hbb, hr, hc⟩ := h hl
  injection hb' with hb'
  injection hb' with hb'
  subst hb'
  exact ⟨b, rfl, hbb, by obtain ⟨C, hC⟩ := hr; exact ⟨C, he.trans hC⟩, fun i a hi k hk => (World.cell?_of_block (w := w) he).trans (hc i a hi k hk)⟩

theorem news1 (W : World) (b : Nat) (h : W.heap.size = b) (u0 : Value) : ∀ j u, [u0][j]? = some u → (W.alloc (.cells #[u0] 3)).cell? ((⟨b, 0, none⟩ : Addr).add j) = some u := by
  intro j u hj
  subst h
  match j, hj with
  | 0, hj => simp at hj; subst hj; show World.cell? _ ⟨W.heap.size, 0, none⟩ = _; rw [World.cell?_alloc_at _ _ _ _ (by simp)]; rfl

/-- Missed's loop: what holds behind k rounds. -/
def RMissRel (w w1 : World) (l : List Rf) (now : Int) (g : Nat) (k : Nat) (v : Value) (wr : World) : Prop :=
  wr.ownsRow w1.heap.size 3 1 v (ridsTo now l k).length ((ridsTo now l k).map (Value.int .i64)) ∧ RfOwn wr w.heap.size (some ⟨g, 0, none⟩) (rmarkTo now l k) ∧ Below w.heap.size w wr ∧ w1.heap.size ≤ wr.heap.size ∧ g < w1.heap.size ∧ w.heap.size ≤ g ∧ Row wr g 101

def RMissPost (w : World) (l : List Rf) (n : Nat) (now : Int) (e : Ending) (w' : World) : Prop :=
  ∃ g c' I ic, e = .returned (.tuple #[.slice (some ⟨g, 0, none⟩) n c', .slice I (ridsTo now l n).length ic]) ∧ w.heap.size ≤ g ∧ Row w' g 101 ∧ RfOwn w' w.heap.size (some ⟨g, 0, none⟩) (l.map (rmark now)) ∧ Ints w' I (ridsTo now l n) ∧ From w.heap.size I (ridsTo now l n) ∧ Below w.heap.size w w'

theorem rmiss_keep {w w1 wr w2 : World} {l : List Rf} {now : Int} {g k : Nat} {v : Value} {r : Rf} (h : RMissRel w w1 l now g k v wr) (hk : l[k]? = some r) (hm : missR now r = false) (hb : Below wr.heap.size wr w2) :
    RMissRel w w1 l now g (k + 1) v w2 := by
  obtain ⟨h1, h2, h3, h4, h5, h6, h7⟩ := h
  unfold RMissRel
  rw [ridsTo_none now l k r hk hm, rmarkTo_same now l k r hk hm]
  exact ⟨ownsRow_below h1 hb, h2.below hb, h3.trans (hb.mono h3.size), Nat.le_trans h4 hb.size, h5, h6, by have hl := h7.lt; obtain ⟨C, hC⟩ := h7; exact ⟨C, (hb.block _ hl).trans hC⟩⟩

theorem rmiss_put {w w1 wr w3 : World} {l : List Rf} {now : Int} {g k : Nat} {v v' : Value} {r : Rf} {o o' : Obj} (h : RMissRel w w1 l now g k v wr) (hk : l[k]? = some r) (hm : missR now r = true)
    (hown : w3.ownsRow w1.heap.size 3 1 v' ((ridsTo now l k).length + 1) ((ridsTo now l k).map (Value.int .i64) ++ [.int .i64 k])) (hg : (((wr.setCell ⟨g, k * 13 + 10, none⟩ (.bool true)).alloc o).alloc o').grownBy w3 v.ownBlock) :
    RMissRel w w1 l now g (k + 1) v' w3 := by
  obtain ⟨h1, h2, h3, h4, hgl, hwg, h7⟩ := h
  have hkl : k < l.length := (List.getElem?_eq_some_iff.1 hk).1
  have hlen2 : (rmarkTo now l k).length ≠ 0 := by rw [rmarkTo_length]; omega
  have hpk : (rmarkTo now l k)[k]? = some r := by rw [rmarkTo_get now l k hkl, hk]
  have hO2 := h2.set (j := 10) (u := .bool true) (a' := { r with missed := true }) hpk (by omega) (by
    intro j hj
    match j, hj with
    | 0, _ => rfl
    | 1, _ => rfl
    | 2, _ => rfl
    | 3, _ => rfl
    | 4, _ => rfl
    | 5, _ => rfl
    | 6, _ => rfl
    | 7, _ => rfl
    | 8, _ => rfl
    | 9, _ => rfl
    | 10, _ => rfl
    | 11, _ => rfl
    | 12, _ => rfl)
  have hO3 := (hO2.below ((Below.refl _ _).alloc (Nat.le_refl _) o)).below ((Below.refl _ _).alloc (Nat.le_refl _) o')
  have hown0 : ∀ j, v.ownBlock = some j → w1.heap.size ≤ j := fun j hj => (h1.lt j hj).1
  have hbk := hg.block g (by simp; omega) (fun e => by have := hown0 g e.symm; omega)
  have hO4 : RfOwn w3 w.heap.size (some ⟨g, 0, none⟩) ((rmarkTo now l k).set k { r with missed := true }) :=
    hO3.keep hbk
  have hmk : rmark now r = { r with missed := true } := by unfold rmark; rw [if_pos hm]
  have hsz := hg.size
  unfold RMissRel
  rw [ridsTo_miss now l k r hk hm, rmarkTo_succ now l k r hk, hmk, List.length_append, List.map_append]
  refine ⟨hown, hO4, ?_, by simp at hsz; omega, hgl, hwg, ?_⟩
  rotate_left
  · obtain ⟨C, hC⟩ := ((h7.setCell ⟨g, k * 13 + 10, none⟩ (.bool true)).alloc o).alloc o'
    exact ⟨C, hbk.trans hC⟩
  have h3s := h3.size
  exact (((h3.setCell hwg _).alloc (by simp; omega) _).alloc (by simp; omega) _).grown hg (by simp; omega) (fun j hj => by have := hown0 j hj; omega)

set_option maxRecDepth 100000 in
set_option maxHeartbeats 4000000 in
theorem rmissed_any (p : Addr) (n c : Nat) (l : List Rf) (now : Int) (w : World) (hn : l.length = n) (hA : RowG w rfC 13 (some p) l) (hm : n ≤ 1000) (hok : ∀ r, r ∈ l → r.Ok) (hnow : 0 ≤ now ∧ now ≤ 1099511627776) :
    Calls Try.prog 65 #[.slice (some p) n c, .int .i64 now] w (RMissPost w l n now) := by
  obtain ⟨i0, hi0, hz0, hz1, hz2⟩ := info_parts info3
  obtain ⟨j0, hj0, hy0, hy1, hy2⟩ := info_parts info101
  obtain ⟨hn1, hn2⟩ := hnow
  have HN := Lib.hid hn
  have HA := Lib.hid hA
  have HOK := Lib.hid hok
  have hfl := Lib.hid (flatG_length (f := rfC) rfC_length l)
  clear hn hA hok
  have HNE : Hid (∀ o j u, (flatG rfC l)[j]? = some u → (w.alloc o).cell? (p.add j) = some u) := fun o => rowG_news0 (HA.out.below ((Below.refl _ _).alloc (Nat.le_refl _) _))
  go_enter Try.func65, Try.ntmps65
  go_wp2_with (first
    | (at_builtin
       refine wpList_append_own _ rfl (.tmp 10) (.tmp 11) 48 rfl w.heap.size 101 j0 _ 13 104 Try.underlying48 hj0 hy0 hy1 hy2 rfl (by decide) (.slice (some ⟨w.heap.size, 0, none⟩) 0 0) 0 [] rfl
           (by have := World.ownsRow_lit (base := w.heap.size) (e := 101) (size := 13) w #[] 0 (Nat.le_refl _) (by unfold maxLen; omega) rfl; exact this) p n c (flatG rfC l) rfl (by rw [hfl.out, HN.out]) (HNE.out _) (flatG_one l) (by unfold maxLen; omega) (by omega) (by simp) ?_
       intro v' w1 hown1 hgrow hiff))
  rw [Nat.zero_add, List.nil_append] at hown1
  have hb1 : Below w.heap.size w w1 := ((Below.refl w.heap.size w).alloc (Nat.le_refl _) _).grown hgrow (by simp) (fun k hk => by simp [Value.ownBlock] at hk; omega)
  have HB1 := Lib.hid hb1
  obtain ⟨g, c', rfl, hgw0, hgr0, hrow⟩ := rfOwn_some HN.out.symm (fun e => by have := (hiff.1 e).1; cases this) hown1
  have HROW := Lib.hid hrow
  have HGR0 := Lib.hid hgr0
  have hgl0 := hgr0.lt
  have hw1 := hb1.size
  clear hown1 hrow hb1 hgr0 hgrow hiff
  go_wp2_with fail
  go_loopw [7, 8] (fun v i wr => ∃ k : Nat, k ≤ n ∧ i = .int .i64 k ∧ RMissRel w w1 l now g k v wr) (fun _ i _ => n - (intOf i).toNat)
  case atStart =>
    refine ⟨0, Nat.zero_le _, rfl, ?_, ?_, HB1.out.alloc hw1 _, by simp, hgl0, hgw0, HGR0.out.alloc _⟩
    · have := World.ownsRow_lit (base := w1.heap.size) (e := 3) (size := 1) w1 #[] 0 (Nat.le_refl _) (by unfold maxLen; omega) rfl
      exact this
    · have e : rmarkTo now l 0 = l := by simp [rmarkTo]
      rw [e]
      exact HROW.out.below ((Below.refl _ _).alloc (Nat.le_refl _) _)
  case round =>
    obtain ⟨k, hk, rfl, hrel⟩ := hrel
    have HREL := Lib.hid hrel
    by_cases hlt : k < n
    · obtain ⟨r, hpk⟩ : ∃ r, l[k]? = some r := ⟨_, List.getElem?_eq_getElem (by have := HN.out; omega)⟩
      have hlm := rmarkTo_length now l k
      obtain ⟨g', hge, hgw, hgr, hgc⟩ := hrel.2.1 (by have := HN.out; omega)
      injection hge with hge
      injection hge with hge
      subst hge
      have hck : ∀ j, j < 13 → wr.cell? ⟨g, k * 13 + j, none⟩ = (rfC r)[j]? := fun j hj => hgc k r (by rw [rmarkTo_get now l k (by have := HN.out; omega)]; exact hpk) j hj
      have c0 : wr.cell? ⟨g, k * 13, none⟩ = some (.int .i64 r.pri) := hck 0 (by omega)
      have c1 : wr.cell? ⟨g, k * 13 + 1, none⟩ = some (.int .i64 r.per) := hck 1 (by omega)
      have c2 : wr.cell? ⟨g, k * 13 + 2, none⟩ = some (.int .i64 r.cap) := hck 2 (by omega)
      have c3 : wr.cell? ⟨g, k * 13 + 3, none⟩ = some (.int .i64 r.dl) := hck 3 (by omega)
      have c4 : wr.cell? ⟨g, k * 13 + 4, none⟩ = some (.int .i64 r.off) := hck 4 (by omega)
      have c5 : wr.cell? ⟨g, k * 13 + 5, none⟩ = some (.int .i64 r.st) := hck 5 (by omega)
      have c6 : wr.cell? ⟨g, k * 13 + 6, none⟩ = some (.bool r.held) := hck 6 (by omega)
      have c7 : wr.cell? ⟨g, k * 13 + 7, none⟩ = some (.int .i64 r.til) := hck 7 (by omega)
      have c8 : wr.cell? ⟨g, k * 13 + 8, none⟩ = some (.int .i64 r.beg) := hck 8 (by omega)
      have c9 : wr.cell? ⟨g, k * 13 + 9, none⟩ = some (.int .i64 r.used) := hck 9 (by omega)
      have c10 : wr.cell? ⟨g, k * 13 + 10, none⟩ = some (.bool r.missed) := hck 10 (by omega)
      have c11 : wr.cell? ⟨g, k * 13 + 11, none⟩ = some (.int .i64 r.base) := hck 11 (by omega)
      have c12 : wr.cell? ⟨g, k * 13 + 12, none⟩ = some (.int .i64 r.raised) := hck 12 (by omega)
      have hlg := hgr.lt
      have hfz := hgr.fz
      have hww := hrel.2.2.2.1
      have hpo := HOK.out r (List.mem_of_getElem? hpk)
      have hdl1 := hpo.dl.1
      have hdl2 := hpo.dl.2
      have hbg1 := hpo.beg.1
      have hbg2 := hpo.beg.2
      have HPK := Lib.hid hpk
      clear hpk hgc hck hpo hrel hlm hgr
      have hcases : ¬ 0 < r.dl ∨ (0 < r.dl ∧ ¬ r.st = 1 ∧ ¬ r.st = 2) ∨ (0 < r.dl ∧ r.st = 1 ∧ r.missed = true) ∨ (0 < r.dl ∧ r.st = 1 ∧ r.missed = false ∧ now < r.beg + r.dl) ∨ (0 < r.dl ∧ r.st = 1 ∧ r.missed = false ∧ r.beg + r.dl ≤ now) ∨ (0 < r.dl ∧ r.st = 2 ∧ r.missed = true) ∨ (0 < r.dl ∧ r.st = 2 ∧ r.missed = false ∧ now < r.beg + r.dl) ∨ (0 < r.dl ∧ r.st = 2 ∧ r.missed = false ∧ r.beg + r.dl ≤ now) := by
        cases hm : r.missed <;> simp <;> omega
      rcases hcases with h1 | ⟨h1, h2, h3⟩ | ⟨h1, h2, h3⟩ | ⟨h1, h2, h3, h4⟩ | ⟨h1, h2, h3, h4⟩ | ⟨h1, h2, h3⟩ | ⟨h1, h2, h3, h4⟩ | ⟨h1, h2, h3, h4⟩
      · have hx := h1
        have HM : Hid (missR now r = false) := by unfold Hid missR; simp [h1]
        skip
        have HR : Hid (∀ o, RMissRel w w1 l now g (k + 1) u7 (wr.alloc o)) := fun o => rmiss_keep HREL.out HPK.out HM.out ((Below.refl _ _).alloc (Nat.le_refl _) _)
        go_wp2
        go_roundw
        case rel => exact ⟨k + 1, by omega, by go_num, HR.out _⟩
        case measure => simp [intOf]; omega
      · have b1 : (r.st == 1) = false := by simp; omega
        have b2 : (r.st == 2) = false := by simp; omega
        have HM : Hid (missR now r = false) := by unfold Hid missR; rw [b1, b2]; simp
        clear h2 h3
        have HR : Hid (∀ o, RMissRel w w1 l now g (k + 1) u7 (wr.alloc o)) := fun o => rmiss_keep HREL.out HPK.out HM.out ((Below.refl _ _).alloc (Nat.le_refl _) _)
        go_wp2
        go_roundw
        case rel => exact ⟨k + 1, by omega, by go_num, HR.out _⟩
        case measure => simp [intOf]; omega
      · have b1 : (r.st == 1) = true := by simp; omega
        have HM : Hid (missR now r = false) := by unfold Hid missR; rw [h3]; simp
        clear h2
        rw [h3] at c10
        clear h3
        have HR : Hid (∀ o, RMissRel w w1 l now g (k + 1) u7 (wr.alloc o)) := fun o => rmiss_keep HREL.out HPK.out HM.out ((Below.refl _ _).alloc (Nat.le_refl _) _)
        go_wp2
        go_roundw
        case rel => exact ⟨k + 1, by omega, by go_num, HR.out _⟩
        case measure => simp [intOf]; omega
      · have b1 : (r.st == 1) = true := by simp; omega
        have HM : Hid (missR now r = false) := by 
          have : ¬ r.beg + r.dl ≤ now := by omega
          unfold Hid missR; simp [this]
        clear h2
        rw [h3] at c10
        clear h3
        have HR : Hid (∀ o, RMissRel w w1 l now g (k + 1) u7 (wr.alloc o)) := fun o => rmiss_keep HREL.out HPK.out HM.out ((Below.refl _ _).alloc (Nat.le_refl _) _)
        go_wp2
        go_roundw
        case rel => exact ⟨k + 1, by omega, by go_num, HR.out _⟩
        case measure => simp [intOf]; omega
      · have b1 : (r.st == 1) = true := by simp; omega
        have HM : Hid (missR now r = true) := by unfold Hid missR; rw [h3]; simp [h1, h4, h2]
        clear h2
        rw [h3] at c10
        clear h3
        have HO : Hid ((wr.setCell ⟨g, k * 13 + 10, none⟩ (.bool true)).ownsRow w1.heap.size 3 1 u7 (ridsTo now l k).length ((ridsTo now l k).map (Value.int .i64))) :=
          ownsRow_setCell_below HREL.out.1 hgl0 _
        have hil := ridsTo_length now l k
        go_wp2_with (
          (at_builtin
           refine wpList_append_own _ rfl (.tmp 57) (.tmp 59) 42 rfl w1.heap.size 3 i0 _ 1 8 Try.underlying42 hi0 hz0 hz1 hz2 rfl (by omega) u7 (ridsTo now l k).length ((ridsTo now l k).map (Value.int .i64)) rfl ((HO.out.alloc _).alloc _)
             ⟨wr.heap.size + 1, 0, none⟩ 1 1 [.int .i64 k] rfl rfl (news1 _ _ (by simp) _) ?c2 ?c3 ?c4 ?c5 ?_))
        case c2 => first | rfl | (intro u hu; simp at hu; subst hu; rfl)
        case c3 => unfold maxLen; omega
        case c4 => omega
        case c5 => first | omega | (simp; omega)
        · intro v' w3 hown3 hgrow _
          have HR := Lib.hid (rmiss_put HREL.out HPK.out HM.out hown3 hgrow)
          clear hown3 hgrow
          go_wp2
          go_roundw
          case rel => exact ⟨k + 1, by omega, by go_num, HR.out⟩
          case measure => simp [intOf]; omega
      · have b1 : (r.st == 1) = false := by simp; omega
        have b2 : (r.st == 2) = true := by simp; omega
        have HM : Hid (missR now r = false) := by unfold Hid missR; rw [h3]; simp
        clear h2
        rw [h3] at c10
        clear h3
        have HR : Hid (∀ o, RMissRel w w1 l now g (k + 1) u7 (wr.alloc o)) := fun o => rmiss_keep HREL.out HPK.out HM.out ((Below.refl _ _).alloc (Nat.le_refl _) _)
        go_wp2
        go_roundw
        case rel => exact ⟨k + 1, by omega, by go_num, HR.out _⟩
        case measure => simp [intOf]; omega
      · have b1 : (r.st == 1) = false := by simp; omega
        have b2 : (r.st == 2) = true := by simp; omega
        have HM : Hid (missR now r = false) := by 
          have : ¬ r.beg + r.dl ≤ now := by omega
          unfold Hid missR; simp [this]
        clear h2
        rw [h3] at c10
        clear h3
        have HR : Hid (∀ o, RMissRel w w1 l now g (k + 1) u7 (wr.alloc o)) := fun o => rmiss_keep HREL.out HPK.out HM.out ((Below.refl _ _).alloc (Nat.le_refl _) _)
        go_wp2
        go_roundw
        case rel => exact ⟨k + 1, by omega, by go_num, HR.out _⟩
        case measure => simp [intOf]; omega
      · have b1 : (r.st == 1) = false := by simp; omega
        have b2 : (r.st == 2) = true := by simp; omega
        have HM : Hid (missR now r = true) := by unfold Hid missR; rw [h3]; simp [h1, h4, h2]
        clear h2
        rw [h3] at c10
        clear h3
        have HO : Hid ((wr.setCell ⟨g, k * 13 + 10, none⟩ (.bool true)).ownsRow w1.heap.size 3 1 u7 (ridsTo now l k).length ((ridsTo now l k).map (Value.int .i64))) :=
          ownsRow_setCell_below HREL.out.1 hgl0 _
        have hil := ridsTo_length now l k
        go_wp2_with (
          (at_builtin
           refine wpList_append_own _ rfl (.tmp 57) (.tmp 59) 42 rfl w1.heap.size 3 i0 _ 1 8 Try.underlying42 hi0 hz0 hz1 hz2 rfl (by omega) u7 (ridsTo now l k).length ((ridsTo now l k).map (Value.int .i64)) rfl ((HO.out.alloc _).alloc _)
             ⟨wr.heap.size + 1, 0, none⟩ 1 1 [.int .i64 k] rfl rfl (news1 _ _ (by simp) _) ?c2 ?c3 ?c4 ?c5 ?_))
        case c2 => first | rfl | (intro u hu; simp at hu; subst hu; rfl)
        case c3 => unfold maxLen; omega
        case c4 => omega
        case c5 => first | omega | (simp; omega)
        · intro v' w3 hown3 hgrow _
          have HR := Lib.hid (rmiss_put HREL.out HPK.out HM.out hown3 hgrow)
          clear hown3 hgrow
          go_wp2
          go_roundw
          case rel => exact ⟨k + 1, by omega, by go_num, HR.out⟩
          case measure => simp [intOf]; omega
    · have hkn : k = n := by omega
      have HP : Hid (∀ v, v = u7 → ∃ I ic, v = .slice I (ridsTo now l n).length ic ∧ RMissPost w l n now (.returned (.tuple #[.slice (some ⟨g, 0, none⟩) n c', v])) wr) := by
        rintro v rfl
        obtain ⟨h1, h2, h3, h4, h5, h6, h7⟩ := hrel
        rw [hkn] at h1 h2
        obtain ⟨I, ic, hv, hi⟩ := ints_of_own h1
        have hfr : From w.heap.size I (ridsTo now l n) := fun hl => by
          rcases h1.2 with ⟨_, h0⟩ | ⟨g', cap, cur, hv', hg', _⟩
          · exact absurd h0 hl
          · rw [hv'] at hv
            injection hv with hv
            exact ⟨g', hv.symm, by omega⟩
        clear h1
        subst hv
        have e : rmarkTo now l n = l.map (rmark now) := by have := HN.out; subst this; simp [rmarkTo]
        rw [e] at h2
        exact ⟨I, ic, rfl, g, c', I, ic, rfl, h6, h7, h2, hi, hfr, h3⟩
      clear hrel
      obtain ⟨I, ic, hI, hP⟩ := HP.out _ rfl
      have HP2 := Lib.hid hP
      clear hP HP
      go_wp2_with fail
      go_ret2
      exact HP2.out

end Go.Proofs.Ytgnjenmicojgnaa
