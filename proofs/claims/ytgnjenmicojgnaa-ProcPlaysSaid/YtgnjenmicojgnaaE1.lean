/-
  What the document's New makes of whatever attributes: a slice of fresh processes, or an error.
-/
import Derived.Test.YtgnjenmicojgnaaE3
import Derived.Test.YtgnjenmicojgnaaB2
namespace Go.Proofs.Ytgnjenmicojgnaa
set_option linter.unusedVariables false
set_option linter.unusedSimpArgs false
open Go.RowKit

theorem may_bad {a : At} (h : a.pri < 1 ∨ 63 < a.pri ∨ a.per < 0 ∨ 1048576 < a.per ∨ a.cap < 0 ∨ 1048576 < a.cap ∨ a.dl < 0 ∨ 1048576 < a.dl ∨ a.off < 0 ∨ 1048576 < a.off) : a.may = false := by
  unfold At.may mayB inB
  simp
  omega
theorem may_good {a : At} (f0 : ¬ a.pri < 1) (f1 : ¬ 63 < a.pri) (f2 : ¬ a.per < 0) (f3 : ¬ 1048576 < a.per) (f4 : ¬ a.cap < 0) (f5 : ¬ 1048576 < a.cap) (f6 : ¬ a.dl < 0) (f7 : ¬ 1048576 < a.dl) (f8 : ¬ a.off < 0) (f9 : ¬ 1048576 < a.off) : a.may = true := by
  unfold At.may mayB inB
  simp
  omega
theorem may_cases (a : At) : (a.pri < 1) ∨ (¬ a.pri < 1 ∧ 63 < a.pri) ∨ (¬ a.pri < 1 ∧ ¬ 63 < a.pri ∧ a.per < 0) ∨ (¬ a.pri < 1 ∧ ¬ 63 < a.pri ∧ ¬ a.per < 0 ∧ 1048576 < a.per) ∨ (¬ a.pri < 1 ∧ ¬ 63 < a.pri ∧ ¬ a.per < 0 ∧ ¬ 1048576 < a.per ∧ a.cap < 0) ∨ (¬ a.pri < 1 ∧ ¬ 63 < a.pri ∧ ¬ a.per < 0 ∧ ¬ 1048576 < a.per ∧ ¬ a.cap < 0 ∧ 1048576 < a.cap) ∨ (¬ a.pri < 1 ∧ ¬ 63 < a.pri ∧ ¬ a.per < 0 ∧ ¬ 1048576 < a.per ∧ ¬ a.cap < 0 ∧ ¬ 1048576 < a.cap ∧ a.dl < 0) ∨ (¬ a.pri < 1 ∧ ¬ 63 < a.pri ∧ ¬ a.per < 0 ∧ ¬ 1048576 < a.per ∧ ¬ a.cap < 0 ∧ ¬ 1048576 < a.cap ∧ ¬ a.dl < 0 ∧ 1048576 < a.dl) ∨ (¬ a.pri < 1 ∧ ¬ 63 < a.pri ∧ ¬ a.per < 0 ∧ ¬ 1048576 < a.per ∧ ¬ a.cap < 0 ∧ ¬ 1048576 < a.cap ∧ ¬ a.dl < 0 ∧ ¬ 1048576 < a.dl ∧ a.off < 0) ∨ (¬ a.pri < 1 ∧ ¬ 63 < a.pri ∧ ¬ a.per < 0 ∧ ¬ 1048576 < a.per ∧ ¬ a.cap < 0 ∧ ¬ 1048576 < a.cap ∧ ¬ a.dl < 0 ∧ ¬ 1048576 < a.dl ∧ ¬ a.off < 0 ∧ 1048576 < a.off) ∨ (¬ a.pri < 1 ∧ ¬ 63 < a.pri ∧ ¬ a.per < 0 ∧ ¬ 1048576 < a.per ∧ ¬ a.cap < 0 ∧ ¬ 1048576 < a.cap ∧ ¬ a.dl < 0 ∧ ¬ 1048576 < a.dl ∧ ¬ a.off < 0 ∧ ¬ 1048576 < a.off) := by
  by_cases c0 : a.pri < 1
  · exact .inl c0
  refine .inr ?_
  by_cases c1 : 63 < a.pri
  · exact .inl ⟨c0, c1⟩
  refine .inr ?_
  by_cases c2 : a.per < 0
  · exact .inl ⟨c0, c1, c2⟩
  refine .inr ?_
  by_cases c3 : 1048576 < a.per
  · exact .inl ⟨c0, c1, c2, c3⟩
  refine .inr ?_
  by_cases c4 : a.cap < 0
  · exact .inl ⟨c0, c1, c2, c3, c4⟩
  refine .inr ?_
  by_cases c5 : 1048576 < a.cap
  · exact .inl ⟨c0, c1, c2, c3, c4, c5⟩
  refine .inr ?_
  by_cases c6 : a.dl < 0
  · exact .inl ⟨c0, c1, c2, c3, c4, c5, c6⟩
  refine .inr ?_
  by_cases c7 : 1048576 < a.dl
  · exact .inl ⟨c0, c1, c2, c3, c4, c5, c6, c7⟩
  refine .inr ?_
  by_cases c8 : a.off < 0
  · exact .inl ⟨c0, c1, c2, c3, c4, c5, c6, c7, c8⟩
  refine .inr ?_
  by_cases c9 : 1048576 < a.off
  · exact .inl ⟨c0, c1, c2, c3, c4, c5, c6, c7, c8, c9⟩
  refine .inr ?_
  exact ⟨c0, c1, c2, c3, c4, c5, c6, c7, c8, c9⟩

def RNewRel (w : World) (l : List At) (k : Nat) (v : Value) (wr : World) : Prop :=
  wr.ownsRow w.heap.size 101 13 v k (flatG rfC ((l.take k).map rfOf)) ∧ Below w.heap.size w wr ∧ (l.take k).all At.may = true ∧ v ≠ .slice none 0 0
def RNewPost (w : World) (l : List At) (n : Nat) (e : Ending) (w' : World) : Prop :=
  ((newOk l = true ∧ ∃ b c, e = .returned (.tuple #[.slice (some ⟨b, 0, none⟩) n c, .int .i64 0]) ∧ w.heap.size ≤ b ∧ Row w' b 101 ∧ RowG w' rfC 13 (some ⟨b, 0, none⟩) (l.map rfOf)) ∨
    (newOk l = false ∧ e = .returned (.tuple #[.slice none 0 0, .int .i64 (if 16 < l.length then 8 else 2)]))) ∧ Below w.heap.size w w'

theorem rnew_bad {l : List At} {k : Nat} {a : At} (h : l[k]? = some a) (hm : a.may = false) : newOk l = false := by
  have hmem : a ∈ l := List.mem_of_getElem? h
  have : l.all At.may = false := List.all_eq_false.2 ⟨a, hmem, by simp [hm]⟩
  unfold newOk
  rw [this, Bool.and_false]

theorem rnew_lit (a : At) (w : World) : Calls Try.prog 111 #[.agg #[.int .i64 a.pri, .int .i64 a.per, .int .i64 a.cap, .int .i64 a.dl, .int .i64 a.off]] w fun e w' => e = .returned (.agg #[.int .i64 a.pri, .int .i64 a.per, .int .i64 a.cap, .int .i64 a.dl, .int .i64 a.off, .int .i64 0, .bool false, .int .i64 0, .int .i64 0, .int .i64 0, .bool false, .int .i64 a.pri, .int .i64 0]) ∧ Below w.heap.size w w' := by
  refine (rfresh_any (rfOf a) w).mono ?_
  rintro e w' ⟨rfl, o1, o2, rfl⟩
  exact ⟨rfl, ((Below.refl _ _).alloc (Nat.le_refl _) _).alloc (by simp) _⟩

set_option maxRecDepth 100000 in
set_option maxHeartbeats 8000000 in
theorem rnew_any (A : Option Addr) (n cc : Nat) (l : List At) (w : World) (hn : l.length = n) (hA : AtRow w A l) (hm : n ≤ 140737488355328) :
    Calls Try.prog 64 #[.slice A n cc] w (RNewPost w l n) := by
  by_cases hs : n ≤ 16
  case neg =>
    have HP : Hid (RNewPost w l n (.returned (.tuple #[.slice none 0 0, .int .i64 8])) w) := by
      refine ⟨.inr ⟨?_, ?_⟩, Below.refl _ _⟩
      · unfold newOk; simp; omega
      · rw [if_pos (by omega)]
    clear hn hA
    go_enter Try.func64, Try.ntmps64
    go_wp2
    go_ret2
    exact HP.out
  case pos =>
  obtain ⟨i0, hi0, hz0, hz1, hz2⟩ := info_parts info101
  have HN := Lib.hid hn
  have HA := Lib.hid hA
  clear hn hA
  go_enter Try.func64, Try.ntmps64
  go_wp2_with fail
  go_loopw [4, 5] (fun v i wr => ∃ k : Nat, k ≤ n ∧ i = .int .i64 k ∧ RNewRel w l k v wr) (fun _ i _ => n - (intOf i).toNat)
  case atStart =>
    refine ⟨0, Nat.zero_le _, rfl, ?_, (Below.refl _ _).alloc (Nat.le_refl _) _, rfl, by simp⟩
    have := World.ownsRow_lit (base := w.heap.size) (e := 101) (size := 13) w #[] 0 (Nat.le_refl _) (by unfold maxLen; omega) rfl
    exact this
  case round =>
    obtain ⟨k, hk, rfl, hrel⟩ := hrel
    have HREL := Lib.hid hrel
    have HB := Lib.hid hrel.2.1
    have hbs := hrel.2.1.size
    by_cases hlt : k < n
    · obtain ⟨b, o, rfl, hbl, hel⟩ := HA.out (by have := HN.out; omega)
      obtain ⟨a, hlk⟩ : ∃ a, l[k]? = some a := ⟨_, List.getElem?_eq_getElem (by have := HN.out; omega)⟩
      have hE := hel k a hlk
      have e0 := (HB.out.cell (p := ⟨b, o + k * 5, none⟩) hbl).trans hE.c0
      have e1 := (HB.out.cell (p := ⟨b, o + k * 5 + 1, none⟩) hbl).trans hE.c1
      have e2 := (HB.out.cell (p := ⟨b, o + k * 5 + 2, none⟩) hbl).trans hE.c2
      have e3 := (HB.out.cell (p := ⟨b, o + k * 5 + 3, none⟩) hbl).trans hE.c3
      have e4 := (HB.out.cell (p := ⟨b, o + k * 5 + 4, none⟩) hbl).trans hE.c4
      have hbl' : b < wr.heap.size := by omega
      have HLK := Lib.hid hlk
      clear hlk hel hE hrel
      rcases may_cases a with f0 | ⟨f0, f1⟩ | ⟨f0, f1, f2⟩ | ⟨f0, f1, f2, f3⟩ | ⟨f0, f1, f2, f3, f4⟩ | ⟨f0, f1, f2, f3, f4, f5⟩ | ⟨f0, f1, f2, f3, f4, f5, f6⟩ | ⟨f0, f1, f2, f3, f4, f5, f6, f7⟩ | ⟨f0, f1, f2, f3, f4, f5, f6, f7, f8⟩ | ⟨f0, f1, f2, f3, f4, f5, f6, f7, f8, f9⟩ | ⟨f0, f1, f2, f3, f4, f5, f6, f7, f8, f9⟩
      · have hmay : a.may = false := may_bad (.inl f0)
        have HF : Hid (newOk l = false) := rnew_bad HLK.out hmay
        clear hmay
        have HPF : Hid (∀ o, RNewPost w l n (.returned (.tuple #[.slice none 0 0, .int .i64 2])) (wr.alloc o)) := fun o =>
          ⟨.inr ⟨HF.out, by rw [if_neg (by have := HN.out; omega)]⟩, HB.out.alloc hbs _⟩
        go_wp2
        go_ret2
        exact HPF.out _
      · have hmay : a.may = false := may_bad (.inr (.inl f1))
        have HF : Hid (newOk l = false) := rnew_bad HLK.out hmay
        clear hmay
        have HPF : Hid (∀ o, RNewPost w l n (.returned (.tuple #[.slice none 0 0, .int .i64 2])) (wr.alloc o)) := fun o =>
          ⟨.inr ⟨HF.out, by rw [if_neg (by have := HN.out; omega)]⟩, HB.out.alloc hbs _⟩
        go_wp2
        go_ret2
        exact HPF.out _
      · have hmay : a.may = false := may_bad (.inr (.inr (.inl f2)))
        have HF : Hid (newOk l = false) := rnew_bad HLK.out hmay
        clear hmay
        have HPF : Hid (∀ o, RNewPost w l n (.returned (.tuple #[.slice none 0 0, .int .i64 2])) (wr.alloc o)) := fun o =>
          ⟨.inr ⟨HF.out, by rw [if_neg (by have := HN.out; omega)]⟩, HB.out.alloc hbs _⟩
        go_wp2
        go_ret2
        exact HPF.out _
      · have hmay : a.may = false := may_bad (.inr (.inr (.inr (.inl f3))))
        have HF : Hid (newOk l = false) := rnew_bad HLK.out hmay
        clear hmay
        have HPF : Hid (∀ o, RNewPost w l n (.returned (.tuple #[.slice none 0 0, .int .i64 2])) (wr.alloc o)) := fun o =>
          ⟨.inr ⟨HF.out, by rw [if_neg (by have := HN.out; omega)]⟩, HB.out.alloc hbs _⟩
        go_wp2
        go_ret2
        exact HPF.out _
      · have hmay : a.may = false := may_bad (.inr (.inr (.inr (.inr (.inl f4)))))
        have HF : Hid (newOk l = false) := rnew_bad HLK.out hmay
        clear hmay
        have HPF : Hid (∀ o, RNewPost w l n (.returned (.tuple #[.slice none 0 0, .int .i64 2])) (wr.alloc o)) := fun o =>
          ⟨.inr ⟨HF.out, by rw [if_neg (by have := HN.out; omega)]⟩, HB.out.alloc hbs _⟩
        go_wp2
        go_ret2
        exact HPF.out _
      · have hmay : a.may = false := may_bad (.inr (.inr (.inr (.inr (.inr (.inl f5))))))
        have HF : Hid (newOk l = false) := rnew_bad HLK.out hmay
        clear hmay
        have HPF : Hid (∀ o, RNewPost w l n (.returned (.tuple #[.slice none 0 0, .int .i64 2])) (wr.alloc o)) := fun o =>
          ⟨.inr ⟨HF.out, by rw [if_neg (by have := HN.out; omega)]⟩, HB.out.alloc hbs _⟩
        go_wp2
        go_ret2
        exact HPF.out _
      · have hmay : a.may = false := may_bad (.inr (.inr (.inr (.inr (.inr (.inr (.inl f6)))))))
        have HF : Hid (newOk l = false) := rnew_bad HLK.out hmay
        clear hmay
        have HPF : Hid (∀ o, RNewPost w l n (.returned (.tuple #[.slice none 0 0, .int .i64 2])) (wr.alloc o)) := fun o =>
          ⟨.inr ⟨HF.out, by rw [if_neg (by have := HN.out; omega)]⟩, HB.out.alloc hbs _⟩
        go_wp2
        go_ret2
        exact HPF.out _
      · have hmay : a.may = false := may_bad (.inr (.inr (.inr (.inr (.inr (.inr (.inr (.inl f7))))))))
        have HF : Hid (newOk l = false) := rnew_bad HLK.out hmay
        clear hmay
        have HPF : Hid (∀ o, RNewPost w l n (.returned (.tuple #[.slice none 0 0, .int .i64 2])) (wr.alloc o)) := fun o =>
          ⟨.inr ⟨HF.out, by rw [if_neg (by have := HN.out; omega)]⟩, HB.out.alloc hbs _⟩
        go_wp2
        go_ret2
        exact HPF.out _
      · have hmay : a.may = false := may_bad (.inr (.inr (.inr (.inr (.inr (.inr (.inr (.inr (.inl f8)))))))))
        have HF : Hid (newOk l = false) := rnew_bad HLK.out hmay
        clear hmay
        have HPF : Hid (∀ o, RNewPost w l n (.returned (.tuple #[.slice none 0 0, .int .i64 2])) (wr.alloc o)) := fun o =>
          ⟨.inr ⟨HF.out, by rw [if_neg (by have := HN.out; omega)]⟩, HB.out.alloc hbs _⟩
        go_wp2
        go_ret2
        exact HPF.out _
      · have hmay : a.may = false := may_bad (.inr (.inr (.inr (.inr (.inr (.inr (.inr (.inr (.inr f9)))))))))
        have HF : Hid (newOk l = false) := rnew_bad HLK.out hmay
        clear hmay
        have HPF : Hid (∀ o, RNewPost w l n (.returned (.tuple #[.slice none 0 0, .int .i64 2])) (wr.alloc o)) := fun o =>
          ⟨.inr ⟨HF.out, by rw [if_neg (by have := HN.out; omega)]⟩, HB.out.alloc hbs _⟩
        go_wp2
        go_ret2
        exact HPF.out _
      · have HMAY : Hid (a.may = true) := by
          exact may_good f0 f1 f2 f3 f4 f5 f6 f7 f8 f9
        go_wp2_with fail
        refine (rnew_lit a _).mono ?_
        rintro e w1 ⟨rfl, hb1⟩
        have hs1 := hb1.size
        rw [World.size_alloc] at hs1
        have HB1 : Hid (Below w.heap.size w w1) := (HB.out.alloc hbs _).trans (hb1.mono (by simp; omega))
        have HOWN1 : Hid (w1.ownsRow w.heap.size 101 13 u4 k (flatG rfC ((l.take k).map rfOf))) := ownsRow_below (HREL.out.1.alloc _) hb1
        clear hb1
        go_wp2_with (
          (at_builtin
           refine wpList_append_own _ rfl (.tmp 69) (.tmp 72) 48 rfl w.heap.size 101 i0 _ 13 104 Try.underlying48 hi0 hz0 hz1 hz2 rfl (by omega) u4 k (flatG rfC ((l.take k).map rfOf)) rfl (HOWN1.out.alloc _)
             ⟨w1.heap.size, 0, none⟩ 1 1 (rfC (rfOf a)) rfl rfl ?c1 ?c2 ?c3 ?c4 ?c5 ?_))
        case c1 => exact World.news_of_block (cs := (rfOf a).cells) (t := 101) (fr := (0, 0)) (heap_alloc_new w1 _)
        case c2 => exact fun u hu => flatG_one [rfOf a] u (by simpa [flatG] using hu)
        case c3 => unfold maxLen; omega
        case c4 => omega
        case c5 => simp; omega
        · intro v' w3 hown3 hgrow hiff
          have HR : Hid (RNewRel w l (k + 1) v' w3) := by
            refine ⟨?_, ?_, ?_, fun e => by first | exact hiff e | exact HREL.out.2.2.2 (hiff.1 e).1⟩
            · rw [take_snoc' l k a HLK.out, List.map_append, List.map_cons, List.map_nil, flatG_snoc]
              rw [List.map_take]
              exact hown3
            · exact (HB1.out.alloc (by omega) _).grown hgrow (by simp; omega) (fun g hg => (HOWN1.out.lt g hg).1)
            · rw [take_snoc' l k a HLK.out, List.all_append, HREL.out.2.2.1]
              simpa using HMAY.out
          clear hown3 hgrow hiff
          go_wp2
          go_roundw
          case rel => exact ⟨k + 1, by omega, by go_num, HR.out⟩
          case measure => simp [intOf]; omega
    · have HP : Hid (∀ v', v' = u4 → RNewPost w l n (.returned (.tuple #[v', .int .i64 0])) wr) := by
        rintro v' rfl
        have hkn : k = n := by omega
        obtain ⟨ho, hb, hall, hnn⟩ := HREL.out
        rw [hkn, List.take_of_length_le (by have := HN.out; omega)] at ho hall
        obtain ⟨b', c', hv, hbb, hrr, hr⟩ := rfOwn_some (by rw [List.length_map]; have := HN.out; omega) hnn ho
        refine ⟨.inl ⟨?_, b', c', by rw [hv], hbb, hrr, hr.rowG⟩, hb⟩
        unfold newOk
        rw [hall]
        simp
        have := HN.out
        omega
      clear hrel
      go_wp2_with fail
      go_ret2
      exact HP.out _ rfl

end Go.Proofs.Ytgnjenmicojgnaa
