/-
  What Fix makes of attributes; what Begin makes of them.
-/
import Derived.Test.YtgnjenmicojgnaaGreatT5w
import Derived.Test.YtgnjenmicojgnaaGreatE0w
import Derived.Test.YtgnjenmicojgnaaGreatK2w
namespace Go.Proofs.YtgnjenmicojgnaaGreat
set_option linter.unusedVariables false
set_option linter.unusedSimpArgs false
open Go.RowKit

def mU (x m : Int) : Int := wrap64 ((IntKind.u64.wrap x).tmod m)
theorem mU_in (x m : Int) (hm : 0 < m) (hm2 : m ≤ 100) : 0 ≤ mU x m ∧ mU x m < m := by
  obtain ⟨k, h1, h2, h3⟩ := mod_u x m hm hm2
  unfold mU
  omega
def fixA (a : At) : At := ⟨wrap64 (1 + wrap64 ((IntKind.u64.wrap a.pri).tmod 4)), wrap64 ((IntKind.u64.wrap a.per).tmod 9), wrap64 ((IntKind.u64.wrap a.cap).tmod 5), wrap64 ((IntKind.u64.wrap a.dl).tmod 9), wrap64 ((IntKind.u64.wrap a.off).tmod 4)⟩
theorem fixA_may (a : At) : (fixA a).may = true := by
  have h0 := mU_in a.pri 4 (by omega) (by omega)
  have h1 := mU_in a.per 9 (by omega) (by omega)
  have h2 := mU_in a.cap 5 (by omega) (by omega)
  have h3 := mU_in a.dl 9 (by omega) (by omega)
  have h4 := mU_in a.off 4 (by omega) (by omega)
  unfold mU at h0 h1 h2 h3 h4
  have h5 : wrap64 (1 + wrap64 ((IntKind.u64.wrap a.pri).tmod 4)) = 1 + wrap64 ((IntKind.u64.wrap a.pri).tmod 4) := by
    generalize wrap64 ((IntKind.u64.wrap a.pri).tmod 4) = y at *
    unfold wrap64
    omega
  simp only [At.may, mayB, inB, Bool.and_eq_true, decide_eq_true_eq, fixA, h5]
  omega
def fixL (l : List At) : List At := (l.take 5).map fixA
theorem fixL_len (l : List At) : (fixL l).length ≤ 5 := by unfold fixL; simp; omega
theorem fixL_ok (l : List At) : newOk (fixL l) = true := by
  have := fixL_len l
  unfold newOk
  rw [Bool.and_eq_true, List.all_eq_true]
  refine ⟨by simp; omega, fun a ha => ?_⟩
  unfold fixL at ha
  obtain ⟨b, -, rfl⟩ := List.mem_map.1 ha
  exact fixA_may b

def FixRel (w : World) (l : List At) (k : Nat) (v : Value) (wr : World) : Prop := wr.ownsRow w.heap.size 65 5 v k (flatG atC ((l.take k).map fixA)) ∧ Below w.heap.size w wr
def FixPost (w : World) (l : List At) (e : Ending) (w' : World) : Prop := ∃ A c, e = .returned (.slice A (fixL l).length c) ∧ AtRow w' A (fixL l) ∧ Below w.heap.size w w'

set_option maxRecDepth 100000 in
set_option maxHeartbeats 2000000 in
theorem fix_any (A : Option Addr) (n cc : Nat) (l : List At) (w : World) (hn : l.length = n) (hA : AtRow w A l) :
    Calls Tryz.prog 8 #[.slice A n cc] w (FixPost w l) := by
  obtain ⟨i0, hi0, hz0, hz1, hz2⟩ := info_parts info65
  have HN := Lib.hid hn
  have HA := Lib.hid hA
  clear hn hA
  obtain ⟨m, hmm⟩ : ∃ m : Nat, m = min n 5 := ⟨_, rfl⟩
  have hm5 : m ≤ 5 := by omega
  have hmn : m ≤ n := by omega
  have HM := Lib.hid hmm
  clear hmm
  go_enter Tryz.func8, Tryz.ntmps8
  go_wp2
  go_loopw [3, 4] (fun v i wr => ∃ k : Nat, k ≤ m ∧ i = .int .i64 k ∧ FixRel w l k v wr) (fun _ i _ => m - (intOf i).toNat)
  case atStart => exact ⟨0, Nat.zero_le _, rfl, World.ownsRow_nil _ _ _ _, Below.refl _ _⟩
  case round =>
    obtain ⟨k, hk, rfl, hrel⟩ := hrel
    have HREL := Lib.hid hrel
    have hb := hrel.2
    have hbs := hb.size
    by_cases hlt : k < m
    · have hkn : (k : Int) < (n : Int) := by omega
      have hk5 : (k : Int) < 5 := by omega
      have hk0 : (0 : Int) ≤ (k : Int) := by omega
      obtain ⟨b, o, rfl, hbl, hel⟩ := HA.out (by have := HN.out; omega)
      obtain ⟨a, hlk⟩ : ∃ a, l[k]? = some a := ⟨_, List.getElem?_eq_getElem (by have := HN.out; omega)⟩
      have hE := hel k a hlk
      have e0 := (hb.cell (p := ⟨b, o + k * 5, none⟩) hbl).trans hE.c0
      have e1 := (hb.cell (p := ⟨b, o + k * 5 + 1, none⟩) hbl).trans hE.c1
      have e2 := (hb.cell (p := ⟨b, o + k * 5 + 2, none⟩) hbl).trans hE.c2
      have e3 := (hb.cell (p := ⟨b, o + k * 5 + 3, none⟩) hbl).trans hE.c3
      have e4 := (hb.cell (p := ⟨b, o + k * 5 + 4, none⟩) hbl).trans hE.c4
      have hbl' : b < wr.heap.size := by omega
      have HLK := Lib.hid hlk
      have HB := Lib.hid hb
      clear hlk hel hE hrel hb
      go_wp2_with (
        (at_builtin
         refine wpList_append_own _ rfl (.tmp 20) (.tmp 48) 22 rfl w.heap.size 65 i0 _ 5 40 Tryz.underlying22 hi0 hz0 hz1 hz2 rfl (by omega) u3 k (flatG atC ((l.take k).map fixA)) rfl ((HREL.out.1.alloc _).alloc _)
           ⟨wr.heap.size + 1, 0, none⟩ 1 1 (atC (fixA a)) rfl rfl ?c1 ?c2 ?c3 ?c4 ?c5 ?_))
      case c1 => exact World.news_of_block (cs := #[.int .i64 (wrap64 (1 + wrap64 ((IntKind.u64.wrap a.pri).tmod 4))), .int .i64 (wrap64 ((IntKind.u64.wrap a.per).tmod 9)), .int .i64 (wrap64 ((IntKind.u64.wrap a.cap).tmod 5)), .int .i64 (wrap64 ((IntKind.u64.wrap a.dl).tmod 9)), .int .i64 (wrap64 ((IntKind.u64.wrap a.off).tmod 4))]) (t := 65) (fr := (0, 0)) (by have := heap_alloc_new (wr.alloc (.cells #[.int .i64 a.pri, .int .i64 a.per, .int .i64 a.cap, .int .i64 a.dl, .int .i64 a.off] 65)) (.cells #[.int .i64 (wrap64 (1 + wrap64 ((IntKind.u64.wrap a.pri).tmod 4))), .int .i64 (wrap64 ((IntKind.u64.wrap a.per).tmod 9)), .int .i64 (wrap64 ((IntKind.u64.wrap a.cap).tmod 5)), .int .i64 (wrap64 ((IntKind.u64.wrap a.dl).tmod 9)), .int .i64 (wrap64 ((IntKind.u64.wrap a.off).tmod 4))] 65); simpa using this)
      case c2 => intro u hu; simp [atC] at hu; rcases hu with h | h | h | h | h <;> subst h <;> rfl
      case c3 => unfold maxLen; omega
      case c4 => omega
      case c5 => simp; omega
      · intro v' w3 hown3 hgrow _
        have HR : Hid (FixRel w l (k + 1) v' w3) := by
          refine ⟨?_, ?_⟩
          · rw [take_snoc' l k a HLK.out, List.map_append, List.map_cons, List.map_nil, flatG_snoc]
            first | exact hown3 | (rw [List.map_take]; exact hown3)
          · exact ((HB.out.alloc HB.out.size _).alloc (by simp; omega) _).grown hgrow (by simp; omega) (fun g hg => (HREL.out.1.lt g hg).1)
        clear hown3 hgrow
        go_wp2
        go_roundw
        case rel => exact ⟨k + 1, by omega, by go_num, HR.out⟩
        case measure => simp [intOf]; omega
    · have hkm : k = m := by omega
      have HP : Hid (FixPost w l (.returned u3) wr) := by
        obtain ⟨ho, hb⟩ := HREL.out
        have ht : (l.take k).map fixA = fixL l := by
          unfold fixL
          by_cases h5 : n < 5
          · rw [List.take_of_length_le (by have := HN.out; have := HM.out; omega), List.take_of_length_le (by have := HN.out; omega)]
          · rw [show k = 5 by have := HM.out; omega]
        have hlen : k = (fixL l).length := by
          unfold fixL
          have := HN.out
          have := HM.out
          simp
          omega
        rw [ht] at ho
        obtain ⟨A', c', hv, hr, _⟩ := rowG_of_own atC_length hlen ho
        exact ⟨A', c', by rw [hv, hlen], AtRow.of_rowG hr, hb⟩
      clear hrel hb
      by_cases hkn : k < n
      · have hkn' : (k : Int) < (n : Int) := by omega
        have hk5 : ¬ (k : Int) < 5 := by have := HM.out; omega
        have hk5b : decide ((k : Int) < 5) = false := by simpa using hk5
        clear hkm
        go_wp2_with fail
        go_ret
        exact HP.out
      · have hkn' : ¬ (k : Int) < (n : Int) := by omega
        have hknb : decide ((k : Int) < (n : Int)) = false := by simpa using hkn'
        clear hkm
        go_wp2_with fail
        go_ret
        exact HP.out

end Go.Proofs.YtgnjenmicojgnaaGreat
