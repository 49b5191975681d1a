/-
  What DispatchTurns answers of a number and a list of turns: true.
-/
import Derived.Test.YtgnjenmicojgnaaK5
namespace Go.Proofs.Ytgnjenmicojgnaa
set_option linter.unusedVariables false
set_option linter.unusedSimpArgs false
open Go.RowKit

/-- A slice of bools that came in. -/
def Bools (w : World) (A : Option Addr) (l : List Bool) : Prop :=
  ∀ (k : Nat) (x : Bool), l[k]? = some x → ∃ b o, A = some ⟨b, o, none⟩ ∧ b < w.heap.size ∧ w.cell? ⟨b, o + k, none⟩ = some (.bool x)

structure AttInv (w wr : World) (n k : Nat) (a : At) : Prop where
  get : ∃ cur, wr.heap[w.heap.size]? = some (.cells cur 31 (0, 0)) ∧ cur.size = n * 5 ∧ ∀ i, i < k → ∀ j, j < 5 → cur[i * 5 + j]? = (atC a)[j]?
  bel : Below w.heap.size w wr

theorem AttInv.row {w wr : World} {n : Nat} {a : At} (h : AttInv w wr n n a) : AtRow wr (some ⟨w.heap.size, 0, none⟩) (List.replicate n a) := by
  obtain ⟨cur, hg, hs, hc⟩ := h.get
  refine AtRow.of_rowG (fun _ => ⟨w.heap.size, 0, rfl, (Array.getElem?_eq_some_iff.1 hg).1, fun i x hx k hk => ?_⟩)
  rw [List.getElem?_replicate] at hx
  split at hx
  · rename_i hi
    injection hx with hx
    subst hx
    rw [cell_of_row wr _ _ cur 31 (0, 0) hg, Nat.zero_add]
    exact hc i hi k hk
  · cases hx

theorem AttInv.put {w wr : World} {n k : Nat} {a : At} (h : AttInv w wr n k a) (hk : k < n) : AttInv w (wr.setCells w.heap.size (k * 5) (atC a)) n (k + 1) a := by
  obtain ⟨cur, hg, hs, hc⟩ := h.get
  obtain ⟨cur', hg', hs', hc'⟩ := heap_setCells (atC a) (k * 5) wr cur hg
  refine ⟨⟨cur', hg', by omega, fun i hi j hj => ?_⟩, ?_⟩
  · rw [hc' _ (by omega)]
    by_cases e : i = k
    · subst e
      rw [if_pos (by rw [atC_length]; omega), show i * 5 + j - i * 5 = j by omega]
    · rw [if_neg (by rw [atC_length]; omega)]
      exact hc i (by omega) j hj
  · exact h.bel.trans ((Kept.setCells wr w.heap.size (k * 5) (atC a)).below h.bel.size (fun i hi => by omega))

theorem new7 {n : Nat} (h1 : 2 ≤ n) (h2 : n ≤ 7) : newOk (List.replicate n (sAt 7)) = true := by
  have : n = 2 ∨ n = 3 ∨ n = 4 ∨ n = 5 ∨ n = 6 ∨ n = 7 := by omega
  rcases this with rfl | rfl | rfl | rfl | rfl | rfl <;> decide

theorem map_rep (n : Nat) : (List.replicate n (sAt 7)).map prOf = List.replicate n (prOf (sAt 7)) := List.map_replicate ..

set_option maxRecDepth 100000 in
set_option maxHeartbeats 8000000 in
theorem turns_any (mn : Int) (A : Option Addr) (n1 cc : Nat) (tl : List Bool) (w : World) (hn1 : tl.length = n1) (hA : Bools w A tl) :
    Calls Try.prog 9 #[.int .i64 mn, .slice A n1 cc] w fun e w' => e = .returned (.bool true) ∧ Below w.heap.size w w' := by
  obtain ⟨n, hN, hn2, hn7⟩ : ∃ n : Nat, wrap64 (2 + wrap64 ((IntKind.u64.wrap mn).tmod 6)) = n ∧ 2 ≤ n ∧ n ≤ 7 := by
    have h1 : 0 ≤ IntKind.u64.wrap mn := by
      simp [IntKind.wrap, IntKind.bits, IntKind.signed]
      omega
    have h2 := Int.tmod_nonneg 6 h1
    have h3 := Int.tmod_lt_of_pos (IntKind.u64.wrap mn) (show (0 : Int) < 6 by omega)
    generalize (IntKind.u64.wrap mn).tmod 6 = x at *
    refine ⟨(2 + x).toNat, ?_, by omega, by omega⟩
    unfold wrap64
    omega
  obtain ⟨i0, hi0, hz0, hz1, hz2⟩ := info_parts info31
  obtain ⟨ROW, hsz, hmk⟩ : ∃ ROW : Array Value, ROW.size = n * 5 ∧ ∀ W : World, Sem.run Try.prog (Instr.makeSlice 32 (.int .i64 n) (.int .i64 n)) W = .ok (.slice (some ⟨W.heap.size, 0, none⟩) n n) (W.alloc (.cells ROW 31)) := by
    refine ⟨_, size_madeCells (Value.agg #[.int .i64 0, .int .i64 0, .int .i64 0, .int .i64 0, .int .i64 0]).cells (n * 5), fun W => ?_⟩
    have := run_make (P := Try.prog) W 32 31 i0 _ Try.underlying32 hi0 hz0 .i64 .i64 n n (by omega) (Int.le_refl _) (by rw [hz2]; omega) (by omega)
    simpa [hz1] using this
  have HSZ := Lib.hid hsz
  clear hsz
  have HN1 := Lib.hid hn1
  have HA := Lib.hid hA
  clear hn1 hA hi0 hz0 hz1 hz2
  go_enter Try.func9, Try.ntmps9
  go_wp2_with fail
  obtain ⟨W0, hW0⟩ : ∃ W0, W0 = w.alloc (.cells ROW 31) := ⟨_, rfl⟩
  have HI0 : Hid (AttInv w W0 n 0 (sAt 7)) := by
    rw [hW0]
    exact ⟨⟨_, heap_alloc_new w _, HSZ.out, fun i hi => absurd hi (Nat.not_lt_zero _)⟩, (Below.refl _ _).alloc (Nat.le_refl _) _⟩
  rw [← hW0, hN]
  clear hW0 hmk hN
  go_loopw [7] (fun s7 wr => ∃ k : Nat, k ≤ n ∧ s7 = .int .i64 k ∧ AttInv w wr n k (sAt 7)) (fun i _ => n - (intOf i).toNat)
  case atStart => exact ⟨0, by omega, rfl, HI0.out⟩
  case round =>
    clear HI0
    obtain ⟨k, hk, rfl, hatt⟩ := hrel
    have HATT := Lib.hid hatt
    by_cases hlt : k < n
    · obtain ⟨cur, hg, hs, hc⟩ := hatt.get
      have hfz : ∀ j, wr.frozen? ⟨w.heap.size, j, none⟩ = false := fun j => by simp [World.frozen?, hg]
      have hcell : ∀ j, j < 5 → ∃ u, wr.cell? ⟨w.heap.size, k * 5 + j, none⟩ = some u := fun j hj => by
        rw [cell_of_row wr _ _ cur 31 (0, 0) hg, Array.getElem?_eq_getElem (by omega)]
        exact ⟨_, rfl⟩
      obtain ⟨u0, e0⟩ := hcell 0 (by omega)
      obtain ⟨u1, e1⟩ := hcell 1 (by omega)
      obtain ⟨u2, e2⟩ := hcell 2 (by omega)
      obtain ⟨u3, e3⟩ := hcell 3 (by omega)
      obtain ⟨u4, e4⟩ := hcell 4 (by omega)
      rw [Nat.add_zero] at e0
      have hwl : w.heap.size < wr.heap.size := (Array.getElem?_eq_some_iff.1 hg).1
      have HPUT := Lib.hid (hatt.put hlt)
      clear hg hs hc hcell hatt
      go_wp2_with fail
      go_roundw
      case rel => exact ⟨k + 1, by omega, by go_num, HPUT.out⟩
      case measure => simp [intOf]; omega
    · obtain rfl : k = n := by omega
      clear hlt hatt hk
      go_wp2_with fail
      refine (dnew_any (some ⟨w.heap.size, 0, none⟩) k k (List.replicate k (sAt 7)) wr (by simp) HATT.out.row (by omega) (new7 hn2 hn7)).mono ?_
      rintro e w1 ⟨d, t, g, c, l, m, rfl, hD, hlow, hb1⟩
      have L1 : Hid (Lives w w1 d t g c l m v0 (.slice none 0 0) ((List.replicate k (sAt 7)).map prOf) (rowR 7 []) []) := ⟨by rw [rowR_nil]; exact hD, fun i hi => Nat.le_trans HATT.out.bel.size (hlow i hi), HATT.out.bel.trans (hb1.mono HATT.out.bel.size)⟩
      clear hD hlow hb1 HATT
      obtain ⟨n, hnk⟩ : ∃ n, n = k := ⟨_, rfl⟩
      subst hnk
      go_wp2_with fail
      refine (told_any20 w1).mono ?_
      rintro e w2 ⟨rfl, hb2⟩
      have L2 := Lib.hid (L1.out.below hb2)
      clear hb2 L1
      go_wp2_with fail
      go_loopw [10, 11] (fun s10 s11 wr => ∃ (k cnt : Nat) (V : Nat → Value) (v : Value) (ps : List Pr) (row : List Int), k ≤ 60 ∧ k ≤ n1 ∧ s11 = .int .i64 k ∧ (k = 0 → cnt = 0) ∧ (0 < k → 0 < cnt) ∧ TInv n cnt row ps ∧ Lives w wr d t g c l m V v ps (rowR 7 row) [] ∧ Own wr s10 row ∧ (∀ b, s10.ownBlock = some b → w.heap.size ≤ b ∧ ¬ inD d t g l m V v b)) (fun _ i _ => 60 - (intOf i).toNat)
      case atStart => exact ⟨0, 0, v0, .slice none 0 0, _, [], by omega, by omega, rfl, fun _ => rfl, fun h => absurd h (Nat.lt_irrefl _), TInv.zero n, L2.out, Own.nil _, fun b hb => by simp [Value.ownBlock] at hb⟩
      case round =>
        clear L2
        obtain ⟨k, cnt, V, v, ps, row, hk, hkn, rfl, hk0, hkp, hti, hlv, hown, hout⟩ := hrel
        have HL := Lib.hid hlv
        have HT := Lib.hid hti
        have HO := Lib.hid hown
        have HOUT := Lib.hid hout
        clear hlv hti hown hout
        by_cases hlt : k < n1 ∧ k < 60
        · obtain ⟨hlt1, hlt2⟩ := hlt
          obtain ⟨x, hx⟩ : ∃ x, tl[k]? = some x := ⟨_, List.getElem?_eq_getElem (by have := HN1.out; omega)⟩
          obtain ⟨ab, ao, rfl, habl, hacell⟩ := HA.out k x hx
          have HAC := Lib.hid hacell
          clear hx hacell
          obtain ⟨ua, uc, hus⟩ := HO.out.sl
          subst hus
          have hrl := HT.out.rl
          have hcn := HT.out.cn
          rw [hrl] at HO HOUT ⊢
          have htm : (k : Int).tmod 2 = (k : Int) % 2 := Int.tmod_eq_emod_of_nonneg (by omega)
          by_cases hst : cnt < n ∧ k % 2 = 0
          · obtain ⟨hst1, hst2⟩ := hst
            have hev : ((k : Int).tmod 2 == 0) = true := by rw [htm]; simp; omega
            have hev2 : (k : Int).tmod 2 = 0 := by omega
            have hev3 : ((k : Int) % 2 == 0) = true := by simp; omega
            clear htm
            obtain ⟨ha1, ha2, ha3, ha4⟩ := HT.out.start hst1 (k := (k : Int)) ⟨by omega, by omega⟩
            obtain ⟨ps', hps'⟩ : ∃ ps', ps.set cnt (sP 7 k) = ps' := ⟨_, rfl⟩
            rw [hps'] at ha1 ha2 ha3
            have HA1 := Lib.hid ha1
            have HA2 := Lib.hid ha2
            have HA3 := Lib.hid ha3
            have HA4 := Lib.hid ha4
            clear ha1 ha2 ha3 ha4 hps'
            go_wp2_with fail
            refine (dstart_ok (ps' := ps') (R' := rowR 7 (row ++ [(cnt : Int)])) HL.out.D cnt k HA1.out (fun W hW => by
              have := follow_put hW cnt 7 (by omega) (by omega) (by rw [HA3.out]; rfl) (by rw [HA3.out]; rfl) (by rw [HA3.out]; rfl) (rowR_none HA4.out) (rowR_len (by omega) _) (by simp) rfl
              rw [rowR_at, rowR_put] at this
              exact this)).mono ?_
            intro e w3 hp
            obtain ⟨rfl, V3, v3, hl3, hk3, hn3⟩ := HL.out.step hp
            have L3 := Lib.hid hl3
            have HO3 : Hid (Own w3 (.slice ua cnt uc) row) := HO.out.keep (fun b hb => hk3.block b (HO.out.lt b hb) (HOUT.out b hb).2)
            have HOUT3 : Hid (∀ b, (Value.slice ua cnt uc).ownBlock = some b → w.heap.size ≤ b ∧ ¬ inD d t g l m V3 v3 b) := fun b hb => ⟨(HOUT.out b hb).1, fun hi => by
              rcases hn3 b hi with h1 | h1
              · exact (HOUT.out b hb).2 h1
              · have := HO.out.lt b hb
                omega⟩
            clear hp hl3 hk3 hn3 HO HOUT HL
            obtain ⟨v', w4, hrun, ho4, hg4, hf4⟩ := own_append (t := 42) (tx := 42) (ty := 42) Try.underlying42 Try.underlying42 (HO3.out.alloc (.cells #[.int .i64 cnt] 3)) (x := .slice (some ⟨w3.heap.size, 0, none⟩) 1 1) (ys := [(cnt : Int)]) ⟨_, _, rfl, fun _ => ⟨_, rfl, fun j u hu => by
              match j, hu with
              | 0, hu =>
                simp [iv] at hu
                subst hu
                simp [Addr.add]
              | j + 1, hu => simp [iv] at hu⟩⟩ (by simp; omega)
            have hka : Kept w3 w4 (fun i => (Value.slice ua cnt uc).ownBlock = some i) :=
              (Kept.of_below ((Below.refl _ _).alloc (Nat.le_refl _) _)).trans (Kept.of_grown hg4 (S := fun i => (Value.slice ua cnt uc).ownBlock = some i) (fun i hi => hi)) (fun _ _ hi => hi)
            have L4 : Hid (Lives w w4 d t g c l m V3 v3 ps' (rowR 7 (row ++ [(cnt : Int)])) []) := ⟨L3.out.D.kept hka (fun i hi hs => (HOUT3.out i hs).2 hi), L3.out.low, L3.out.bel.trans (hka.below L3.out.bel.size (fun i hi => (HOUT3.out i hi).1))⟩
            have HOUT4 : Hid (∀ b, v'.ownBlock = some b → w.heap.size ≤ b ∧ ¬ inD d t g l m V3 v3 b) := fun b hb => by
              rcases hf4 b hb with h1 | h1
              · exact HOUT3.out b h1
              · refine ⟨by have := L3.out.bel.size; simp at h1; omega, fun hi => ?_⟩
                have := L3.out.D.lt hi
                simp at h1
                omega
            obtain ⟨wb, cb, hvs⟩ := ho4.sl
            subst hvs
            have HO4 := Lib.hid ho4
            obtain ⟨row', hrow'⟩ : ∃ row', row ++ [(cnt : Int)] = row' := ⟨_, rfl⟩
            rw [hrow'] at L4 HO4 HOUT4 hrun HA2
            have hrl' : row'.length = cnt + 1 := HA2.out.rl
            rw [hrl'] at HO4 HOUT4 hrun
            clear ho4 hg4 hf4 hka HO3 HOUT3 L3 HA1 HA3 HA4 hrow' HT
            have hcn' := HA2.out.cn
            go_wp2_with (first | (at_builtin; refine Lib.wpList_append_run _ rfl _ _ _ _ rfl _ _ rfl rfl _ _ hrun ?_))
            obtain ⟨y, rs, hrow⟩ : ∃ y rs, row' = y :: rs := by
              cases hr : row' with
              | nil => have h0 := HA2.out.rl; rw [hr] at h0; simp only [List.length_nil] at h0; omega
              | cons a b => exact ⟨a, b, rfl⟩
            rw [hrow] at L4 HA2 HO4
            have hall : allR (rowR 7 (y :: rs)) = y :: rs := rowR_all (by omega) _
            have HALL := Lib.hid hall
            obtain ⟨yb, hy1, hy2, hy3, hy4⟩ := HA2.out.head
            have HY := Lib.hid hy1
            have HY4 := Lib.hid hy4
            obtain ⟨gb, hgb, hgl, hgc⟩ : ∃ gb, wb = some ⟨gb, 0, none⟩ ∧ gb < w4.heap.size ∧ w4.cell? ⟨gb, 0, none⟩ = some (.int .i64 y) := by
              rcases HO4.out.shape with ⟨_, h0⟩ | ⟨g0, c0, cur, h1, h2, h3, h4, h5, h6⟩
              · cases h0
              · injection h1 with e1 e2 e3
                refine ⟨g0, e1, (Array.getElem?_eq_some_iff.1 h2).1, ?_⟩
                rw [cell_of_row w4 g0 0 cur 3 (0, 0) h2]
                exact h6 0 y rfl
            subst hgb
            have hucn : (cnt + 1) ≤ cb ∧ cb ≤ 9223372036854775807 := by
              rcases HO4.out.shape with ⟨_, h0⟩ | ⟨g0, c0, cur, h1, h2, h3, h4, h5, h6⟩
              · cases h0
              · injection h1 with e1 e2 e3
                unfold maxLen at h5
                omega
            obtain ⟨hucn1, hucn2⟩ := hucn
            clear hall hy1 hy4 hrow
            go_wp2_with fail
            refine (pick_any L4.out.D (x := y) (b := true) (by unfold first; rw [HALL.out]; rfl) (by unfold some1; rw [HALL.out]; rfl)).mono ?_
            rintro e w5 ⟨rfl, hb5⟩
            have L5 := Lib.hid (L4.out.below hb5)
            have HO5 : Hid (Own w5 (.slice (some ⟨gb, 0, none⟩) (cnt + 1) cb) (y :: rs)) := HO4.out.keep (fun b hb => hb5.block b (HO4.out.lt b hb))
            have hgc5 := (hb5.cell (p := ⟨gb, 0, none⟩) hgl).trans hgc
            have hgl5 : gb < w5.heap.size := by have := hb5.size; omega
            clear hb5 hgc hgl
            go_wp2_with fail
            refine (ready_any L5.out.D (rowR_len (by have := HA2.out.rl; have := HA2.out.cn; omega))).mono ?_
            rintro e w6 ⟨u6, rfl, ho6, hf6, hb6⟩
            rw [HALL.out] at ho6
            have HR6 := Lib.hid ho6.ri
            have L6 := Lib.hid (L5.out.below hb6)
            have HO6 : Hid (Own w6 (.slice (some ⟨gb, 0, none⟩) (cnt + 1) cb) (y :: rs)) := HO5.out.keep (fun b hb => hb6.block b (HO5.out.lt b hb))
            clear ho6 hf6 hb6
            go_wp2_with fail
            refine (same20_any u6 (.slice (some ⟨gb, 0, none⟩) (cnt + 1) cb) (y :: rs) (y :: rs) w6 HR6.out HO6.out.ri (by have := HA2.out.rl; have := HA2.out.cn; omega)).mono ?_
            rw [show decide (y :: rs = y :: rs) = true by simp]
            rintro e w7 ⟨rfl, hb7⟩
            have L7 := Lib.hid (L6.out.below hb7)
            have HO7 : Hid (Own w7 (.slice (some ⟨gb, 0, none⟩) (cnt + 1) cb) (y :: rs)) := HO6.out.keep (fun b hb => hb7.block b (HO6.out.lt b hb))
            have hac7 : w7.cell? ⟨ab, ao + k, none⟩ = some (.bool x) := (L7.out.bel.cell (p := ⟨ab, ao + k, none⟩) habl).trans HAC.out
            have habl7 : ab < w7.heap.size := by have := L7.out.bel.size; omega
            clear hb7 hgc5
            cases x with
            | false =>
              go_wp2_with fail
              go_roundw
              case rel => exact ⟨k + 1, (cnt + 1), V3, v3, ps', y :: rs, by omega, by omega, by go_num, fun h => by omega, fun _ => by omega, HA2.out, L7.out, HO7.out, HOUT4.out⟩
              case measure => simp [intOf]; omega
            | true =>
              obtain ⟨A0, hA0, hdrop⟩ : ∃ A0 : Addr, (if cb = 1 then some ⟨gb, 0, none⟩ else some ⟨gb, 1, none⟩ : Option Addr) = some A0 ∧ Hid (∀ (j : Nat) (u : Value), (iv rs)[j]? = some u → (A0.add j).block = gb ∧ w7.cell? (A0.add j) = some u) := by
                have hl : rs.length = (cnt + 1) - 1 := by have h1 := HA2.out.rl; simp only [List.length_cons] at h1; omega
                by_cases h1 : cb = 1
                · have : rs = [] := List.eq_nil_of_length_eq_zero (by omega)
                  subst this
                  exact ⟨⟨gb, 0, none⟩, if_pos h1, fun j u hu => by simp [iv] at hu⟩
                · refine ⟨⟨gb, 1, none⟩, if_neg h1, fun j u hu => ⟨by simp [Addr.add_lit], ?_⟩⟩
                  have := World.ownsRow.cells HO7.out (g := gb) rfl (j + 1) u (by simpa [iv] using hu)
                  rw [Addr.add_lit] at this ⊢
                  rw [show 1 + j = 0 + (j + 1) by omega]
                  exact this
              go_wp2_with fail
              refine (yield_any L7.out.D y 7 7 hy2 (by rw [HA2.out.len]; exact hy3) (by omega) (rowR_prio (by omega) (List.mem_cons_self ..)) (by rw [HY.out]; rfl) (by rw [rowR_at, rowR_put, List.erase_cons_head]; exact rowR_none HY4.out) (by rw [rowR_at, rowR_put, List.erase_cons_head, rowR_at]; have h1 := HA2.out.rl; have h2 := HA2.out.cn; simp only [List.length_cons] at h1; omega)).mono ?_
              rw [rowR_at, rowR_put, List.erase_cons_head, rowR_at, rowR_put]
              intro e w8 hp
              obtain ⟨rfl, V8, v8, hl8, hk8, hn8⟩ := L7.out.step hp
              have L8 := Lib.hid hl8
              have HK8 := Lib.hid hk8
              have hdrop8 : Hid (∀ (j : Nat) (u : Value), (iv rs)[j]? = some u → w8.cell? (A0.add j) = some u) := by
                intro j u hu
                obtain ⟨hbk, hold⟩ := hdrop.out j u hu
                rw [HK8.out.cell (by rw [hbk]; exact HO7.out.lt gb rfl) (by rw [hbk]; exact (HOUT4.out gb rfl).2)]
                exact hold
              clear hp hl8 hk8 hn8 hdrop hac7
              have ho0 : Own (w8.alloc (.cells #[] 3)) (.slice (some ⟨w8.heap.size, 0, none⟩) 0 0) [] := Own.make (xs := []) (heap_alloc_new w8 _) rfl (Nat.le_refl _) (Nat.zero_le _) (fun i x hx => by simp at hx)
              have hrd : Reads (w8.alloc (.cells #[] 3)) (.slice (some A0) ((cnt + 1) - 1) (cb - 1)) rs := by
                have hl : rs.length = (cnt + 1) - 1 := by have h1 := HA2.out.rl; simp only [List.length_cons] at h1; omega
                exact ⟨_, _, by rw [hl], fun h => ⟨_, rfl, fun j u hu => Lib.cell?_alloc_some _ (hdrop8.out j u hu)⟩⟩
              have hrsl : rs.length ≤ 100 := by have h1 := HA2.out.rl; have h2 := HA2.out.cn; simp only [List.length_cons] at h1; omega
              obtain ⟨x1, w9, hrun1, ho1, hg1, hf1⟩ := own_append (t := 42) (tx := 42) (ty := 42) Try.underlying42 Try.underlying42 ho0 hrd (by simp; omega)
              rw [List.nil_append] at ho1
              have hb9 : Below w8.heap.size w8 w9 := grown_below (w := w8) ((Below.refl _ _).alloc (Nat.le_refl _) _) hg1 (fun b hb => by simp only [Value.ownBlock] at hb; injection hb with hb; omega)
              have hx1 : ∀ b, x1.ownBlock = some b → w8.heap.size ≤ b := fun b hb => by
                rcases hf1 b hb with h1 | h1
                · simp only [Value.ownBlock] at h1
                  injection h1 with h1
                  omega
                · simp at h1
                  omega
              obtain ⟨x2, w10, hrun2, ho2, hg2, hf2⟩ := own_append (t := 42) (tx := 42) (ty := 42) Try.underlying42 Try.underlying42 (ho1.alloc (.cells #[.int .i64 y] 3)) (x := .slice (some ⟨w9.heap.size, 0, none⟩) 1 1) (ys := [y]) ⟨_, _, rfl, fun _ => ⟨_, rfl, fun j u hu => by
                match j, hu with
                | 0, hu =>
                  simp [iv] at hu
                  subst hu
                  simp [Addr.add]
                | j + 1, hu => simp [iv] at hu⟩⟩ (by simp; omega)
              have hb10 : Below w8.heap.size w8 w10 := grown_below (w := w8) (hb9.alloc hb9.size _) hg2 hx1
              have hx2 : ∀ b, x2.ownBlock = some b → w8.heap.size ≤ b := fun b hb => by
                rcases hf2 b hb with h1 | h1
                · exact hx1 b h1
                · have := hb9.size
                  simp at h1
                  omega
              have L10 := Lib.hid (L8.out.below hb10)
              have HO10 := Lib.hid ho2
              have HOUT10 : Hid (∀ b, x2.ownBlock = some b → w.heap.size ≤ b ∧ ¬ inD d t g l m V8 v8 b) := fun b hb => by
                have h1 := hx2 b hb
                have h2 := L8.out.bel.size
                exact ⟨by omega, fun hi => by have := L8.out.D.lt hi; omega⟩
              have HT10 := Lib.hid HA2.out.turn
              clear ho0 hrd ho1 hg1 hf1 hb9 hx1 ho2 hg2 hf2 hb10 hx2 hdrop8 hrsl HK8 L8
              go_wp2_with (first
                | (at_builtin; refine Lib.wpList_append_run _ rfl (.tmp 100) (.tmp 102) 42 42 rfl _ _ rfl rfl _ _ hrun1 ?_)
                | (at_builtin; refine Lib.wpList_append_run _ rfl (.tmp 103) (.tmp 105) 42 42 rfl _ _ rfl rfl _ _ hrun2 ?_))
              go_roundw
              case rel => exact ⟨k + 1, (cnt + 1), V8, v8, ps', rs ++ [y], by omega, by omega, by go_num, fun h => by omega, fun _ => by omega, HT10.out, L10.out, HO10.out, HOUT10.out⟩
              case measure => simp [intOf]; omega
          · have hcnt : 0 < cnt := by
              by_cases h0 : k = 0
              · have := hk0 h0
                omega
              · exact hkp (by omega)
            by_cases hcn2 : cnt < n
            · have hodd : ((k : Int).tmod 2 == 0) = false := by rw [htm]; simp; omega
              have hodd2 : ¬ (k : Int).tmod 2 = 0 := by omega
              have hodd3 : ((k : Int) % 2 == 0) = false := by simp; omega
              clear htm hst
              obtain ⟨y, rs, hrow⟩ : ∃ y rs, row = y :: rs := by
                cases hr : row with
                | nil => have h0 := HT.out.rl; rw [hr] at h0; simp only [List.length_nil] at h0; omega
                | cons a b => exact ⟨a, b, rfl⟩
              rw [hrow] at HL HT HO
              have hall : allR (rowR 7 (y :: rs)) = y :: rs := rowR_all (by omega) _
              have HALL := Lib.hid hall
              obtain ⟨yb, hy1, hy2, hy3, hy4⟩ := HT.out.head
              have HY := Lib.hid hy1
              have HY4 := Lib.hid hy4
              obtain ⟨gb, hgb, hgl, hgc⟩ : ∃ gb, ua = some ⟨gb, 0, none⟩ ∧ gb < wr.heap.size ∧ wr.cell? ⟨gb, 0, none⟩ = some (.int .i64 y) := by
                rcases HO.out.shape with ⟨_, h0⟩ | ⟨g0, c0, cur, h1, h2, h3, h4, h5, h6⟩
                · cases h0
                · injection h1 with e1 e2 e3
                  refine ⟨g0, e1, (Array.getElem?_eq_some_iff.1 h2).1, ?_⟩
                  rw [cell_of_row wr g0 0 cur 3 (0, 0) h2]
                  exact h6 0 y rfl
              subst hgb
              have hucn : cnt ≤ uc ∧ uc ≤ 9223372036854775807 := by
                rcases HO.out.shape with ⟨_, h0⟩ | ⟨g0, c0, cur, h1, h2, h3, h4, h5, h6⟩
                · cases h0
                · injection h1 with e1 e2 e3
                  unfold maxLen at h5
                  omega
              obtain ⟨hucn1, hucn2⟩ := hucn
              clear hall hy1 hy4 hrow
              go_wp2_with fail
              refine (pick_any HL.out.D (x := y) (b := true) (by unfold first; rw [HALL.out]; rfl) (by unfold some1; rw [HALL.out]; rfl)).mono ?_
              rintro e w5 ⟨rfl, hb5⟩
              have L5 := Lib.hid (HL.out.below hb5)
              have HO5 : Hid (Own w5 (.slice (some ⟨gb, 0, none⟩) cnt uc) (y :: rs)) := HO.out.keep (fun b hb => hb5.block b (HO.out.lt b hb))
              have hgc5 := (hb5.cell (p := ⟨gb, 0, none⟩) hgl).trans hgc
              have hgl5 : gb < w5.heap.size := by have := hb5.size; omega
              clear hb5 hgc hgl
              go_wp2_with fail
              refine (ready_any L5.out.D (rowR_len (by have := HT.out.rl; have := HT.out.cn; omega))).mono ?_
              rintro e w6 ⟨u6, rfl, ho6, hf6, hb6⟩
              rw [HALL.out] at ho6
              have HR6 := Lib.hid ho6.ri
              have L6 := Lib.hid (L5.out.below hb6)
              have HO6 : Hid (Own w6 (.slice (some ⟨gb, 0, none⟩) cnt uc) (y :: rs)) := HO5.out.keep (fun b hb => hb6.block b (HO5.out.lt b hb))
              clear ho6 hf6 hb6
              go_wp2_with fail
              refine (same20_any u6 (.slice (some ⟨gb, 0, none⟩) cnt uc) (y :: rs) (y :: rs) w6 HR6.out HO6.out.ri (by have := HT.out.rl; have := HT.out.cn; omega)).mono ?_
              rw [show decide (y :: rs = y :: rs) = true by simp]
              rintro e w7 ⟨rfl, hb7⟩
              have L7 := Lib.hid (L6.out.below hb7)
              have HO7 : Hid (Own w7 (.slice (some ⟨gb, 0, none⟩) cnt uc) (y :: rs)) := HO6.out.keep (fun b hb => hb7.block b (HO6.out.lt b hb))
              have hac7 : w7.cell? ⟨ab, ao + k, none⟩ = some (.bool x) := (L7.out.bel.cell (p := ⟨ab, ao + k, none⟩) habl).trans HAC.out
              have habl7 : ab < w7.heap.size := by have := L7.out.bel.size; omega
              clear hb7 hgc5
              cases x with
              | false =>
                go_wp2_with fail
                go_roundw
                case rel => exact ⟨k + 1, cnt, V, v, ps, y :: rs, by omega, by omega, by go_num, fun h => by omega, fun _ => by omega, HT.out, L7.out, HO7.out, HOUT.out⟩
                case measure => simp [intOf]; omega
              | true =>
                obtain ⟨A0, hA0, hdrop⟩ : ∃ A0 : Addr, (if uc = 1 then some ⟨gb, 0, none⟩ else some ⟨gb, 1, none⟩ : Option Addr) = some A0 ∧ Hid (∀ (j : Nat) (u : Value), (iv rs)[j]? = some u → (A0.add j).block = gb ∧ w7.cell? (A0.add j) = some u) := by
                  have hl : rs.length = cnt - 1 := by have h1 := HT.out.rl; simp only [List.length_cons] at h1; omega
                  by_cases h1 : uc = 1
                  · have : rs = [] := List.eq_nil_of_length_eq_zero (by omega)
                    subst this
                    exact ⟨⟨gb, 0, none⟩, if_pos h1, fun j u hu => by simp [iv] at hu⟩
                  · refine ⟨⟨gb, 1, none⟩, if_neg h1, fun j u hu => ⟨by simp [Addr.add_lit], ?_⟩⟩
                    have := World.ownsRow.cells HO7.out (g := gb) rfl (j + 1) u (by simpa [iv] using hu)
                    rw [Addr.add_lit] at this ⊢
                    rw [show 1 + j = 0 + (j + 1) by omega]
                    exact this
                go_wp2_with fail
                refine (yield_any L7.out.D y 7 7 hy2 (by rw [HT.out.len]; exact hy3) (by omega) (rowR_prio (by omega) (List.mem_cons_self ..)) (by rw [HY.out]; rfl) (by rw [rowR_at, rowR_put, List.erase_cons_head]; exact rowR_none HY4.out) (by rw [rowR_at, rowR_put, List.erase_cons_head, rowR_at]; have h1 := HT.out.rl; have h2 := HT.out.cn; simp only [List.length_cons] at h1; omega)).mono ?_
                rw [rowR_at, rowR_put, List.erase_cons_head, rowR_at, rowR_put]
                intro e w8 hp
                obtain ⟨rfl, V8, v8, hl8, hk8, hn8⟩ := L7.out.step hp
                have L8 := Lib.hid hl8
                have HK8 := Lib.hid hk8
                have hdrop8 : Hid (∀ (j : Nat) (u : Value), (iv rs)[j]? = some u → w8.cell? (A0.add j) = some u) := by
                  intro j u hu
                  obtain ⟨hbk, hold⟩ := hdrop.out j u hu
                  rw [HK8.out.cell (by rw [hbk]; exact HO7.out.lt gb rfl) (by rw [hbk]; exact (HOUT.out gb rfl).2)]
                  exact hold
                clear hp hl8 hk8 hn8 hdrop hac7
                have ho0 : Own (w8.alloc (.cells #[] 3)) (.slice (some ⟨w8.heap.size, 0, none⟩) 0 0) [] := Own.make (xs := []) (heap_alloc_new w8 _) rfl (Nat.le_refl _) (Nat.zero_le _) (fun i x hx => by simp at hx)
                have hrd : Reads (w8.alloc (.cells #[] 3)) (.slice (some A0) (cnt - 1) (uc - 1)) rs := by
                  have hl : rs.length = cnt - 1 := by have h1 := HT.out.rl; simp only [List.length_cons] at h1; omega
                  exact ⟨_, _, by rw [hl], fun h => ⟨_, rfl, fun j u hu => Lib.cell?_alloc_some _ (hdrop8.out j u hu)⟩⟩
                have hrsl : rs.length ≤ 100 := by have h1 := HT.out.rl; have h2 := HT.out.cn; simp only [List.length_cons] at h1; omega
                obtain ⟨x1, w9, hrun1, ho1, hg1, hf1⟩ := own_append (t := 42) (tx := 42) (ty := 42) Try.underlying42 Try.underlying42 ho0 hrd (by simp; omega)
                rw [List.nil_append] at ho1
                have hb9 : Below w8.heap.size w8 w9 := grown_below (w := w8) ((Below.refl _ _).alloc (Nat.le_refl _) _) hg1 (fun b hb => by simp only [Value.ownBlock] at hb; injection hb with hb; omega)
                have hx1 : ∀ b, x1.ownBlock = some b → w8.heap.size ≤ b := fun b hb => by
                  rcases hf1 b hb with h1 | h1
                  · simp only [Value.ownBlock] at h1
                    injection h1 with h1
                    omega
                  · simp at h1
                    omega
                obtain ⟨x2, w10, hrun2, ho2, hg2, hf2⟩ := own_append (t := 42) (tx := 42) (ty := 42) Try.underlying42 Try.underlying42 (ho1.alloc (.cells #[.int .i64 y] 3)) (x := .slice (some ⟨w9.heap.size, 0, none⟩) 1 1) (ys := [y]) ⟨_, _, rfl, fun _ => ⟨_, rfl, fun j u hu => by
                  match j, hu with
                  | 0, hu =>
                    simp [iv] at hu
                    subst hu
                    simp [Addr.add]
                  | j + 1, hu => simp [iv] at hu⟩⟩ (by simp; omega)
                have hb10 : Below w8.heap.size w8 w10 := grown_below (w := w8) (hb9.alloc hb9.size _) hg2 hx1
                have hx2 : ∀ b, x2.ownBlock = some b → w8.heap.size ≤ b := fun b hb => by
                  rcases hf2 b hb with h1 | h1
                  · exact hx1 b h1
                  · have := hb9.size
                    simp at h1
                    omega
                have L10 := Lib.hid (L8.out.below hb10)
                have HO10 := Lib.hid ho2
                have HOUT10 : Hid (∀ b, x2.ownBlock = some b → w.heap.size ≤ b ∧ ¬ inD d t g l m V8 v8 b) := fun b hb => by
                  have h1 := hx2 b hb
                  have h2 := L8.out.bel.size
                  exact ⟨by omega, fun hi => by have := L8.out.D.lt hi; omega⟩
                have HT10 := Lib.hid HT.out.turn
                clear ho0 hrd ho1 hg1 hf1 hb9 hx1 ho2 hg2 hf2 hb10 hx2 hdrop8 hrsl HK8 L8
                go_wp2_with (first
                  | (at_builtin; refine Lib.wpList_append_run _ rfl (.tmp 100) (.tmp 102) 42 42 rfl _ _ rfl rfl _ _ hrun1 ?_)
                  | (at_builtin; refine Lib.wpList_append_run _ rfl (.tmp 103) (.tmp 105) 42 42 rfl _ _ rfl rfl _ _ hrun2 ?_))
                go_roundw
                case rel => exact ⟨k + 1, cnt, V8, v8, ps, rs ++ [y], by omega, by omega, by go_num, fun h => by omega, fun _ => by omega, HT10.out, L10.out, HO10.out, HOUT10.out⟩
                case measure => simp [intOf]; omega
            · clear htm hst
              obtain ⟨y, rs, hrow⟩ : ∃ y rs, row = y :: rs := by
                cases hr : row with
                | nil => have h0 := HT.out.rl; rw [hr] at h0; simp only [List.length_nil] at h0; omega
                | cons a b => exact ⟨a, b, rfl⟩
              rw [hrow] at HL HT HO
              have hall : allR (rowR 7 (y :: rs)) = y :: rs := rowR_all (by omega) _
              have HALL := Lib.hid hall
              obtain ⟨yb, hy1, hy2, hy3, hy4⟩ := HT.out.head
              have HY := Lib.hid hy1
              have HY4 := Lib.hid hy4
              obtain ⟨gb, hgb, hgl, hgc⟩ : ∃ gb, ua = some ⟨gb, 0, none⟩ ∧ gb < wr.heap.size ∧ wr.cell? ⟨gb, 0, none⟩ = some (.int .i64 y) := by
                rcases HO.out.shape with ⟨_, h0⟩ | ⟨g0, c0, cur, h1, h2, h3, h4, h5, h6⟩
                · cases h0
                · injection h1 with e1 e2 e3
                  refine ⟨g0, e1, (Array.getElem?_eq_some_iff.1 h2).1, ?_⟩
                  rw [cell_of_row wr g0 0 cur 3 (0, 0) h2]
                  exact h6 0 y rfl
              subst hgb
              have hucn : cnt ≤ uc ∧ uc ≤ 9223372036854775807 := by
                rcases HO.out.shape with ⟨_, h0⟩ | ⟨g0, c0, cur, h1, h2, h3, h4, h5, h6⟩
                · cases h0
                · injection h1 with e1 e2 e3
                  unfold maxLen at h5
                  omega
              obtain ⟨hucn1, hucn2⟩ := hucn
              clear hall hy1 hy4 hrow
              go_wp2_with fail
              refine (pick_any HL.out.D (x := y) (b := true) (by unfold first; rw [HALL.out]; rfl) (by unfold some1; rw [HALL.out]; rfl)).mono ?_
              rintro e w5 ⟨rfl, hb5⟩
              have L5 := Lib.hid (HL.out.below hb5)
              have HO5 : Hid (Own w5 (.slice (some ⟨gb, 0, none⟩) cnt uc) (y :: rs)) := HO.out.keep (fun b hb => hb5.block b (HO.out.lt b hb))
              have hgc5 := (hb5.cell (p := ⟨gb, 0, none⟩) hgl).trans hgc
              have hgl5 : gb < w5.heap.size := by have := hb5.size; omega
              clear hb5 hgc hgl
              go_wp2_with fail
              refine (ready_any L5.out.D (rowR_len (by have := HT.out.rl; have := HT.out.cn; omega))).mono ?_
              rintro e w6 ⟨u6, rfl, ho6, hf6, hb6⟩
              rw [HALL.out] at ho6
              have HR6 := Lib.hid ho6.ri
              have L6 := Lib.hid (L5.out.below hb6)
              have HO6 : Hid (Own w6 (.slice (some ⟨gb, 0, none⟩) cnt uc) (y :: rs)) := HO5.out.keep (fun b hb => hb6.block b (HO5.out.lt b hb))
              clear ho6 hf6 hb6
              go_wp2_with fail
              refine (same20_any u6 (.slice (some ⟨gb, 0, none⟩) cnt uc) (y :: rs) (y :: rs) w6 HR6.out HO6.out.ri (by have := HT.out.rl; have := HT.out.cn; omega)).mono ?_
              rw [show decide (y :: rs = y :: rs) = true by simp]
              rintro e w7 ⟨rfl, hb7⟩
              have L7 := Lib.hid (L6.out.below hb7)
              have HO7 : Hid (Own w7 (.slice (some ⟨gb, 0, none⟩) cnt uc) (y :: rs)) := HO6.out.keep (fun b hb => hb7.block b (HO6.out.lt b hb))
              have hac7 : w7.cell? ⟨ab, ao + k, none⟩ = some (.bool x) := (L7.out.bel.cell (p := ⟨ab, ao + k, none⟩) habl).trans HAC.out
              have habl7 : ab < w7.heap.size := by have := L7.out.bel.size; omega
              clear hb7 hgc5
              cases x with
              | false =>
                go_wp2_with fail
                go_roundw
                case rel => exact ⟨k + 1, cnt, V, v, ps, y :: rs, by omega, by omega, by go_num, fun h => by omega, fun _ => by omega, HT.out, L7.out, HO7.out, HOUT.out⟩
                case measure => simp [intOf]; omega
              | true =>
                obtain ⟨A0, hA0, hdrop⟩ : ∃ A0 : Addr, (if uc = 1 then some ⟨gb, 0, none⟩ else some ⟨gb, 1, none⟩ : Option Addr) = some A0 ∧ Hid (∀ (j : Nat) (u : Value), (iv rs)[j]? = some u → (A0.add j).block = gb ∧ w7.cell? (A0.add j) = some u) := by
                  have hl : rs.length = cnt - 1 := by have h1 := HT.out.rl; simp only [List.length_cons] at h1; omega
                  by_cases h1 : uc = 1
                  · have : rs = [] := List.eq_nil_of_length_eq_zero (by omega)
                    subst this
                    exact ⟨⟨gb, 0, none⟩, if_pos h1, fun j u hu => by simp [iv] at hu⟩
                  · refine ⟨⟨gb, 1, none⟩, if_neg h1, fun j u hu => ⟨by simp [Addr.add_lit], ?_⟩⟩
                    have := World.ownsRow.cells HO7.out (g := gb) rfl (j + 1) u (by simpa [iv] using hu)
                    rw [Addr.add_lit] at this ⊢
                    rw [show 1 + j = 0 + (j + 1) by omega]
                    exact this
                go_wp2_with fail
                refine (yield_any L7.out.D y 7 7 hy2 (by rw [HT.out.len]; exact hy3) (by omega) (rowR_prio (by omega) (List.mem_cons_self ..)) (by rw [HY.out]; rfl) (by rw [rowR_at, rowR_put, List.erase_cons_head]; exact rowR_none HY4.out) (by rw [rowR_at, rowR_put, List.erase_cons_head, rowR_at]; have h1 := HT.out.rl; have h2 := HT.out.cn; simp only [List.length_cons] at h1; omega)).mono ?_
                rw [rowR_at, rowR_put, List.erase_cons_head, rowR_at, rowR_put]
                intro e w8 hp
                obtain ⟨rfl, V8, v8, hl8, hk8, hn8⟩ := L7.out.step hp
                have L8 := Lib.hid hl8
                have HK8 := Lib.hid hk8
                have hdrop8 : Hid (∀ (j : Nat) (u : Value), (iv rs)[j]? = some u → w8.cell? (A0.add j) = some u) := by
                  intro j u hu
                  obtain ⟨hbk, hold⟩ := hdrop.out j u hu
                  rw [HK8.out.cell (by rw [hbk]; exact HO7.out.lt gb rfl) (by rw [hbk]; exact (HOUT.out gb rfl).2)]
                  exact hold
                clear hp hl8 hk8 hn8 hdrop hac7
                have ho0 : Own (w8.alloc (.cells #[] 3)) (.slice (some ⟨w8.heap.size, 0, none⟩) 0 0) [] := Own.make (xs := []) (heap_alloc_new w8 _) rfl (Nat.le_refl _) (Nat.zero_le _) (fun i x hx => by simp at hx)
                have hrd : Reads (w8.alloc (.cells #[] 3)) (.slice (some A0) (cnt - 1) (uc - 1)) rs := by
                  have hl : rs.length = cnt - 1 := by have h1 := HT.out.rl; simp only [List.length_cons] at h1; omega
                  exact ⟨_, _, by rw [hl], fun h => ⟨_, rfl, fun j u hu => Lib.cell?_alloc_some _ (hdrop8.out j u hu)⟩⟩
                have hrsl : rs.length ≤ 100 := by have h1 := HT.out.rl; have h2 := HT.out.cn; simp only [List.length_cons] at h1; omega
                obtain ⟨x1, w9, hrun1, ho1, hg1, hf1⟩ := own_append (t := 42) (tx := 42) (ty := 42) Try.underlying42 Try.underlying42 ho0 hrd (by simp; omega)
                rw [List.nil_append] at ho1
                have hb9 : Below w8.heap.size w8 w9 := grown_below (w := w8) ((Below.refl _ _).alloc (Nat.le_refl _) _) hg1 (fun b hb => by simp only [Value.ownBlock] at hb; injection hb with hb; omega)
                have hx1 : ∀ b, x1.ownBlock = some b → w8.heap.size ≤ b := fun b hb => by
                  rcases hf1 b hb with h1 | h1
                  · simp only [Value.ownBlock] at h1
                    injection h1 with h1
                    omega
                  · simp at h1
                    omega
                obtain ⟨x2, w10, hrun2, ho2, hg2, hf2⟩ := own_append (t := 42) (tx := 42) (ty := 42) Try.underlying42 Try.underlying42 (ho1.alloc (.cells #[.int .i64 y] 3)) (x := .slice (some ⟨w9.heap.size, 0, none⟩) 1 1) (ys := [y]) ⟨_, _, rfl, fun _ => ⟨_, rfl, fun j u hu => by
                  match j, hu with
                  | 0, hu =>
                    simp [iv] at hu
                    subst hu
                    simp [Addr.add]
                  | j + 1, hu => simp [iv] at hu⟩⟩ (by simp; omega)
                have hb10 : Below w8.heap.size w8 w10 := grown_below (w := w8) (hb9.alloc hb9.size _) hg2 hx1
                have hx2 : ∀ b, x2.ownBlock = some b → w8.heap.size ≤ b := fun b hb => by
                  rcases hf2 b hb with h1 | h1
                  · exact hx1 b h1
                  · have := hb9.size
                    simp at h1
                    omega
                have L10 := Lib.hid (L8.out.below hb10)
                have HO10 := Lib.hid ho2
                have HOUT10 : Hid (∀ b, x2.ownBlock = some b → w.heap.size ≤ b ∧ ¬ inD d t g l m V8 v8 b) := fun b hb => by
                  have h1 := hx2 b hb
                  have h2 := L8.out.bel.size
                  exact ⟨by omega, fun hi => by have := L8.out.D.lt hi; omega⟩
                have HT10 := Lib.hid HT.out.turn
                clear ho0 hrd ho1 hg1 hf1 hb9 hx1 ho2 hg2 hf2 hb10 hx2 hdrop8 hrsl HK8 L8
                go_wp2_with (first
                  | (at_builtin; refine Lib.wpList_append_run _ rfl (.tmp 100) (.tmp 102) 42 42 rfl _ _ rfl rfl _ _ hrun1 ?_)
                  | (at_builtin; refine Lib.wpList_append_run _ rfl (.tmp 103) (.tmp 105) 42 42 rfl _ _ rfl rfl _ _ hrun2 ?_))
                go_roundw
                case rel => exact ⟨k + 1, cnt, V8, v8, ps, rs ++ [y], by omega, by omega, by go_num, fun h => by omega, fun _ => by omega, HT10.out, L10.out, HO10.out, HOUT10.out⟩
                case measure => simp [intOf]; omega
        · have hend : Hid (Below w.heap.size w wr) := HL.out.bel
          by_cases h60 : k < n1
          · have h60' : ¬ k < 60 := fun h => hlt ⟨h60, h⟩
            go_wp2_with fail
            go_ret
            exact ⟨rfl, hend.out⟩
          · go_wp2_with fail
            go_ret
            exact ⟨rfl, hend.out⟩

end Go.Proofs.Ytgnjenmicojgnaa
