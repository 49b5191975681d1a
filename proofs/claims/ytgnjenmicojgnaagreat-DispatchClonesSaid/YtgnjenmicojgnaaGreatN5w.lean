/-
  What the document's Due tells of a slice of timers, and leaves.
-/
import Derived.Test.YtgnjenmicojgnaaGreatN4w
namespace Go.Proofs.YtgnjenmicojgnaaGreat
set_option linter.unusedVariables false
set_option linter.unusedSimpArgs false
open Go.RowKit

def Due20 (w : World) (L : List (Int × Int)) (now : Int) (e : Ending) (w' : World) : Prop :=
  ∃ u u2, e = .returned (.tuple #[u, u2]) ∧ Own w' u ((srt (lo now L)).map Prod.fst) ∧ (∀ b, u.ownBlock = some b → w.heap.size ≤ b) ∧ OwnP 99 w' u2 (hi now L) ∧ (∀ b, u2.ownBlock = some b → w.heap.size ≤ b) ∧ Below w.heap.size w w'

set_option maxRecDepth 100000 in
set_option maxHeartbeats 8000000 in
theorem due20_any (v : Value) (L : List (Int × Int)) (now : Int) (w : World) (h : OwnP 99 w v L) (hl : L.length ≤ 100) :
    Calls Tryz.prog 90 #[v, .int .i64 now] w (Due20 w L now) := by
  obtain ⟨n, hn⟩ : ∃ n, L.length = n := ⟨_, rfl⟩
  obtain ⟨sa, sc, hsl⟩ := h.sl
  rw [hn] at hsl hl
  subst hsl
  have HN := Lib.hid hn
  have H := Lib.hid h
  clear h hn
  go_enter Tryz.func90, Tryz.ntmps90
  go_wp2_with fail
  go_loopw [6, 7, 8] (fun s6 s7 s8 wr => ∃ j : Nat, j ≤ n ∧ s8 = .int .i64 j ∧ OwnP 99 wr s6 (srt (lo now (L.take j))) ∧ OwnP 99 wr s7 (hi now (L.take j)) ∧ (∀ b, s6.ownBlock = some b → w.heap.size ≤ b ∧ s7.ownBlock ≠ some b) ∧ (∀ b, s7.ownBlock = some b → w.heap.size ≤ b) ∧ Below w.heap.size w wr) (fun _ _ i _ => n - (intOf i).toNat)
  case atStart => exact ⟨0, by omega, rfl, by simpa [lo, srt] using OwnP.nil 99 w, by simpa [hi] using OwnP.nil 99 w, fun b hb => by simp [Value.ownBlock] at hb, fun b hb => by simp [Value.ownBlock] at hb, Below.refl _ _⟩
  case round =>
    obtain ⟨j, hj, rfl, h6, h7, hf6, hf7, hb⟩ := hrel
    have H6 := Lib.hid h6
    have H7 := Lib.hid h7
    have HF6 := Lib.hid hf6
    have HF7 := Lib.hid hf7
    have HB := Lib.hid hb
    have hfl : (lo now (L.take j)).length ≤ 100 := by
      have := List.length_filter_le (fun q : Int × Int => decide (q.2 ≤ now)) (L.take j)
      unfold lo
      rw [List.length_take] at this
      omega
    clear h6 h7 hf6 hf7 hb
    by_cases hjn : j < n
    · obtain ⟨q, hq⟩ : ∃ q, L[j]? = some q := ⟨_, List.getElem?_eq_getElem (by have := HN.out; omega)⟩
      obtain ⟨g, c, hv, hgl, c0, c1⟩ := (H.out.below HB.out).at hq
      injection hv with e1 e2 e3
      subst e1 e3
      have htk : L.take (j + 1) = L.take j ++ [q] := by rw [List.take_add_one, hq]; rfl
      have HTK := Lib.hid htk
      clear hq e2 htk
      by_cases hqn : now < q.2
      · have hqb : decide (now < q.2) = true := by simpa using hqn
        have hhl : (hi now (L.take j)).length ≤ 1000 := by
          have := List.length_filter_le (fun q : Int × Int => decide (now < q.2)) (L.take j)
          unfold hi
          rw [List.length_take] at this
          omega
        obtain ⟨v', w2, hrun, ho2, hf2, hb2⟩ := app_one q H7.out HF7.out HB.out hhl
        have ho6 : OwnP 99 w2 u6 (srt (lo now (L.take (j + 1)))) := by
          rw [HTK.out, lo, List.filter_append, List.filter_cons_of_neg (by simpa using hqn), List.filter_nil, List.append_nil]
          obtain ⟨x1, x2, k1, k2, k3, k4⟩ := own_appendP (t := 46) (ty := 46) Tryz.underlying46 info99 (H7.out.alloc (.cells #[.int .i64 q.1, .int .i64 q.2] 99)) (one_reads127 (q := q) (heap_alloc_new wr _)) (by simp; omega)
          have := hrun.symm.trans k1
          injection this with e1 e2
          subst e1 e2
          exact (H6.out.alloc _).keep (fun b hb => k3.block b ((H6.out.alloc _).lt b hb) (fun e => (HF6.out b hb).2 e.symm))
        have hf6 : ∀ b, u6.ownBlock = some b → w.heap.size ≤ b ∧ v'.ownBlock ≠ some b := fun b hb => ⟨(HF6.out b hb).1, fun e => by
          obtain ⟨x1, x2, k1, k2, k3, k4⟩ := own_appendP (t := 46) (ty := 46) Tryz.underlying46 info99 (H7.out.alloc (.cells #[.int .i64 q.1, .int .i64 q.2] 99)) (one_reads127 (q := q) (heap_alloc_new wr _)) (by simp; omega)
          have := hrun.symm.trans k1
          injection this with e1 e2
          subst e1 e2
          rcases k4 b e with h5 | h5
          · exact (HF6.out b hb).2 h5
          · have := H6.out.lt b hb
            simp at h5
            omega⟩
        have HO7 : Hid (OwnP 99 w2 v' (hi now (L.take (j + 1)))) := by
          unfold Hid
          rw [HTK.out, hi, List.filter_append, List.filter_cons_of_pos (by simpa using hqn), List.filter_nil]
          exact ho2
        have HO6 := Lib.hid ho6
        have HF62 := Lib.hid hf6
        have HF2 := Lib.hid hf2
        have HB2 := Lib.hid hb2
        clear ho2 hf2 hb2 ho6 hf6 hhl
        go_wp2_with (first | (at_builtin; refine Lib.wpList_append_run _ rfl (.tmp 25) (.tmp 30) 46 46 rfl _ _ rfl rfl _ _ hrun ?_))
        go_roundw
        case rel => exact ⟨j + 1, by omega, by go_num, HO6.out, HO7.out, HF62.out, HF2.out, HB2.out⟩
        case measure => simp [intOf]; omega
      · have hqb : decide (now < q.2) = false := by simpa using hqn
        obtain ⟨da, dc, hds⟩ := H6.out.sl
        obtain ⟨dn, hdn⟩ : ∃ dn, (srt (lo now (L.take j))).length = dn := ⟨_, rfl⟩
        rw [hdn] at hds
        subst hds
        obtain ⟨k0, hk0⟩ : ∃ k0, iQ (srt (lo now (L.take j))) q.2 = k0 := ⟨_, rfl⟩
        have hk0l : k0 ≤ dn := by rw [← hk0, ← hdn]; exact iQ_le _ _
        have HK0 := Lib.hid hk0
        have HDN := Lib.hid hdn
        have hdl : dn ≤ 100 := by rw [← hdn, srt_length]; exact hfl
        clear hk0 hdn
        go_wp2_with fail
        obtain ⟨w1, hw1⟩ : ∃ w1, w1 = wr := ⟨_, rfl⟩
        subst hw1
        go_loopw [9] (fun s9 wx => ∃ i : Nat, i ≤ k0 ∧ s9 = .int .i64 i ∧ (∃ nd, wx = w1.drewN nd)) (fun i _ => dn - (intOf i).toNat)
        case atStart => exact ⟨0, by omega, rfl, 0, rfl⟩
        case round =>
          obtain ⟨i, hii, rfl, nd, rfl⟩ := hrel
          have hcd0 : ∀ x, (w1.drewN nd).cell? x = w1.cell? x := fun x => rfl
          by_cases hik : i < k0
          · have hid : i < dn := by omega
            have hidb : decide ((i : Int) < (dn : Int)) = true := by simp; omega
            obtain ⟨p, hp⟩ : ∃ p, (srt (lo now (L.take j)))[i]? = some p := ⟨_, List.getElem?_eq_getElem (by have := HDN.out; omega)⟩
            have hple : p.2 ≤ q.2 := iQ_lt (by rw [HK0.out]; exact hik) hp
            have hpb : decide (p.2 ≤ q.2) = true := by simpa using hple
            obtain ⟨g', c', hv', hgl', d0, d1⟩ := H6.out.at hp
            injection hv' with e1 e2 e3
            subst e1 e3
            clear hp e2
            go_wp2_with fail
            go_quiet (fail)
            go_wp2_with fail
            go_roundw
            case rel => exact ⟨i + 1, by omega, by go_num, _, rfl⟩
            case measure => simp [intOf]; omega
          · obtain rfl : i = k0 := by omega
            by_cases hid : i < dn
            · have hidb : decide ((i : Int) < (dn : Int)) = true := by simp; omega
              obtain ⟨p, hp⟩ : ∃ p, (srt (lo now (L.take j)))[i]? = some p := ⟨_, List.getElem?_eq_getElem (by have := HDN.out; omega)⟩
              have hpgt : q.2 < p.2 := iQ_at (by rw [HK0.out]; exact hp)
              have hpb : decide (p.2 ≤ q.2) = false := by simp; omega
              have hpn : ¬ p.2 ≤ q.2 := by omega
              obtain ⟨g', c', hv', hgl', d0, d1⟩ := H6.out.at hp
              injection hv' with e1 e2 e3
              subst e1 e3
              clear hp e2
              go_wp2_with fail
              go_quiet (fail)
              go_wp2_with fail
              obtain ⟨wz, hwz⟩ : ∃ wz, wz = (w1.drewN nd).drewN nq := ⟨_, rfl⟩
              rw [← hwz]
              have hzs : wz.heap.size = w1.heap.size := by rw [hwz]; rfl
              have HBD : Hid (Below w1.heap.size w1 wz.drew) := by rw [hwz]; exact ⟨rfl, rfl, rfl, Nat.le_refl _, fun _ _ => rfl⟩
              have HB1 : Hid (∀ o, Below w1.heap.size w1 (wz.drew.alloc o)) := fun o => HBD.out.alloc (by show _ ≤ wz.heap.size; omega) o
              have HB2 : Hid (∀ o o', Below w1.heap.size w1 ((wz.drew.alloc o).alloc o')) := fun o o' => (HB1.out o).alloc (by simp; omega) o'
              have HSB : Hid (∀ W, Below w1.heap.size w1 W → W.cell? ⟨g, j * 2, none⟩ = some (.int .i64 q.1) ∧ W.cell? ⟨g, j * 2 + 1, none⟩ = some (.int .i64 q.2)) := fun W hW => ⟨(hW.cell (p := ⟨g, j * 2, none⟩) hgl).trans c0, (hW.cell (p := ⟨g, j * 2 + 1, none⟩) hgl).trans c1⟩
              have hz0 := (HSB.out wz.drew HBD.out).1
              have hz1 := (HSB.out wz.drew HBD.out).2
              have hgz : g < wz.heap.size := by omega
              obtain ⟨A0, hA0, hA1⟩ : ∃ A0 : Addr, (if dc = i then some ⟨g', 0, none⟩ else some ⟨g', i * 2, none⟩ : Option Addr) = some A0 ∧ (A0 = ⟨g', i * 2, none⟩ ∨ (srt (lo now (L.take j))).drop i = []) := by
                have hdd : dn ≤ dc := by
                  rcases H6.out.shape with ⟨h1, _⟩ | ⟨g0, c0', cur, h1, h2, h3, h4, h5, h6⟩
                  · cases h1
                  · injection h1 with e1 e2 e3
                    have := HDN.out
                    omega
                by_cases hdi : dc = i
                · exact ⟨⟨g', 0, none⟩, if_pos hdi, .inr (List.drop_of_length_le (by have := HDN.out; omega))⟩
                · exact ⟨⟨g', i * 2, none⟩, if_neg hdi, .inl rfl⟩
              have hidc : i ≤ dc := by
                rcases H6.out.shape with ⟨h1, _⟩ | ⟨g0, c0', cur, h1, h2, h3, h4, h5, h6⟩
                · cases h1
                · injection h1 with e1 e2 e3
                  have := HDN.out
                  omega
              have HR1 : Hid (∀ W, Below w1.heap.size w1 W → ReadsP W (.slice (some ⟨g', 0, none⟩) i dc) ((srt (lo now (L.take j))).take i)) := fun W hW => reads_of_own (i := 0) H6.out hW (.inl rfl) (by rw [List.length_take]; have := HDN.out; omega) (fun t u hu => by rw [← pv_take] at hu; have ht := (List.getElem?_eq_some_iff.1 hu).1; rw [List.length_take] at ht; rw [List.getElem?_take, if_pos (by omega)] at hu; simpa using hu)
              have HR2 : Hid (∀ W, Below w1.heap.size w1 W → ReadsP W (.slice (some A0) (dn - i) (dc - i)) ((srt (lo now (L.take j))).drop i)) := fun W hW => reads_of_own (i := i) H6.out hW hA1 (by rw [List.length_drop, HDN.out]) (fun t u hu => by rw [← pv_drop, List.getElem?_drop] at hu; exact hu)
              have htl : ((srt (lo now (L.take j))).take i).length ≤ 200 := by rw [List.length_take]; omega
              have htl2 : ((srt (lo now (L.take j))).drop i).length ≤ 200 := by rw [List.length_drop]; have := HDN.out; omega
              have HTL := Lib.hid htl
              have HTL2 := Lib.hid htl2
              have HM := Lib.hid mixed
              clear hwz htl htl2 hA1 d0 d1
              have mixed := HM.out
              go_region_held_law (fun W => W.cell? ⟨g, j * 2, none⟩ = some (.int .i64 q.1) ∧ W.cell? ⟨g, j * 2 + 1, none⟩ = some (.int .i64 q.2)) (first | assumption | (exact ⟨hz0, hz1⟩) | (exact HSB.out _ (HB1.out _)) | (exact HSB.out _ (HB2.out _ _)) | (exact HSB.out _ (hb5.alloc hb5.size _)))
                (first
                  | (refine step_appP (B := w1.heap.size) (w0 := w1) rfl (.tmp 51) (.tmp 54) rfl (v := .slice (some ⟨wz.heap.size, 0, none⟩) 0 0) (u := (.slice (some ⟨g', 0, none⟩) i dc)) (by simp [Act.eval, Act.put]) (by simp [Act.eval, Act.put]) (own_nil0 (by first | exact heap_alloc_new _ _ | exact heap_new1 _ _ _)) (HR1.out _ (by first | exact HB1.out _ | exact HB2.out _ _)) (by have h1 := HTL.out; simp only [List.length_append, List.length_nil, List.length_cons]; omega) (fun b hb => by simp [Value.ownBlock] at hb; omega) (by first | exact HB1.out _ | exact HB2.out _ _) (by simp; omega) HSB.out ?_; intro v5 w5 ho5 hf5 hb5 hg5 hS5)
                  | (refine step_appP (B := w1.heap.size) (w0 := w1) rfl (.tmp 51) (.tmp 54) rfl (v := .slice (some ⟨wz.heap.size + 1, 0, none⟩) 0 0) (u := (.slice (some ⟨g', 0, none⟩) i dc)) (by simp [Act.eval, Act.put]) (by simp [Act.eval, Act.put]) (own_nil0 (heap_new2 _ _ _)) (HR1.out _ (by first | exact HB1.out _ | exact HB2.out _ _)) (by have h1 := HTL.out; simp only [List.length_append, List.length_nil, List.length_cons]; omega) (fun b hb => by simp [Value.ownBlock] at hb; omega) (by first | exact HB1.out _ | exact HB2.out _ _) (by simp; omega) HSB.out ?_; intro v5 w5 ho5 hf5 hb5 hg5 hS5)
                  | (refine step_appP (B := w1.heap.size) (w0 := w1) rfl (.tmp 55) (.tmp 60) rfl (v := v5) (u := .slice (some ⟨w5.heap.size, 0, none⟩) 1 1) (by simp [Act.eval, Act.put]) (by simp [Act.eval, Act.put]) (ho5.alloc _) (one_reads127 (q := q) (heap_alloc_new _ _)) (by have h1 := HTL.out; simp only [List.length_append, List.length_nil, List.length_cons]; omega) hf5 (hb5.alloc hb5.size _) (by have := hb5.size; simp; omega) HSB.out ?_; intro v6 w6 ho6 hf6 hb6 hg6 hS6)
                  | (refine step_appP (B := w1.heap.size) (w0 := w1) rfl (.tmp 55) (.tmp 60) rfl (v := v5) (u := .slice (some ⟨wz.heap.size + 1, 0, none⟩) 1 1) (by simp [Act.eval, Act.put]) (by simp [Act.eval, Act.put]) ho5 (one_reads127 (q := q) ((hg5.block _ (by simp <;> omega) (by simp [Value.ownBlock])).trans (heap_new2 _ _ _))) (by have h1 := HTL.out; simp only [List.length_append, List.length_nil, List.length_cons]; omega) hf5 hb5 hb5.size HSB.out ?_; intro v6 w6 ho6 hf6 hb6 hg6 hS6)
                  | (refine step_appP (B := w1.heap.size) (w0 := w1) rfl (.tmp 55) (.tmp 60) rfl (v := v5) (u := .slice (some ⟨wz.heap.size, 0, none⟩) 1 1) (by simp [Act.eval, Act.put]) (by simp [Act.eval, Act.put]) ho5 (one_reads127 (q := q) ((hg5.block _ (by simp <;> omega) (by simp [Value.ownBlock])).trans (heap_new1 _ _ _))) (by have h1 := HTL.out; simp only [List.length_append, List.length_nil, List.length_cons]; omega) hf5 hb5 hb5.size HSB.out ?_; intro v6 w6 ho6 hf6 hb6 hg6 hS6)
                  | (refine step_appP (B := w1.heap.size) (w0 := w1) rfl (.tmp 61) (.tmp 64) rfl (v := v6) (u := (.slice (some A0) (dn - i) (dc - i))) (by simp [Act.eval, Act.put]) (by simp [Act.eval, Act.put]) ho6 (HR2.out _ hb6) (by have h1 := HTL.out; have h2 := HTL2.out; simp only [List.length_append, List.length_nil, List.length_cons]; omega) hf6 hb6 hb6.size HSB.out ?_; intro v7 w7 ho7 hf7 hb7 hg7 hS7))
              all_goals
                have HO7 : Hid (OwnP 99 w7 v7 (srt (lo now (L.take (j + 1))))) := by
                  unfold Hid
                  rw [HTK.out, lo, List.filter_append, List.filter_cons_of_pos (by simpa using hqn), List.filter_nil, srt_snoc, insQ]
                  rw [← lo, HK0.out]
                  simpa using ho7
                have HL7 : Hid (OwnP 99 w7 u7 (hi now (L.take (j + 1)))) := by
                  unfold Hid
                  rw [HTK.out, hi, List.filter_append, List.filter_cons_of_neg (by simpa using hqn), List.filter_nil, List.append_nil]
                  exact H7.out.below hb7
                have HF1 : Hid (∀ b, v7.ownBlock = some b → w.heap.size ≤ b ∧ u7.ownBlock ≠ some b) := fun b hb => ⟨by have := hf7 b hb; have := HB.out.size; omega, fun e => by have := H7.out.lt b e; have := hf7 b hb; omega⟩
                have HB7 : Hid (Below w.heap.size w w7) := HB.out.trans (hb7.mono HB.out.size)
                clear ho5 hf5 hb5 hg5 hS5 ho6 hf6 hb6 hg6 hS6 ho7 hf7 hb7 hg7 hS7
                go_wp2_with fail
                go_roundw
                case rel => exact ⟨j + 1, by omega, by go_num, HO7.out, HL7.out, HF1.out, HF7.out, HB7.out⟩
                case measure => simp [intOf]; omega
            · have hidb : decide ((i : Int) < (dn : Int)) = false := by simp; omega
              rcases H6.out.shape with ⟨hds, h0⟩ | ⟨g', cq, cur, hds, h2, h3, h4, h5, h6⟩
              · injection hds with e1 e2 e3
                subst e1 e2 e3
                obtain rfl : i = 0 := by omega
                go_wp2_with fail
                go_quiet (fail)
                go_wp2_with fail
                obtain ⟨wz, hwz⟩ : ∃ wz, wz = (w1.drewN nd).drewN nq := ⟨_, rfl⟩
                rw [← hwz]
                have hzs : wz.heap.size = w1.heap.size := by rw [hwz]; rfl
                have HBD : Hid (Below w1.heap.size w1 wz.drew) := by rw [hwz]; exact ⟨rfl, rfl, rfl, Nat.le_refl _, fun _ _ => rfl⟩
                have HB1 : Hid (∀ o, Below w1.heap.size w1 (wz.drew.alloc o)) := fun o => HBD.out.alloc (by show _ ≤ wz.heap.size; omega) o
                have HB2 : Hid (∀ o o', Below w1.heap.size w1 ((wz.drew.alloc o).alloc o')) := fun o o' => (HB1.out o).alloc (by simp; omega) o'
                have HSB : Hid (∀ W, Below w1.heap.size w1 W → W.cell? ⟨g, j * 2, none⟩ = some (.int .i64 q.1) ∧ W.cell? ⟨g, j * 2 + 1, none⟩ = some (.int .i64 q.2)) := fun W hW => ⟨(hW.cell (p := ⟨g, j * 2, none⟩) hgl).trans c0, (hW.cell (p := ⟨g, j * 2 + 1, none⟩) hgl).trans c1⟩
                have hz0 := (HSB.out wz.drew HBD.out).1
                have hz1 := (HSB.out wz.drew HBD.out).2
                have hgz : g < wz.heap.size := by omega
                have hsn : srt (lo now (L.take j)) = [] := List.eq_nil_of_length_eq_zero HDN.out
                have HSN := Lib.hid hsn
                have HR1 : Hid (∀ W, Below w1.heap.size w1 W → ReadsP W (.slice none 0 0) ((srt (lo now (L.take j))).take 0)) := fun W _ => by rw [hsn]; exact reads_nil W 0
                have HR2 : Hid (∀ W, Below w1.heap.size w1 W → ReadsP W (.slice none 0 0) ((srt (lo now (L.take j))).drop 0)) := fun W _ => by rw [hsn]; exact reads_nil W 0
                have htl : ((srt (lo now (L.take j))).take 0).length ≤ 200 := by rw [List.length_take]; omega
                have htl2 : ((srt (lo now (L.take j))).drop 0).length ≤ 200 := by rw [List.length_drop]; have := HDN.out; omega
                have HTL := Lib.hid htl
                have HTL2 := Lib.hid htl2
                have HM := Lib.hid mixed
                clear hwz htl htl2 hsn
                have mixed := HM.out
                go_region_held_law (fun W => W.cell? ⟨g, j * 2, none⟩ = some (.int .i64 q.1) ∧ W.cell? ⟨g, j * 2 + 1, none⟩ = some (.int .i64 q.2)) (first | assumption | (exact ⟨hz0, hz1⟩) | (exact HSB.out _ (HB1.out _)) | (exact HSB.out _ (HB2.out _ _)) | (exact HSB.out _ (hb5.alloc hb5.size _)))
                  (first
                    | (refine step_appP (B := w1.heap.size) (w0 := w1) rfl (.tmp 51) (.tmp 54) rfl (v := .slice (some ⟨wz.heap.size, 0, none⟩) 0 0) (u := (.slice none 0 0)) (by simp [Act.eval, Act.put]) (by simp [Act.eval, Act.put]) (own_nil0 (by first | exact heap_alloc_new _ _ | exact heap_new1 _ _ _)) (HR1.out _ (by first | exact HB1.out _ | exact HB2.out _ _)) (by have h1 := HTL.out; simp only [List.length_append, List.length_nil, List.length_cons]; omega) (fun b hb => by simp [Value.ownBlock] at hb; omega) (by first | exact HB1.out _ | exact HB2.out _ _) (by simp; omega) HSB.out ?_; intro v5 w5 ho5 hf5 hb5 hg5 hS5)
                    | (refine step_appP (B := w1.heap.size) (w0 := w1) rfl (.tmp 51) (.tmp 54) rfl (v := .slice (some ⟨wz.heap.size + 1, 0, none⟩) 0 0) (u := (.slice none 0 0)) (by simp [Act.eval, Act.put]) (by simp [Act.eval, Act.put]) (own_nil0 (heap_new2 _ _ _)) (HR1.out _ (by first | exact HB1.out _ | exact HB2.out _ _)) (by have h1 := HTL.out; simp only [List.length_append, List.length_nil, List.length_cons]; omega) (fun b hb => by simp [Value.ownBlock] at hb; omega) (by first | exact HB1.out _ | exact HB2.out _ _) (by simp; omega) HSB.out ?_; intro v5 w5 ho5 hf5 hb5 hg5 hS5)
                    | (refine step_appP (B := w1.heap.size) (w0 := w1) rfl (.tmp 55) (.tmp 60) rfl (v := v5) (u := .slice (some ⟨w5.heap.size, 0, none⟩) 1 1) (by simp [Act.eval, Act.put]) (by simp [Act.eval, Act.put]) (ho5.alloc _) (one_reads127 (q := q) (heap_alloc_new _ _)) (by have h1 := HTL.out; simp only [List.length_append, List.length_nil, List.length_cons]; omega) hf5 (hb5.alloc hb5.size _) (by have := hb5.size; simp; omega) HSB.out ?_; intro v6 w6 ho6 hf6 hb6 hg6 hS6)
                    | (refine step_appP (B := w1.heap.size) (w0 := w1) rfl (.tmp 55) (.tmp 60) rfl (v := v5) (u := .slice (some ⟨wz.heap.size + 1, 0, none⟩) 1 1) (by simp [Act.eval, Act.put]) (by simp [Act.eval, Act.put]) ho5 (one_reads127 (q := q) ((hg5.block _ (by simp <;> omega) (by simp [Value.ownBlock])).trans (heap_new2 _ _ _))) (by have h1 := HTL.out; simp only [List.length_append, List.length_nil, List.length_cons]; omega) hf5 hb5 hb5.size HSB.out ?_; intro v6 w6 ho6 hf6 hb6 hg6 hS6)
                    | (refine step_appP (B := w1.heap.size) (w0 := w1) rfl (.tmp 55) (.tmp 60) rfl (v := v5) (u := .slice (some ⟨wz.heap.size, 0, none⟩) 1 1) (by simp [Act.eval, Act.put]) (by simp [Act.eval, Act.put]) ho5 (one_reads127 (q := q) ((hg5.block _ (by simp <;> omega) (by simp [Value.ownBlock])).trans (heap_new1 _ _ _))) (by have h1 := HTL.out; simp only [List.length_append, List.length_nil, List.length_cons]; omega) hf5 hb5 hb5.size HSB.out ?_; intro v6 w6 ho6 hf6 hb6 hg6 hS6)
                    | (refine step_appP (B := w1.heap.size) (w0 := w1) rfl (.tmp 61) (.tmp 64) rfl (v := v6) (u := (.slice none 0 0)) (by simp [Act.eval, Act.put]) (by simp [Act.eval, Act.put]) ho6 (HR2.out _ hb6) (by have h1 := HTL.out; have h2 := HTL2.out; simp only [List.length_append, List.length_nil, List.length_cons]; omega) hf6 hb6 hb6.size HSB.out ?_; intro v7 w7 ho7 hf7 hb7 hg7 hS7))
                all_goals
                  have HO7 : Hid (OwnP 99 w7 v7 (srt (lo now (L.take (j + 1))))) := by
                    unfold Hid
                    rw [HTK.out, lo, List.filter_append, List.filter_cons_of_pos (by simpa using hqn), List.filter_nil, srt_snoc, insQ]
                    rw [← lo, HK0.out]
                    simpa using ho7
                  have HL7 : Hid (OwnP 99 w7 u7 (hi now (L.take (j + 1)))) := by
                    unfold Hid
                    rw [HTK.out, hi, List.filter_append, List.filter_cons_of_neg (by simpa using hqn), List.filter_nil, List.append_nil]
                    exact H7.out.below hb7
                  have HF1 : Hid (∀ b, v7.ownBlock = some b → w.heap.size ≤ b ∧ u7.ownBlock ≠ some b) := fun b hb => ⟨by have := hf7 b hb; have := HB.out.size; omega, fun e => by have := H7.out.lt b e; have := hf7 b hb; omega⟩
                  have HB7 : Hid (Below w.heap.size w w7) := HB.out.trans (hb7.mono HB.out.size)
                  clear ho5 hf5 hb5 hg5 hS5 ho6 hf6 hb6 hg6 hS6 ho7 hf7 hb7 hg7 hS7
                  go_wp2_with fail
                  go_roundw
                  case rel => exact ⟨j + 1, by omega, by go_num, HO7.out, HL7.out, HF1.out, HF7.out, HB7.out⟩
                  case measure => simp [intOf]; omega
              · injection hds with e1 e2 e3
                subst e1 e3
                clear e2 h2 h3 h4 h5 h6
                go_wp2_with fail
                go_quiet (fail)
                go_wp2_with fail
                obtain ⟨wz, hwz⟩ : ∃ wz, wz = (w1.drewN nd).drewN nq := ⟨_, rfl⟩
                rw [← hwz]
                have hzs : wz.heap.size = w1.heap.size := by rw [hwz]; rfl
                have HBD : Hid (Below w1.heap.size w1 wz.drew) := by rw [hwz]; exact ⟨rfl, rfl, rfl, Nat.le_refl _, fun _ _ => rfl⟩
                have HB1 : Hid (∀ o, Below w1.heap.size w1 (wz.drew.alloc o)) := fun o => HBD.out.alloc (by show _ ≤ wz.heap.size; omega) o
                have HB2 : Hid (∀ o o', Below w1.heap.size w1 ((wz.drew.alloc o).alloc o')) := fun o o' => (HB1.out o).alloc (by simp; omega) o'
                have HSB : Hid (∀ W, Below w1.heap.size w1 W → W.cell? ⟨g, j * 2, none⟩ = some (.int .i64 q.1) ∧ W.cell? ⟨g, j * 2 + 1, none⟩ = some (.int .i64 q.2)) := fun W hW => ⟨(hW.cell (p := ⟨g, j * 2, none⟩) hgl).trans c0, (hW.cell (p := ⟨g, j * 2 + 1, none⟩) hgl).trans c1⟩
                have hz0 := (HSB.out wz.drew HBD.out).1
                have hz1 := (HSB.out wz.drew HBD.out).2
                have hgz : g < wz.heap.size := by omega
                obtain ⟨A0, hA0, hA1⟩ : ∃ A0 : Addr, (if dc = i then some ⟨g', 0, none⟩ else some ⟨g', i * 2, none⟩ : Option Addr) = some A0 ∧ (A0 = ⟨g', i * 2, none⟩ ∨ (srt (lo now (L.take j))).drop i = []) := by
                  have hdd : dn ≤ dc := by
                    rcases H6.out.shape with ⟨h1, _⟩ | ⟨g0, c0', cur, h1, h2, h3, h4, h5, h6⟩
                    · cases h1
                    · injection h1 with e1 e2 e3
                      have := HDN.out
                      omega
                  by_cases hdi : dc = i
                  · exact ⟨⟨g', 0, none⟩, if_pos hdi, .inr (List.drop_of_length_le (by have := HDN.out; omega))⟩
                  · exact ⟨⟨g', i * 2, none⟩, if_neg hdi, .inl rfl⟩
                have hidc : i ≤ dc := by
                  rcases H6.out.shape with ⟨h1, _⟩ | ⟨g0, c0', cur, h1, h2, h3, h4, h5, h6⟩
                  · cases h1
                  · injection h1 with e1 e2 e3
                    have := HDN.out
                    omega
                have HR1 : Hid (∀ W, Below w1.heap.size w1 W → ReadsP W (.slice (some ⟨g', 0, none⟩) i dc) ((srt (lo now (L.take j))).take i)) := fun W hW => reads_of_own (i := 0) H6.out hW (.inl rfl) (by rw [List.length_take]; have := HDN.out; omega) (fun t u hu => by rw [← pv_take] at hu; have ht := (List.getElem?_eq_some_iff.1 hu).1; rw [List.length_take] at ht; rw [List.getElem?_take, if_pos (by omega)] at hu; simpa using hu)
                have HR2 : Hid (∀ W, Below w1.heap.size w1 W → ReadsP W (.slice (some A0) (dn - i) (dc - i)) ((srt (lo now (L.take j))).drop i)) := fun W hW => reads_of_own (i := i) H6.out hW hA1 (by rw [List.length_drop, HDN.out]) (fun t u hu => by rw [← pv_drop, List.getElem?_drop] at hu; exact hu)
                have htl : ((srt (lo now (L.take j))).take i).length ≤ 200 := by rw [List.length_take]; omega
                have htl2 : ((srt (lo now (L.take j))).drop i).length ≤ 200 := by rw [List.length_drop]; have := HDN.out; omega
                have HTL := Lib.hid htl
                have HTL2 := Lib.hid htl2
                have HM := Lib.hid mixed
                clear hwz htl htl2 hA1 
                have mixed := HM.out
                go_region_held_law (fun W => W.cell? ⟨g, j * 2, none⟩ = some (.int .i64 q.1) ∧ W.cell? ⟨g, j * 2 + 1, none⟩ = some (.int .i64 q.2)) (first | assumption | (exact ⟨hz0, hz1⟩) | (exact HSB.out _ (HB1.out _)) | (exact HSB.out _ (HB2.out _ _)) | (exact HSB.out _ (hb5.alloc hb5.size _)))
                  (first
                    | (refine step_appP (B := w1.heap.size) (w0 := w1) rfl (.tmp 51) (.tmp 54) rfl (v := .slice (some ⟨wz.heap.size, 0, none⟩) 0 0) (u := (.slice (some ⟨g', 0, none⟩) i dc)) (by simp [Act.eval, Act.put]) (by simp [Act.eval, Act.put]) (own_nil0 (by first | exact heap_alloc_new _ _ | exact heap_new1 _ _ _)) (HR1.out _ (by first | exact HB1.out _ | exact HB2.out _ _)) (by have h1 := HTL.out; simp only [List.length_append, List.length_nil, List.length_cons]; omega) (fun b hb => by simp [Value.ownBlock] at hb; omega) (by first | exact HB1.out _ | exact HB2.out _ _) (by simp; omega) HSB.out ?_; intro v5 w5 ho5 hf5 hb5 hg5 hS5)
                    | (refine step_appP (B := w1.heap.size) (w0 := w1) rfl (.tmp 51) (.tmp 54) rfl (v := .slice (some ⟨wz.heap.size + 1, 0, none⟩) 0 0) (u := (.slice (some ⟨g', 0, none⟩) i dc)) (by simp [Act.eval, Act.put]) (by simp [Act.eval, Act.put]) (own_nil0 (heap_new2 _ _ _)) (HR1.out _ (by first | exact HB1.out _ | exact HB2.out _ _)) (by have h1 := HTL.out; simp only [List.length_append, List.length_nil, List.length_cons]; omega) (fun b hb => by simp [Value.ownBlock] at hb; omega) (by first | exact HB1.out _ | exact HB2.out _ _) (by simp; omega) HSB.out ?_; intro v5 w5 ho5 hf5 hb5 hg5 hS5)
                    | (refine step_appP (B := w1.heap.size) (w0 := w1) rfl (.tmp 55) (.tmp 60) rfl (v := v5) (u := .slice (some ⟨w5.heap.size, 0, none⟩) 1 1) (by simp [Act.eval, Act.put]) (by simp [Act.eval, Act.put]) (ho5.alloc _) (one_reads127 (q := q) (heap_alloc_new _ _)) (by have h1 := HTL.out; simp only [List.length_append, List.length_nil, List.length_cons]; omega) hf5 (hb5.alloc hb5.size _) (by have := hb5.size; simp; omega) HSB.out ?_; intro v6 w6 ho6 hf6 hb6 hg6 hS6)
                    | (refine step_appP (B := w1.heap.size) (w0 := w1) rfl (.tmp 55) (.tmp 60) rfl (v := v5) (u := .slice (some ⟨wz.heap.size + 1, 0, none⟩) 1 1) (by simp [Act.eval, Act.put]) (by simp [Act.eval, Act.put]) ho5 (one_reads127 (q := q) ((hg5.block _ (by simp <;> omega) (by simp [Value.ownBlock])).trans (heap_new2 _ _ _))) (by have h1 := HTL.out; simp only [List.length_append, List.length_nil, List.length_cons]; omega) hf5 hb5 hb5.size HSB.out ?_; intro v6 w6 ho6 hf6 hb6 hg6 hS6)
                    | (refine step_appP (B := w1.heap.size) (w0 := w1) rfl (.tmp 55) (.tmp 60) rfl (v := v5) (u := .slice (some ⟨wz.heap.size, 0, none⟩) 1 1) (by simp [Act.eval, Act.put]) (by simp [Act.eval, Act.put]) ho5 (one_reads127 (q := q) ((hg5.block _ (by simp <;> omega) (by simp [Value.ownBlock])).trans (heap_new1 _ _ _))) (by have h1 := HTL.out; simp only [List.length_append, List.length_nil, List.length_cons]; omega) hf5 hb5 hb5.size HSB.out ?_; intro v6 w6 ho6 hf6 hb6 hg6 hS6)
                    | (refine step_appP (B := w1.heap.size) (w0 := w1) rfl (.tmp 61) (.tmp 64) rfl (v := v6) (u := (.slice (some A0) (dn - i) (dc - i))) (by simp [Act.eval, Act.put]) (by simp [Act.eval, Act.put]) ho6 (HR2.out _ hb6) (by have h1 := HTL.out; have h2 := HTL2.out; simp only [List.length_append, List.length_nil, List.length_cons]; omega) hf6 hb6 hb6.size HSB.out ?_; intro v7 w7 ho7 hf7 hb7 hg7 hS7))
                all_goals
                  have HO7 : Hid (OwnP 99 w7 v7 (srt (lo now (L.take (j + 1))))) := by
                    unfold Hid
                    rw [HTK.out, lo, List.filter_append, List.filter_cons_of_pos (by simpa using hqn), List.filter_nil, srt_snoc, insQ]
                    rw [← lo, HK0.out]
                    simpa using ho7
                  have HL7 : Hid (OwnP 99 w7 u7 (hi now (L.take (j + 1)))) := by
                    unfold Hid
                    rw [HTK.out, hi, List.filter_append, List.filter_cons_of_neg (by simpa using hqn), List.filter_nil, List.append_nil]
                    exact H7.out.below hb7
                  have HF1 : Hid (∀ b, v7.ownBlock = some b → w.heap.size ≤ b ∧ u7.ownBlock ≠ some b) := fun b hb => ⟨by have := hf7 b hb; have := HB.out.size; omega, fun e => by have := H7.out.lt b e; have := hf7 b hb; omega⟩
                  have HB7 : Hid (Below w.heap.size w w7) := HB.out.trans (hb7.mono HB.out.size)
                  clear ho5 hf5 hb5 hg5 hS5 ho6 hf6 hb6 hg6 hS6 ho7 hf7 hb7 hg7 hS7
                  go_wp2_with fail
                  go_roundw
                  case rel => exact ⟨j + 1, by omega, by go_num, HO7.out, HL7.out, HF1.out, HF7.out, HB7.out⟩
                  case measure => simp [intOf]; omega
    · obtain rfl : j = n := by omega
      have ho6 := H6.out
      have ho7 := H7.out
      rw [List.take_of_length_le (by have := HN.out; omega)] at ho6 ho7 hfl
      obtain ⟨da, dc, hds⟩ := ho6.sl
      obtain ⟨dn, hdn⟩ : ∃ dn, (srt (lo now L)).length = dn := ⟨_, rfl⟩
      rw [hdn] at hds
      subst hds
      have hdl : dn ≤ 100 := by rw [← hdn, srt_length]; exact hfl
      have HDN := Lib.hid hdn
      have HO6 := Lib.hid ho6
      have HO7 := Lib.hid ho7
      clear ho6 ho7 hdn H6 H7 hfl hjn
      obtain ⟨w1, hw1⟩ : ∃ w1, w1 = wr := ⟨_, rfl⟩
      subst hw1
      go_wp2_with fail
      go_loopw [10, 11] (fun s10 s11 wx => ∃ i : Nat, i ≤ dn ∧ s11 = .int .i64 i ∧ Own wx s10 (((srt (lo now L)).take i).map Prod.fst) ∧ (∀ b, s10.ownBlock = some b → w1.heap.size ≤ b) ∧ Below w1.heap.size w1 wx) (fun _ i _ => dn - (intOf i).toNat)
      case atStart => exact ⟨0, by omega, rfl, by simpa using Own.nil w1, fun b hb => by simp [Value.ownBlock] at hb, Below.refl _ _⟩
      case round =>
        obtain ⟨i, hii, rfl, ho, hf, hb⟩ := hrel
        have HO := Lib.hid ho
        have HF := Lib.hid hf
        have HBX := Lib.hid hb
        have hbs := hb.size
        clear ho hf hb
        by_cases hid : i < dn
        · obtain ⟨p, hp⟩ : ∃ p, (srt (lo now L))[i]? = some p := ⟨_, List.getElem?_eq_getElem (by have := HDN.out; omega)⟩
          obtain ⟨g', c', hv', hgl', d0, d1⟩ := (HO6.out.below HBX.out).at hp
          injection hv' with e1 e2 e3
          subst e1 e3
          have htk : ((srt (lo now L)).take (i + 1)).map Prod.fst = ((srt (lo now L)).take i).map Prod.fst ++ [p.1] := by rw [List.take_add_one, hp]; simp
          have HTK := Lib.hid htk
          clear hp e2 htk
          obtain ⟨v', w2, hrun, ho2, hg2, hf2⟩ := own_append (t := 39) (tx := 39) (ty := 39) Tryz.underlying39 Tryz.underlying39 (HO.out.alloc (.cells #[.int .i64 p.1] 3)) (x := .slice (some ⟨wr.heap.size, 0, none⟩) 1 1) (ys := [p.1]) ⟨_, _, rfl, fun _ => ⟨_, rfl, fun j u hu => by
            match j, hu with
            | 0, hu =>
              simp [iv] at hu
              subst hu
              simp [Addr.add]
            | j + 1, hu => simp [iv] at hu⟩⟩ (by simp; omega)
          rw [← HTK.out] at ho2
          have HO2 := Lib.hid ho2
          have HB2 : Hid (Below w1.heap.size w1 w2) := grown_below (w := w1) (HBX.out.alloc HBX.out.size _) hg2 HF.out
          have HF2 : Hid (∀ b, v'.ownBlock = some b → w1.heap.size ≤ b) := fun b hb' => by
            rcases hf2 b hb' with h1 | h1
            · exact HF.out b h1
            · simp at h1
              omega
          clear ho2 hg2 hf2
          go_wp2_with (first | (at_builtin; refine Lib.wpList_append_run _ rfl (.tmp 72) (.tmp 78) 39 39 rfl _ _ rfl rfl _ _ hrun ?_))
          go_roundw
          case rel => exact ⟨i + 1, by omega, by go_num, HO2.out, HF2.out, HB2.out⟩
          case measure => simp [intOf]; omega
        · obtain rfl : i = dn := by omega
          have ho := HO.out
          rw [List.take_of_length_le (by have := HDN.out; omega)] at ho
          have HP : Hid (Due20 w L now (.returned (.tuple #[u10, u7])) wr) := ⟨u10, u7, rfl, ho, fun b hb => Nat.le_trans HB.out.size (HF.out b hb), HO7.out.below HBX.out, HF7.out, HB.out.trans (HBX.out.mono HB.out.size)⟩
          clear ho
          go_wp2_with fail
          go_ret2
          exact HP.out

end Go.Proofs.YtgnjenmicojgnaaGreat
