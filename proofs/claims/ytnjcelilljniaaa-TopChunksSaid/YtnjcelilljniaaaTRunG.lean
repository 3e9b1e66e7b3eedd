/-
  runs.fences: the walk.
-/
import Derived.Test.YtnjcelilljniaaaTRunC
namespace Go.Proofs.Ytnjcelilljniaaa
open Go.RowKit

noncomputable def fncM (n st : Nat) (v : Int) (m q : Nat) : List Fnc := (List.range m).map fun j => fncJ n st v (decide (j < q)) j
theorem fncM_len (n st : Nat) (v : Int) (m q : Nat) : (fncM n st v m q).length = m := by simp [fncM]
theorem fncM_zero (n st : Nat) (v : Int) (m : Nat) : fncM n st v m 0 = fncL n st v false m := by simp [fncM, fncL]
theorem fncM_all (n st : Nat) (v : Int) (m : Nat) : fncM n st v m m = fncL n st v true m := by
  unfold fncM fncL
  refine List.map_congr_left fun j hj => ?_
  rw [decide_eq_true (List.mem_range.1 hj)]
theorem fncM_set {n st m q : Nat} {v : Int} (h : q < m) : (fncM n st v m q).set q (fncJ n st v true q) = fncM n st v m (q + 1) := by
  refine List.ext_getElem (by simp [fncM]) fun i h1 h2 => ?_
  rw [List.getElem_set]
  simp only [fncM, List.getElem_map, List.getElem_range]
  by_cases e : q = i
  · subst e; rw [if_pos rfl, decide_eq_true (Nat.lt_succ_self q)]
  · rw [if_neg e]
    congr 1
    have : (i < q + 1) ↔ (i < q) := by omega
    rw [decide_eq_decide]; exact this.symm
theorem flat_setF {l : List Fnc} {i : Nat} (b : Bytes) (x : Fnc) (hi : i < l.length) (hx : x = ((l.getD i (0, 0, 0, [])).1, (l.getD i (0, 0, 0, [])).2.1, (l.getD i (0, 0, 0, [])).2.2.1, b)) : (l.flatMap encF).set (i * 4 + 3) (.string (bs b)) = (l.set i x).flatMap encF := by
  induction l generalizing i with
  | nil => simp at hi
  | cons y r ih =>
    cases i with
    | zero => subst hx; simp [encF]
    | succ j =>
      have e : (j + 1) * 4 + 3 = (j * 4 + 3) + 1 + 1 + 1 + 1 := by omega
      have := ih (i := j) (by simpa using hi) (by rw [hx]; rfl)
      simp only [List.flatMap_cons, encF, e, List.cons_append, List.nil_append, List.set_cons_succ] at this ⊢
      rw [← this]
theorem OwnR.setF {w : World} {base g m cap i : Nat} {l : List Fnc} (h : OwnR 119 4 encF w base (.slice (some ⟨g, 0, none⟩) m cap) l) (b : Bytes) (x : Fnc) (hi : i < l.length) (hx : x = ((l.getD i (0, 0, 0, [])).1, (l.getD i (0, 0, 0, [])).2.1, (l.getD i (0, 0, 0, [])).2.2.1, b)) :
    OwnR 119 4 encF (w.setCell ⟨g, i * 4 + 3, none⟩ (.string (bs b))) base (.slice (some ⟨g, 0, none⟩) m cap) (l.set i x) := by
  obtain ⟨h1, h2⟩ := h
  rcases h2 with ⟨e, _⟩ | ⟨g', cap', cur, e, hg, hh, hn, hcap, hs, ht⟩
  · cases e
  · simp only [Value.slice.injEq, Option.some.injEq, Addr.mk.injEq, and_true] at e
    obtain ⟨rfl, rfl, rfl⟩ := e
    refine ⟨flat_len (enc := encF) (k := 4) (fun _ => rfl) _, .inr ⟨g, cap, cur.setIfInBounds (i * 4 + 3) (.string (bs b)), by rw [List.length_set], hg, heap_setE hh, by rw [List.length_set]; exact hn, hcap, by simpa using hs, ?_⟩⟩
    rw [List.length_set, ← flat_setF b x hi hx, ← ht, Array.toList_setIfInBounds, List.take_set]

set_option maxRecDepth 100000 in
set_option maxHeartbeats 4000000 in
theorem fences_any (n st : Nat) (v : Int) (w : World) (hn : n ≤ 90) (hst1 : 1 ≤ st) (hst : st ≤ 300) (hv0 : -9223372036854775808 ≤ v) (hv1 : v ≤ 9223372036854775807) :
    Calls Try.prog 58 #[.string (bs (runL n st v))] w fun e w' => ∃ u, e = .returned (.tuple #[u, .bool true]) ∧ OwnR 119 4 encF w' (w.heap.size + 1) u (fncL n st v true (nBlk n)) ∧ Below w.heap.size w w' := by
  have hsl := runL_len (v := v) hn hst hv0 hv1
  have HRb := Lib.hid (show RdB (w.alloc (.cells #[.string (bs (runL n st v)), .int .i64 0, .bool true] 140)) w.heap.size (runL n st v) 0 from heap_alloc_new _ _)
  have HN0 := Lib.hid (number_any (runL n st v) ((List.range (nBlk n)).flatMap (headB n st v) ++ bodyT n st v (List.range (nBlk n))) w.heap.size 0 n 5001 _ HRb.out (by unfold runL headT; rw [List.drop_zero, List.append_assoc]) (by omega) (by omega) (by omega) (by omega))
  have HFs := Lib.hid (fun w' h hg => FcI.start w n st v (runL n st v) (fun _ => trivial) w' h hg)
  have HPa := Lib.hid (fun k (hk : k < nBlk n) => head_parts (st := st) (v := v) hk)
  have HBo := Lib.hid (fun k (hk : k < nBlk n) => body_parts (st := st) (v := v) hk)
  have HLn := Lib.hid (show (runL n st v).length = (headT n st v (List.range (nBlk n))).length + (bodyT n st v (List.range (nBlk n))).length by unfold runL; rw [List.length_append])
  have hnb := nBlk_le hn
  have HB0 := Lib.hid (show (bodyT n st v (List.range 0)).length = 0 from rfl)
  obtain ⟨S, hS⟩ : ∃ S, S = runL n st v := ⟨_, rfl⟩
  rw [← hS] at HRb HN0 HFs HPa HBo HLn hsl ⊢
  clear hS
  go_enter Try.func58, Try.ntmps58
  go_wp2_with fail
  refine HN0.out.mono ?_
  rintro e w1 ⟨rfl, hr1, hg1⟩
  rw [Nat.zero_add] at hr1
  have HF1 := Lib.hid (HFs.out w1 hr1 hg1)
  clear hr1 hg1 HFs HN0 HRb
  obtain ⟨p, hp⟩ : ∃ p, p = w.heap.size := ⟨_, rfl⟩
  rw [← hp] at HF1 ⊢
  have HPw := Lib.hid hp
  clear hp
  go_wp2_with fail
  go_loopw [9, 5, 6, 7, 8] (fun lf lv sv al la wr => ∃ k : Nat, lf = .int .i64 ((n : Int) - 16 * (k : Int)) ∧ k ≤ nBlk n ∧ al = .int .i64 ((bodyT n st v (List.range k)).length : Nat) ∧ la = .int .i64 (lastN n st k) ∧ FcI p n st k v S lv sv w wr) (fun lf lv sv al la wr => (intOf lf + 16).toNat)
  case atStart => exact ⟨0, by simp, Nat.zero_le _, rfl, rfl, HF1.out⟩
  case round =>
    clear HF1
    obtain ⟨k, rfl, hk, rfl, rfl, hI⟩ := hrel
    have HI := Lib.hid hI
    obtain ⟨la, lc, hla, hlc, hlm, -⟩ := hI.ol.src
    obtain ⟨sa, sc, hsa, hsc, hsm, -⟩ := hI.os.src
    rw [fncL_len] at hla hlc
    rw [szL_len] at hsa hsc
    subst hla
    subst hsa
    clear hI
    have HKb := Lib.hid (nBlk_lt (n := n) (j := k))
    by_cases hlt : k < nBlk n
    · obtain ⟨r, hr⟩ := HPa.out k hlt
      obtain ⟨hd1, hd2, hd3⟩ := drop3 hr
      have hk16 := HKb.out.1 hlt
      have hF : 16 * k * st ≤ 90 * 300 := Nat.mul_le_mul (by omega) hst
      have hM : (chN n k - 1) * st ≤ 16 * 300 := Nat.mul_le_mul (by have := chN_le n k; omega) hst
      have hZ : szJ n st v k ≤ 480 := by have := blkL_len (v := v) hst hv0 hv1 (chN n k); have := chN_le n k; unfold szJ; omega
      have hZS : szJ n st v k ≤ S.length := by
        obtain ⟨r', hr'⟩ := HBo.out k hlt
        rw [hr']; simp only [List.length_append]; unfold szJ; omega
      have hls := lastN_le (n := n) (st := st) (k := k)
      have HL1 := Lib.hid (lastN_succ n st k)
      have HHl := Lib.hid (head_len (n := n) (st := st) (k := k) (v := v))
      have HBl := Lib.hid (body_len (n := n) (st := st) (k := k) (v := v))
      have hbb := bodyT_len (n := n) (v := v) hst hv0 hv1 (List.range k)
      rw [List.length_range] at hbb
      have hhb := headT_len (v := v) hn hst hv0 hv1 (List.range k) (fun j hj => by have := List.mem_range.1 hj; omega)
      rw [List.length_range] at hhb
      have HMi := Lib.hid (show min ((n : Int) - 16 * (k : Int)) 16 = (chN n k : Int) by unfold chN; split <;> omega)
      have HFJ := Lib.hid (show fncJ n st v false k = (16 * k * st, 16 * k * st + (chN n k - 1) * st + 1, chN n k, []) from rfl)
      have HRd := Lib.hid HI.out.rd
      have HN1 := Lib.hid (number_any S _ p _ (16 * k * st) 1099511627776 wr HI.out.rd hd1 (by omega) (by omega) (by omega) (by omega))
      have HN2 := Lib.hid (fun w' h => number_any S _ p _ ((chN n k - 1) * st) 1099511627776 w' h hd2 (by omega) (by omega) (by omega) (by have := uintL_len10 (n := 16 * k * st) (by omega); omega))
      have HN3 := Lib.hid (fun w' h => number_any S _ p _ (szJ n st v k) ((S.length : Int) + 1) w' h hd3 (by omega) (by omega) (by omega) (by have := uintL_len10 (n := 16 * k * st) (by omega); have := uintL_len10 (n := (chN n k - 1) * st) (by omega); omega))
      have HAp := Lib.hid HI.out.ap
      have HRow := Lib.hid (fun at_ w'' (hr : RdB w'' p S at_) hg => HI.out.row hr hg)
      have HNx := Lib.hid (fun at_ g1 c1 g2 c2 w3 w4 w5 o1 o2 hr ol os be sz => FcI.next (p := p) (n := n) (st := st) (k := k) (v := v) (S := S) (lv := .slice la k lc) (sv := .slice sa k sc) (w := w) (at_ := at_) (g1 := g1) (c1 := c1) (g2 := g2) (c2 := c2) (w3 := w3) (w4 := w4) (w5 := w5) (o1 := o1) (o2 := o2) hr ol os HAp.out be sz)
      rw [HFJ.out] at HNx
      have hchp := chN_pos hlt
      have hchl := chN_le n k
      have hgt : (0 : Int) < (n : Int) - 16 * (k : Int) := by omega
      have hgt2 : decide ((0 : Int) < (n : Int) - 16 * (k : Int)) = true := by simp; omega
      have hgt3 : (16 : Int) * (k : Int) < (n : Int) := by omega
      have hgt4 : decide ((16 : Int) * (k : Int) < (n : Int)) = true := by simp; omega
      generalize hFe : 16 * k * st = F at *
      generalize hMe : (chN n k - 1) * st = M at *
      generalize szJ n st v k = Z at *
      generalize lastN n st k = J at *
      obtain ⟨L', hL'⟩ : ∃ L', L' = F + M := ⟨_, rfl⟩
      rw [← hL'] at HL1 HNx
      obtain ⟨T1, hT1⟩ : ∃ T1, T1 = L' + 1 := ⟨_, rfl⟩
      rw [← hT1] at HNx
      have hs1 : (F : Int) + (M : Int) = (L' : Int) := by omega
      have hs2 : (L' : Int) + 1 = (T1 : Int) := by omega
      have hq1 : decide ((1099511627776 : Int) ≤ (L' : Int)) = false := by simp; omega
      have hq2 : decide ((F : Int) < (J : Int)) = false := by simp; omega
      have hq3 : decide (1099511627776 ≤ L') = false := by simp; omega
      have hq4 : decide (F < J) = false := by simp; omega
      have hBZ : ((bodyT n st v (List.range k)).length : Int) + (Z : Int) = ((bodyT n st v (List.range (k + 1))).length : Int) := by rw [HBl.out]; omega
      have hmi := HMi.out
      have hBZ' := hBZ
      obtain ⟨B1, hB1⟩ : ∃ B1, B1 = (bodyT n st v (List.range (k + 1))).length := ⟨_, rfl⟩
      rw [← hB1] at HBl hBZ
      have HB1 := Lib.hid hB1
      clear hB1 hBZ'
      generalize (bodyT n st v (List.range k)).length = B0 at *
      have hB0b : B0 ≤ 480 * k := hbb
      generalize chN n k = C at *
      clear hr hd1 hd2 hd3 hk16 hFe hMe hbb hhb hZS hls hL' hT1 HB0
      go_wp2_with fail
      refine HN1.out.mono ?_
      rintro e w2 ⟨rfl, r2, g2⟩
      have HR2 := Lib.hid r2
      have HG2 := Lib.hid g2
      clear r2 g2
      go_wp2_with fail
      refine (HN2.out _ HR2.out).mono ?_
      rintro e w3 ⟨rfl, r3, g3⟩
      have HR3 := Lib.hid r3
      have HG3 := Lib.hid (gb_trans HG2.out g3)
      clear r3 g3
      go_wp2_with fail
      refine (HN3.out _ HR3.out).mono ?_
      rintro e w4 ⟨rfl, r4, g4⟩
      have HR4 := Lib.hid r4
      have HG4 := Lib.hid (gb_trans HG3.out g4)
      obtain ⟨c0, c1, c2, f1⟩ := r4.cells
      clear r4 g4 HR2 HR3 HG2 HG3
      obtain ⟨ol4, os4, be4, sz4⟩ := HRow.out _ _ HR4.out HG4.out
      have HOl := Lib.hid ol4
      have HOs := Lib.hid os4
      have HBe := Lib.hid be4
      clear ol4 os4 be4
      have hlenF := fncL_len n st v false k
      have hlenS := szL_len n st v k
      go_wp2_with (first
        | (at_builtin; refine app_fnc _ rfl (.tmp 53) (.tmp 61) rfl (p + 1) (.slice la k lc) (fncL n st v false k) (F, T1, C, []) w4.heap.size rfl (by rfl) (heap_alloc_new ..) (HOl.out.below ((Below.refl _ _).alloc (Nat.le_refl _) _)) (by simp; omega) (by rw [fncL_len]; omega) ?_; intro g5 c5 w5 hown5 hgb5 hlie5 hgl5; rw [hlenF] at hown5; have HO5 := Lib.hid hown5; have HOs5 := Lib.hid (show OwnR 3 1 encI w5 (p + 1) (.slice sa k sc) (szL n st v k) from World.ownsRow.kept (HOs.out.below ((Below.refl _ _).alloc (Nat.le_refl _) _)) hgb5 HAp.out); have sz5 : p + 1 ≤ w5.heap.size := (by have := hgb5.size; simp at this; omega); have HGb5 := Lib.hid hgb5; have HLi5 := Lib.hid hlie5; have HGl5 := Lib.hid hgl5; clear hown5 hgb5 hlie5 hgl5)
        | (at_builtin; refine app_int _ rfl (.tmp 63) (.tmp 65) rfl (p + 1) (.slice sa k sc) (szL n st v k) Z w5.heap.size rfl (by rfl) (heap_alloc_new ..) (HOs5.out.below ((Below.refl _ _).alloc (Nat.le_refl _) _)) (by simp; omega) (by rw [szL_len]; omega) ?_; intro g6 c6 w6 hown6 hgb6 hlie6 hgl6; rw [hlenS] at hown6; have HO6 := Lib.hid hown6; have HGb6 := Lib.hid hgb6; have HLi6 := Lib.hid hlie6; clear hown6 hgb6 hlie6 hgl6))
      go_roundw
      case rel => exact ⟨k + 1, by rw [show ((k + 1 : Nat) : Int) = (k : Int) + 1 by omega]; congr 1; omega, by omega, by rw [← HB1.out], by rw [HL1.out], (HNx.out _ g5 c5 g6 c6 w4 w5 w6 _ _ HR4.out HOl.out HOs.out HBe.out sz4 HO5.out HGb5.out (by simpa using HLi5.out) HGl5.out).2 HO6.out HGb6.out (by simpa using HLi6.out) HHl.out.symm⟩
      case measure => simp [intOf]; omega
    · have hke : k = nBlk n := by omega
      subst hke
      have hle : ¬ ((0 : Int) < (n : Int) - 16 * (nBlk n : Int)) := by have := HKb.out; omega
      have hle2 : decide ((0 : Int) < (n : Int) - 16 * (nBlk n : Int)) = false := by simp; omega
      have hle3 : decide ((16 : Int) * (nBlk n : Int) < (n : Int)) = false := by simp; omega
      obtain ⟨c0, c1, c2, f1⟩ := HI.out.rd.cells
      have hsz := HI.out.sz
      have hln := HLn.out
      have HOl := Lib.hid HI.out.ol
      have HOs := Lib.hid HI.out.os
      have HAp := Lib.hid HI.out.ap
      have HBe := Lib.hid HI.out.be
      have HPa2 := Lib.hid (fun q (hq : q < nBlk n) => by
        obtain ⟨r, hr⟩ := HBo.out q hq
        exact (show (S.drop ((headT n st v (List.range (nBlk n))).length + (bodyT n st v (List.range q)).length)).take (szJ n st v q) = blkL (chN n q) st v ∧ (headT n st v (List.range (nBlk n))).length + (bodyT n st v (List.range q)).length + szJ n st v q ≤ S.length from by
          rw [hr, ← List.length_append, List.drop_left, show szJ n st v q = (blkL (chN n q) st v).length from rfl, List.take_left]
          exact ⟨rfl, by simp only [List.length_append]; omega⟩))
      generalize (headT n st v (List.range (nBlk n))).length = H0 at *
      have hB : (S.length : Int) - (H0 : Int) = ((bodyT n st v (List.range (nBlk n))).length : Int) := by omega
      clear HI HLn
      go_wp2_with fail
      go_loopw [92, 13] (fun i at_ wr => ∃ q : Nat, i = .int .i64 q ∧ q ≤ nBlk n ∧ at_ = .int .i64 ((H0 + (bodyT n st v (List.range q)).length : Nat) : Int) ∧ OwnR 119 4 encF wr (p + 1) (.slice la (nBlk n) lc) (fncM n st v (nBlk n) q) ∧ OwnR 3 1 encI wr (p + 1) (.slice sa (nBlk n) sc) (szL n st v (nBlk n)) ∧ Below p w wr)
        (fun i _ _ => nBlk n - (intOf i).toNat)
      case atStart => exact ⟨0, rfl, Nat.zero_le _, by rw [HB0.out]; rfl, by rw [fncM_zero]; exact HOl.out, HOs.out, HBe.out⟩
      case round =>
        clear HOl HOs HBe c0 c1 c2 f1
        obtain ⟨q, rfl, hq, rfl, ho1, ho2, hbe⟩ := hrel
        have HO1 := Lib.hid ho1
        have HO2 := Lib.hid ho2
        have HBe := Lib.hid hbe
        by_cases hlq : q < nBlk n
        · obtain ⟨hpa1, hpa2⟩ := HPa2.out q hlq
          obtain ⟨a', c', e1, -, -, e4⟩ := OwnR.open_ (enc := encF) (k := 4) (fun _ => rfl) (0, 0, 0, []) ho1
          obtain ⟨g, e5, e6, e7, e8⟩ := e4 (by rw [fncM_len]; omega)
          simp only [Value.slice.injEq] at e1
          obtain rfl : la = some ⟨g, 0, none⟩ := by rw [e1.1, e5]
          have d3 := e8 q (by rw [fncM_len]; omega) 3 (by omega)
          have hgd : (fncM n st v (nBlk n) q).getD q (0, 0, 0, []) = fncJ n st v false q := by
            unfold fncM
            rw [List.getD_eq_getElem?_getD, List.getElem?_map, List.getElem?_range hlq]
            simp
          rw [hgd] at d3
          have d3' : wr.cell? ⟨g, q * 4 + 3, none⟩ = some (.string (bs [])) := by simpa [encF, fncJ] using d3
          have HSet := Lib.hid (HO1.out.setF (i := q) (blkL (chN n q) st v) (fncJ n st v true q) (by rw [fncM_len]; exact hlq) (by rw [hgd]; rfl))
          rw [fncM_set hlq] at HSet
          have fz : wr.frozen? ⟨g, q * 4 + 3, none⟩ = false := by
            rcases ho1.2 with ⟨e, _⟩ | ⟨g', cap', cur, e, hg, hh, _⟩
            · cases e
            · simp only [Value.slice.injEq, Option.some.injEq, Addr.mk.injEq, and_true] at e
              obtain ⟨rfl, _, _⟩ := e
              exact Lib.frozen_of_heap hh _
          have HO2' := Lib.hid (World.ownsRow.kept ho2 (gb_setE (gb_refl wr (some g)) (q * 4 + 3) (.string (bs (blkL (chN n q) st v)))) HAp.out)
          have hgp : p ≤ g := by omega
          obtain ⟨a2, c2, i1, -, -, i4⟩ := OwnR.open_ (enc := encI) (k := 1) (fun _ => rfl) 0 ho2
          obtain ⟨h2, i5, i6, i7, i8⟩ := i4 (by rw [szL_len]; omega)
          simp only [Value.slice.injEq] at i1
          obtain rfl : sa = some ⟨h2, 0, none⟩ := by rw [i1.1, i5]
          have j0 := i8 q (by rw [szL_len]; omega) 0 (by omega)
          have hgs : (szL n st v (nBlk n)).getD q 0 = szJ n st v q := by
            unfold szL
            rw [List.getD_eq_getElem?_getD, List.getElem?_map, List.getElem?_range hlq]
            rfl
          rw [hgs] at j0
          have j0' : wr.cell? ⟨h2, q, none⟩ = some (.int .i64 (szJ n st v q)) := by simpa [encI] using j0
          have HB1 := Lib.hid (show H0 + (bodyT n st v (List.range q)).length + szJ n st v q = H0 + (bodyT n st v (List.range (q + 1))).length by rw [body_len]; omega)
          have hrun := fun w => smid_run S (H0 + (bodyT n st v (List.range q)).length) (H0 + (bodyT n st v (List.range q)).length + szJ n st v q) (by omega) hpa2 w
          rw [Nat.add_sub_cancel_left, hpa1] at hrun
          generalize szJ n st v q = Z at *
          generalize H0 + (bodyT n st v (List.range q)).length = A at *
          obtain ⟨E, hE⟩ : ∃ E, E = A + Z := ⟨_, rfl⟩
          rw [← hE] at hrun HB1 hpa2
          have hs1 : (A : Int) + (Z : Int) = (E : Int) := by omega
          have hls : q < (szL n st v (nBlk n)).length := by rw [szL_len]; exact hlq
          clear ho1 ho2 hbe hpa1 e1 e4 e5 e6 e8 d3 hgd i1 i4 i5 i6 i8 j0 hgs hE HO1 HO2
          generalize blkL (chN n q) st v = BB at *
          go_wp2_with fail
          go_roundw
          case rel => exact ⟨q + 1, by go_num, by omega, by rw [HB1.out], HSet.out, HO2'.out, HBe.out.setCell (p := ⟨g, _, none⟩) hgp _⟩
          case measure => simp [intOf]; omega
        · have hqe : q = nBlk n := by omega
          subst hqe
          clear ho1 ho2 hbe
          go_wp2_with fail
          go_ret2
          exact ⟨.slice la (nBlk n) lc, by simp, by rw [← HPw.out, ← fncM_all]; exact HO1.out, by rw [← HPw.out]; exact HBe.out⟩

end Go.Proofs.Ytnjcelilljniaaa
