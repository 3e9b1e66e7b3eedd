/-
  runs.Between, runs.Decode of what runs.Encode says.
-/
import Derived.Test.YtnjcelilljniaaaTRunG
namespace Go.Proofs.Ytnjcelilljniaaa
open Go.RowKit

/-- How many rows k blocks have. -/
def rwN (n k : Nat) : Nat := if 16 * k ≤ n then 16 * k else n
theorem rwN_all (n : Nat) : rwN n (nBlk n) = n := by unfold rwN nBlk; split <;> omega
theorem rwN_zero (n : Nat) : rwN n 0 = 0 := by simp [rwN]
theorem rwN_here {n k : Nat} (h : k < nBlk n) : rwN n k = 16 * k := by have := nBlk_lt.1 h; unfold rwN; rw [if_pos (by omega)]
theorem rwN_succ {n k : Nat} (h : k < nBlk n) : rwN n (k + 1) = 16 * k + chN n k := by have := nBlk_lt.1 h; unfold rwN chN; split <;> split <;> omega
theorem rowsL_add (a m st : Nat) (v : Int) : rowsL (a + m) st v = rowsL a st v ++ rowsX (a * st) m st v := by
  unfold rowsL rowsX
  rw [List.range_add, List.map_append, List.map_map]
  congr 1
  refine List.map_congr_left fun i _ => ?_
  simp only [Function.comp, Nat.add_mul]
theorem rows_next {n k st : Nat} {v : Int} (h : k < nBlk n) : rowsL (rwN n (k + 1)) st v = rowsL (rwN n k) st v ++ rowsX (16 * k * st) (chN n k) st v := by
  rw [rwN_succ h, rwN_here h, rowsL_add]

/-- 'l = append(l, x...)': rows. -/
theorem app_rows (w : World) {ops : Array Oper} {rest : List Oper} {o : Oper} {a : Act} {Q : Exit → Act → World → Prop} (hgd : o.guard = none) (s x : Operand)
    (ho : o.op = .call { callee := .builtin .append, args := #[s, x], argTypes := #[23, 23] })
    (base : Nat) (v : Value) (l y : List Rw) (g c : Nat) (hs : a.eval s = v) (hx : a.eval x = .slice (some ⟨g, 0, none⟩) y.length c) (base' : Nat)
    (hnew : OwnR 27 3 encRw w base' (.slice (some ⟨g, 0, none⟩) y.length c) y) (hy : 0 < y.length) (hown : OwnR 27 3 encRw w base v l) (hbase : base ≤ w.heap.size) (hlen : l.length + y.length ≤ 1000000000)
    (h : ∀ g' cap w', OwnR 27 3 encRw w' base (.slice (some ⟨g', 0, none⟩) (l.length + y.length) cap) (l ++ y) → Below base w w' → wpList Try.prog ops Q rest (a.put o.dst (.slice (some ⟨g', 0, none⟩) (l.length + y.length) cap)) w') :
    wpList Try.prog ops Q (o :: rest) a w := by
  obtain ⟨i0, hi, hz0, hz1, hz2⟩ := info_parts infoRow
  obtain ⟨ao, cap, e1, -, -, e4, -, e6⟩ := hnew.src
  simp only [Value.slice.injEq, true_and] at e1
  refine wpList_append_lies w hgd s x 23 ho base 27 i0 _ 3 24 Try.underlying23 hi hz0 hz1 hz2 rfl (by decide) v l.length _ hs hown
    ⟨g, 0, none⟩ y.length c (y.flatMap encRw) hx e4 (e6 _ e1.1.symm) encRw_one hy (by simp only [maxLen]; omega) (by omega) hbase _ rfl ?_
  intro g' cap w' h1 h2 _ _
  refine h g' cap w' ?_ ((Below.refl _ _).grown h2 hbase (fun k hk => (hown.lt k hk).1))
  unfold OwnR
  rw [List.length_append, List.flatMap_append]
  exact h1

set_option maxRecDepth 100000 in
set_option maxHeartbeats 4000000 in
theorem between_any (n st : Nat) (v : Int) (w : World) (hn : n ≤ 90) (hst1 : 1 ≤ st) (hst : st ≤ 300) (hv0 : -9223372036854775808 ≤ v) (hv1 : v ≤ 9223372036854775807) :
    Calls Try.prog 38 #[.string (bs (runL n st v)), .agg #[.int .i64 0, .int .i64 1099511627776]] w fun e w' => ∃ u, e = .returned (.tuple #[u, .int .i64 0]) ∧ OwnR 27 3 encRw w' w.heap.size u (rowsL n st v) ∧ Below w.heap.size w w' := by
  have HF := Lib.hid (fun w' => fences_any n st v w' hn hst1 hst hv0 hv1)
  have HBx0 := Lib.hid (show BoxR (w.alloc (.cells #[.int .i64 0, .int .i64 1099511627776] 93)) w.heap.size from heap_alloc_new _ _)
  have hnb := nBlk_le hn
  generalize runL n st v = S at *
  go_enter Try.func38, Try.ntmps38
  go_wp2_with fail
  refine (HF.out _).mono ?_
  rintro e w1 ⟨u, rfl, ho, hb⟩
  obtain ⟨la, lc, rfl, hlc, hlm, -⟩ := ho.src
  rw [fncL_len] at hlc
  have HO := Lib.hid ho
  have HX := Lib.hid (HBx0.out.below hb)
  have HB := Lib.hid (((Below.refl w.heap.size w).alloc (Nat.le_refl _) (.cells #[.int .i64 0, .int .i64 1099511627776] 93)).trans (hb.mono (by simp)))
  have hlen := fncL_len n st v true (nBlk n)
  clear ho hb HF HBx0
  rw [hlen] at HO ⊢
  go_wp2_with fail
  have hw1 : w.heap.size ≤ w1.heap.size := HB.out.size
  go_loopw [22, 8] (fun i ov wr => ∃ k : Nat, i = .int .i64 k ∧ k ≤ nBlk n ∧ OwnR 27 3 encRw wr w1.heap.size ov (rowsL (rwN n k) st v) ∧ Below w1.heap.size w1 wr) (fun i _ _ => nBlk n - (intOf i).toNat)
  case atStart => exact ⟨0, rfl, Nat.zero_le _, by rw [rwN_zero]; exact OwnR.nil _ _, Below.refl _ _⟩
  case round =>
    obtain ⟨k, rfl, hk, ho, hb⟩ := hrel
    have HOo := Lib.hid ho
    have HBl := Lib.hid hb
    obtain ⟨oa, oc, hov, hoc, hom, -⟩ := ho.src
    rw [rowsL_len] at hov hoc
    subst hov
    have HL := Lib.hid (show OwnR 119 4 encF wr (w.heap.size + 1 + 1) _ _ from OwnR.below (by rw [World.size_alloc] at HO; exact HO.out) hb)
    have HXr := Lib.hid (HX.out.below hb)
    have hs1 : w1.heap.size ≤ wr.heap.size := hb.size
    clear ho hb
    by_cases hlt : k < nBlk n
    · obtain ⟨a', c', e1, -, -, e4⟩ := OwnR.open_ (enc := encF) (k := 4) (fun _ => rfl) (0, 0, 0, []) HL.out
      obtain ⟨g, e5, e6, e7, e8⟩ := e4 (by rw [hlen]; omega)
      simp only [Value.slice.injEq] at e1
      obtain rfl : la = some ⟨g, 0, none⟩ := by rw [e1.1, e5]
      have hgd : (fncL n st v true (nBlk n)).getD k (0, 0, 0, []) = fncJ n st v true k := by
        unfold fncL
        rw [List.getD_eq_getElem?_getD, List.getElem?_map, List.getElem?_range hlt]
        rfl
      have d0 := e8 k (by rw [hlen]; exact hlt) 0 (by omega)
      have d1 := e8 k (by rw [hlen]; exact hlt) 1 (by omega)
      have d2 := e8 k (by rw [hlen]; exact hlt) 2 (by omega)
      have d3 := e8 k (by rw [hlen]; exact hlt) 3 (by omega)
      rw [hgd] at d0 d1 d2 d3
      have hF : 16 * k * st ≤ 90 * 300 := Nat.mul_le_mul (by have := nBlk_lt.1 hlt; omega) hst
      have hM : (chN n k - 1) * st ≤ 16 * 300 := Nat.mul_le_mul (by have := chN_le n k; omega) hst
      have hcp := chN_pos hlt
      have hcl := chN_le n k
      have hmst : chN n k * st ≤ 16 * 300 := Nat.mul_le_mul hcl hst
      obtain ⟨T, hT⟩ : ∃ T, T = 16 * k * st + (chN n k - 1) * st := ⟨_, rfl⟩
      obtain ⟨T1, hT1⟩ : ∃ T1, T1 = T + 1 := ⟨_, rfl⟩
      have HRead := Lib.hid (fun w' => readB_any (16 * k * st) T (chN n k) st v w' hT hcp hcl hst1 hst (by omega) hv0 hv1)
      have HIn := Lib.hid (rowsX_in (X := 16 * k * st) (k := chN n k) (st := st) (v := v) (by omega))
      have HNx := Lib.hid (rows_next (st := st) (v := v) hlt)
      rw [← hT1] at HRead
      have d0' : wr.cell? ⟨g, k * 4, none⟩ = some (.int .i64 (16 * k * st : Nat)) := by simpa [encF, fncJ] using d0
      have d1' : wr.cell? ⟨g, k * 4 + 1, none⟩ = some (.int .i64 (T1 : Nat)) := by rw [hT1, hT]; simpa [encF, fncJ] using d1
      have d2' : wr.cell? ⟨g, k * 4 + 2, none⟩ = some (.int .i64 (chN n k : Nat)) := by simpa [encF, fncJ] using d2
      have d3' : wr.cell? ⟨g, k * 4 + 3, none⟩ = some (.string (bs (blkL (chN n k) st v))) := by simpa [encF, fncJ] using d3
      have HHas := Lib.hid (fun w' => has_any (16 * k * st : Nat) (T1 : Nat) (chN n k : Nat) (.string (bs (blkL (chN n k) st v))) w' (by omega) (by omega) (by omega))
      have x0 : wr.cell? ⟨w.heap.size, 0, none⟩ = some (.int .i64 0) := by rw [cell_of_row wr _ _ _ _ _ HXr.out]; rfl
      have x1 : wr.cell? ⟨w.heap.size, 1, none⟩ = some (.int .i64 1099511627776) := by rw [cell_of_row wr _ _ _ _ _ HXr.out]; rfl
      have hxl := lt_of_heap HXr.out
      have hlen2 := rowsX_len (16 * k * st) (chN n k) st v
      have hcnt : rwN n k ≤ 90 := by rw [rwN_here hlt]; have := nBlk_lt.1 hlt; omega
      have hcnt2 : rwN n (k + 1) = rwN n k + chN n k := by rw [rwN_succ hlt, rwN_here hlt]
      have HC2 := Lib.hid hcnt2
      clear e1 e4 e5 e6 e8 hgd d0 d1 d2 d3 hF hM hmst hT hT1 hcnt2
      generalize 16 * k * st = F at *
      generalize rwN n k = R at *
      generalize blkL (chN n k) st v = BB at *
      generalize hCe : chN n k = C at *
      go_wp2_with fail
      refine (HHas.out _).mono ?_
      rintro e w2 ⟨rfl, hb2⟩
      have hb2' : Below wr.heap.size wr w2 := ((Below.refl wr.heap.size wr).alloc (Nat.le_refl _) _).trans (hb2.mono (by simp))
      have HBy := Lib.hid ((hb2.block wr.heap.size (by simp)).trans (heap_alloc_new wr _))
      have y0 : w2.cell? ⟨wr.heap.size, 0, none⟩ = some (.int .i64 F) := by rw [cell_of_row w2 _ _ _ _ _ HBy.out]; rfl
      have y1 : w2.cell? ⟨wr.heap.size, 1, none⟩ = some (.int .i64 T1) := by rw [cell_of_row w2 _ _ _ _ _ HBy.out]; rfl
      have y2 : w2.cell? ⟨wr.heap.size, 2, none⟩ = some (.int .i64 C) := by rw [cell_of_row w2 _ _ _ _ _ HBy.out]; rfl
      have y3 : w2.cell? ⟨wr.heap.size, 3, none⟩ = some (.string (bs BB)) := by rw [cell_of_row w2 _ _ _ _ _ HBy.out]; rfl
      have HB2 := Lib.hid hb2'
      have hz2 : w1.heap.size ≤ w2.heap.size := Nat.le_trans hs1 hb2'.size
      clear hb2 hb2' HBy d0' d1' d2' d3' x0 x1 hxl
      go_wp2_with fail
      refine (HRead.out _).mono ?_
      rintro e w3 ⟨rv, rfl, ho3, hb3⟩
      obtain ⟨ra, rc, hrv, hrc, hrm, -⟩ := ho3.src
      rw [hlen2] at hrv hrc
      subst hrv
      have HO3 := Lib.hid ho3
      have HB3 := Lib.hid (HB2.out.trans (hb3.mono HB2.out.size))
      have HX3 := Lib.hid (HXr.out.below HB3.out)
      have hz3 : w1.heap.size ≤ w3.heap.size := Nat.le_trans hz2 hb3.size
      clear ho3 hb3 y0 y1 y2 y3 HB2
      have HDel := Lib.hid (del_none _ C _ w.heap.size w3 HO3.out.rowsV hlen2 HX3.out HIn.out)
      unfold cloR at HDel
      go_wp2_with fail
      refine HDel.out.mono ?_
      rintro e w4 ⟨rfl, hb4⟩
      have HB4 := Lib.hid (HB3.out.trans (hb4.mono HB3.out.size))
      have HO4 := Lib.hid (HO3.out.below hb4)
      have hz4 : w1.heap.size ≤ w4.heap.size := Nat.le_trans hz3 hb4.size
      obtain ⟨g4, cc, e4, -, -⟩ : ∃ g4 cc, ra = some ⟨g4, 0, none⟩ ∧ cc = 0 ∧ True := by
        obtain ⟨a', c', e1, -, -, e4⟩ := OwnR.open_ (enc := encRw) (k := 3) (fun _ => rfl) (0, 0, 0) HO4.out
        obtain ⟨g4, e5, _⟩ := e4 (by rw [hlen2]; omega)
        simp only [Value.slice.injEq] at e1
        exact ⟨g4, 0, by rw [e1.1, e5], rfl, trivial⟩
      subst e4
      have HOo4 := Lib.hid (HOo.out.below HB4.out)
      have hlR := rowsL_len R st v
      clear hb4 HDel HB3 HO3
      go_wp2_with (at_builtin; refine app_rows _ rfl (.tmp 37) (.tmp 40) rfl w1.heap.size (.slice oa R oc) (rowsL R st v) (rowsX F C st v) g4 rc rfl (by rw [hlen2]; rfl) _ (by rw [hlen2]; exact HO4.out) (by rw [hlen2]; omega) HOo4.out hz4 (by rw [hlR, hlen2]; omega) ?_; intro g5 c5 w5 ho5 hb5; rw [hlR, hlen2] at ho5; have HO5 := Lib.hid ho5; have HB5 := Lib.hid hb5; clear ho5 hb5)
      exact ⟨⟨k + 1, by go_num, by omega, by rw [HNx.out]; exact HO5.out, (HBl.out.trans (HB4.out.mono hs1)).trans HB5.out⟩, by simp [intOf]; omega⟩
    · have hke : k = nBlk n := by omega
      subst hke
      have hrw := rwN_all n
      rw [hrw] at HOo ⊢
      go_wp2_with fail
      go_ret2
      exact ⟨.slice oa n oc, by simp, HOo.out.base hw1, HB.out.trans (HBl.out.mono hw1)⟩

set_option maxRecDepth 100000 in
set_option maxHeartbeats 1000000 in
theorem runD_any (n st : Nat) (v : Int) (w : World) (hn : n ≤ 90) (hst1 : 1 ≤ st) (hst : st ≤ 300) (hv0 : -9223372036854775808 ≤ v) (hv1 : v ≤ 9223372036854775807) :
    Calls Try.prog 21 #[.string (bs (runL n st v))] w fun e w' => ∃ u, e = .returned (.tuple #[u, .int .i64 0]) ∧ OwnR 27 3 encRw w' w.heap.size u (rowsL n st v) ∧ Below w.heap.size w w' := by
  have HBt := Lib.hid (fun w' => between_any n st v w' hn hst1 hst hv0 hv1)
  have HEn := Lib.hid (fun u w' h => runE_any u n st v w' h hn hst1 hst hv0 hv1)
  generalize runL n st v = S at *
  go_enter Try.func21, Try.ntmps21
  go_wp2_with fail
  refine (HBt.out _).mono ?_
  rintro e w1 ⟨u, rfl, ho, hb⟩
  obtain ⟨ua, uc, rfl, -⟩ := ho.src
  have HO := Lib.hid ho
  have HB := Lib.hid hb
  clear ho hb
  go_wp2_with fail
  refine (HEn.out _ _ HO.out.rowsV).mono ?_
  rintro e w2 ⟨rfl, hb⟩
  have HB2 := Lib.hid (HB.out.trans (hb.mono HB.out.size))
  have HO2 := Lib.hid (HO.out.below hb)
  clear hb
  go_wp2_with fail
  go_ret2
  exact ⟨_, rfl, HO2.out, HB2.out⟩

end Go.Proofs.Ytnjcelilljniaaa

/-
  convert.Write, convert.Read of rows of even times; the document's Equal.
-/
namespace Go.Proofs.Ytnjcelilljniaaa
open Go.RowKit

set_option maxRecDepth 100000 in
theorem write0_any (u : Value) (n st : Nat) (v : Int) (w : World) (hu : RowsV w u (rowsL n st v)) (hn : n ≤ 90) (hst1 : 1 ≤ st) (hst : st ≤ 300) (hv0 : -9223372036854775808 ≤ v) (hv1 : v ≤ 9223372036854775807) :
    Calls Try.prog 5 #[.int .i64 0, u] w fun e w' => e = .returned (.tuple #[.string (bs (majL n st v)), .int .i64 0]) ∧ Below w.heap.size w w' := by
  have HU := Lib.hid hu
  have HR := Lib.hid (fun w' h => right_any u n st v w' h hn hst1 hst)
  have HS := Lib.hid (fun w' h => split_any u n st v w' h hn hst1 hst)
  have HE := Lib.hid (fun u w' h => majEnc_any u n st v w' h hn hst1 hst hv0 hv1)
  obtain ⟨a, c, rfl, -⟩ := hu.shape
  clear hu
  generalize majL n st v = S at *
  go_enter Try.func5, Try.ntmps5
  go_wp2_with fail
  refine (HR.out _ HU.out).mono ?_
  rintro e w1 ⟨rfl, hb⟩
  have HB1 := Lib.hid hb
  have HU1 := Lib.hid (HU.out.below hb)
  clear hb
  go_wp2_with fail
  refine (HS.out _ HU1.out).mono ?_
  rintro e w2 ⟨r, rfl, ho, hb⟩
  have HB2 := Lib.hid (HB1.out.trans (hb.mono HB1.out.size))
  have HO := Lib.hid ho
  clear hb ho
  go_wp2_with fail
  refine (HE.out _ _ HO.out).mono ?_
  rintro e w3 ⟨rfl, hb⟩
  have HB3 := Lib.hid (HB2.out.trans (hb.mono HB2.out.size))
  clear hb
  go_wp2_with fail
  go_ret2
  exact ⟨rfl, HB3.out⟩

set_option maxRecDepth 100000 in
theorem write1_run (u : Value) (n st : Nat) (v : Int) (w : World) (hu : RowsV w u (rowsL n st v)) (hn : n ≤ 90) (hst1 : 1 ≤ st) (hst : st ≤ 300) (hv0 : -9223372036854775808 ≤ v) (hv1 : v ≤ 9223372036854775807) :
    Calls Try.prog 5 #[.int .i64 1, u] w fun e w' => e = .returned (.tuple #[.string (bs (runL n st v)), .int .i64 0]) ∧ Below w.heap.size w w' := by
  have HE := Lib.hid (runE_any u n st v w hu hn hst1 hst hv0 hv1)
  obtain ⟨a, c, rfl, -⟩ := hu.shape
  clear hu
  generalize runL n st v = S at *
  go_enter Try.func5, Try.ntmps5
  go_wp2_with fail
  refine HE.out.mono ?_
  rintro e w3 ⟨rfl, hb⟩
  have HB3 := Lib.hid hb
  clear hb
  go_wp2_with fail
  go_ret2
  exact ⟨rfl, HB3.out⟩

set_option maxRecDepth 100000 in
theorem read0_any (n st : Nat) (v : Int) (w : World) (hn : n ≤ 90) (hst1 : 1 ≤ st) (hst : st ≤ 300) (hv0 : -9223372036854775808 ≤ v) (hv1 : v ≤ 9223372036854775807) :
    Calls Try.prog 6 #[.int .i64 0, .string (bs (majL n st v))] w fun e w' => ∃ u, e = .returned (.tuple #[u, .int .i64 0]) ∧ RowsV w' u (rowsL n st v) ∧ Below w.heap.size w w' := by
  have HD := Lib.hid (fun w' => majDec_any n st v w' hn hst1 hst hv0 hv1)
  have HR := Lib.hid (fun u w' h => rows_any u n st v w' h hn hst)
  generalize majL n st v = S at *
  go_enter Try.func6, Try.ntmps6
  go_wp2_with fail
  refine (HD.out _).mono ?_
  rintro e w1 ⟨u, rfl, ho, hb⟩
  have HO := Lib.hid ho
  have HB1 := Lib.hid hb
  obtain ⟨ua, un, uc, rfl⟩ : ∃ ua un uc, u = .slice ua un uc := by
    unfold OneSer at ho
    by_cases h0 : n = 0
    · rw [if_pos h0] at ho; obtain ⟨a, c, rfl⟩ := ho; exact ⟨_, _, _, rfl⟩
    · rw [if_neg h0] at ho; obtain ⟨g, off, c, vs, rfl, -⟩ := ho; exact ⟨_, _, _, rfl⟩
  clear ho hb
  go_wp2_with fail
  refine (HR.out _ _ HO.out).mono ?_
  rintro e w2 ⟨r, rfl, ho, hb⟩
  have HO2 := Lib.hid ho
  have HB2 := Lib.hid (HB1.out.trans (hb.mono HB1.out.size))
  obtain ⟨ra, rc, rfl, -⟩ := ho.src
  clear ho hb
  go_wp2_with fail
  go_ret2
  exact ⟨_, rfl, HO2.out.rowsV, HB2.out⟩

set_option maxRecDepth 100000 in
theorem read1_any (n st : Nat) (v : Int) (w : World) (hn : n ≤ 90) (hst1 : 1 ≤ st) (hst : st ≤ 300) (hv0 : -9223372036854775808 ≤ v) (hv1 : v ≤ 9223372036854775807) :
    Calls Try.prog 6 #[.int .i64 1, .string (bs (runL n st v))] w fun e w' => ∃ u, e = .returned (.tuple #[u, .int .i64 0]) ∧ RowsV w' u (rowsL n st v) ∧ Below w.heap.size w w' := by
  have HD := Lib.hid (fun w' => runD_any n st v w' hn hst1 hst hv0 hv1)
  generalize runL n st v = S at *
  go_enter Try.func6, Try.ntmps6
  go_wp2_with fail
  refine (HD.out _).mono ?_
  rintro e w1 ⟨u, rfl, ho, hb⟩
  have HO := Lib.hid ho
  have HB1 := Lib.hid hb
  obtain ⟨ua, uc, rfl, -⟩ := ho.src
  clear ho hb
  go_wp2_with fail
  go_ret2
  exact ⟨_, rfl, HO.out.rowsV, HB1.out⟩

set_option maxRecDepth 100000 in
set_option maxHeartbeats 1000000 in
theorem equal_any (u v : Value) (n : Nat) (l : List Rw) (w : World) (hu : RowsV w u l) (hv : RowsV w v l) (hn : l.length = n) :
    Calls Try.prog 7 #[u, v] w fun e w' => e = .returned (.bool true) ∧ Below w.heap.size w w' := by
  have HU := Lib.hid hu
  have HV := Lib.hid hv
  have HN := Lib.hid hn
  obtain ⟨a, c, rfl, h1, h2, -⟩ := hu
  obtain ⟨b, d, rfl, h3, h4, -⟩ := hv
  rw [hn] at HU HV h1 h3 ⊢
  clear hn
  go_enter Try.func7, Try.ntmps7
  go_wp2_with fail
  go_loopw [5] (fun i wr => ∃ k : Nat, i = .int .i64 k ∧ k ≤ n ∧ Below w.heap.size w wr) (fun i _ => n - (intOf i).toNat)
  case atStart => exact ⟨0, rfl, Nat.zero_le _, Below.refl _ _⟩
  case round =>
    obtain ⟨k, rfl, hk, hb⟩ := hrel
    have HB := Lib.hid hb
    by_cases hlt : k < n
    · obtain ⟨g, off, rfl, hg, c0, c1, c2⟩ := (HU.out.below hb).at_ (i := k) (by rw [HN.out]; exact hlt)
      obtain ⟨g', off', rfl, hg', d0, d1, d2⟩ := (HV.out.below hb).at_ (i := k) (by rw [HN.out]; exact hlt)
      generalize l.getD k (0, 0, 0) = x at *
      have hi0 : (0 : Int) ≤ (k : Int) := by omega
      have hi1 : (k : Int) < (n : Int) := by omega
      clear hb
      go_wp2_with fail
      go_quiet (fail)
      go_wp2_with fail
      go_roundw
      case rel => exact ⟨k + 1, by go_num, by omega, belowN HB.out _⟩
      case measure => simp [intOf]; omega
    · have hke : k = n := by omega
      subst hke
      clear hb
      go_wp2_with fail
      go_ret
      exact ⟨rfl, HB.out⟩

end Go.Proofs.Ytnjcelilljniaaa
