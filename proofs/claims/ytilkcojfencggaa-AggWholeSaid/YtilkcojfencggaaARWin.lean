/-
  strandlineref14.Windows.
-/
import Derived.Test.YtilkcojfencggaaARef
import Derived.Test.YtilkcojfencggaaAWinP
set_option linter.unusedSimpArgs false
set_option linter.unusedVariables false
namespace Go.Proofs.Ytilkcojfencggaa
open Go.RowKit

theorem app_sz2 {n m : Nat} {w : World} {o o2 : Obj} (h : n ≤ w.heap.size) : n ≤ (((w.alloc o).drewN m).alloc o2).heap.size := by
  show n ≤ ((w.alloc o).alloc o2).heap.size
  simp; omega
theorem below_adn (w : World) (o : Obj) (n : Nat) (o2 : Obj) : Below w.heap.size w (((w.alloc o).drewN n).alloc o2) :=
  (belowN ((Below.refl _ w).alloc (Nat.le_refl _) o) n).alloc (by show _ ≤ (w.alloc o).heap.size; simp) _
theorem heap_adn (w : World) (o : Obj) (n : Nat) (o2 : Obj) : (((w.alloc o).drewN n).alloc o2).heap[w.heap.size + 1]? = some o2 := by
  have := heap_alloc_new ((w.alloc o).drewN n) o2
  rwa [show ((w.alloc o).drewN n).heap.size = w.heap.size + 1 from World.size_alloc ..] at this
theorem below_an (w : World) (o : Obj) (n : Nat) : Below w.heap.size w ((w.alloc o).drewN n) := belowN ((Below.refl _ w).alloc (Nat.le_refl _) o) n
theorem argB_no {l : List Smp} {f t st : Int} (h : argB l f t st = false) : 0 ≤ f ∧ f < t ∧ t ≤ 1099511627776 ∧ 1 ≤ st ∧ riseB l = true := by
  simp only [argB, Bool.or_eq_false_iff, decide_eq_false_iff_not, Bool.not_eq_false'] at h
  obtain ⟨h1, h2, h3, h4, h5⟩ := h
  exact ⟨by omega, by omega, by omega, by omega, h5⟩

set_option maxRecDepth 100000 in
set_option maxHeartbeats 1000000 in
theorem refWin_bad (v : Value) (ls : List Smp) (f t st : Int) (w : World) (hv : Samples w v ls) (hb : argB ls f t st = true) :
    Calls Try.prog 7 #[v, .agg #[.int .i64 f, .int .i64 t], .int .i64 st] w fun e w' => e = .returned (.tuple #[.slice none 0 0, .int .i64 1]) ∧ Below w.heap.size w w' := by
  have HV := Lib.hid hv
  have HB := Lib.hid hb
  have HA := Lib.hid (show Below w.heap.size w (w.alloc (.cells #[.int .i64 f, .int .i64 t] 24)) from (Below.refl _ _).alloc (Nat.le_refl _) _)
  clear hv hb
  go_enter Try.func7, Try.ntmps7
  by_cases h1 : f < 0
  · go_wp2_with fail
    go_ret2
    exact ⟨rfl, HA.out⟩
  by_cases h2 : t ≤ f
  · go_wp2_with fail
    go_ret2
    exact ⟨rfl, HA.out⟩
  by_cases h3 : 1099511627776 < t
  · go_wp2_with fail
    go_ret2
    exact ⟨rfl, HA.out⟩
  by_cases h4 : st < 1
  · go_wp2_with fail
    go_ret2
    exact ⟨rfl, HA.out⟩
  have h5 : riseB ls = false := by
    have := HB.out
    simp only [argB, decide_eq_false h1, decide_eq_false h2, decide_eq_false h3, decide_eq_false h4, Bool.false_or, Bool.not_eq_true'] at this
    exact this
  go_wp2_with fail
  refine (refRises_any v ls _ (HV.out.below HA.out)).mono ?_
  rintro e w1 ⟨rfl, hd⟩
  have HA1 := Lib.hid (HA.out.trans (hd.mono HA.out.size))
  clear hd
  rw [h5]
  go_wp2_with fail
  go_ret2
  exact ⟨rfl, HA1.out⟩

set_option maxRecDepth 100000 in
set_option maxHeartbeats 2000000 in
attribute [local go_sem ↓] Go.wp_at_zero Go.wp_at_succ in
theorem refWin_ok (v : Value) (ls : List Smp) (f t st : Int) (w : World) (hv : Samples w v ls) (hl : ls.length ≤ 1000000) (hb : argB ls f t st = false) :
    Calls Try.prog 7 #[v, .agg #[.int .i64 f, .int .i64 t], .int .i64 st] w fun e w' => ∃ u, e = .returned (.tuple #[u, .int .i64 0]) ∧ Wins w' u (winsL f st (ls.filter (inB f t))) ∧ Below w.heap.size w w' := by
  have HV := Lib.hid hv
  have HA := Lib.hid (show Below w.heap.size w (w.alloc (.cells #[.int .i64 f, .int .i64 t] 24)) from (Below.refl _ _).alloc (Nat.le_refl _) _)
  have HX := Lib.hid (show RBx (w.alloc (.cells #[.int .i64 f, .int .i64 t] 24)) w.heap.size f t from heap_alloc_new ..)
  obtain ⟨h1, h2, h3, h4, h5⟩ := argB_no hb
  clear hv hb
  have HU := Lib.hid (up_filter (inB f t) (riseB_up _ h5))
  have HIn := Lib.hid (fun x (hx : x ∈ ls.filter (inB f t)) => show f ≤ x.1 ∧ x.1 < t by
    have := (List.mem_filter.1 hx).2
    simpa [inB] using this)
  have HLen := Lib.hid (show (ls.filter (inB f t)).length ≤ 1000000 from Nat.le_trans (List.length_filter_le _ _) hl)
  go_enter Try.func7, Try.ntmps7
  go_wp2_with fail
  refine (refRises_any v ls _ (HV.out.below HA.out)).mono ?_
  rintro e w1 ⟨rfl, hd⟩
  have HA1 := Lib.hid (HA.out.trans (hd.mono HA.out.size))
  have HX1 := Lib.hid (HX.out.below hd)
  clear hd HA HX
  rw [h5]
  obtain ⟨g0, g1⟩ := HX1.out.cells
  go_wp2_with fail
  refine (refIn_any v ls f t _ (HV.out.below HA1.out) hl).mono ?_
  rintro e w2 ⟨u, rfl, hsm, hd⟩
  generalize hLL : ls.filter (inB f t) = L at *
  have HLL := Lib.hid hLL
  have HS := Lib.hid hsm
  have HA2 := Lib.hid (HA1.out.trans (hd.mono HA1.out.size))
  have HX2 := Lib.hid (HX1.out.below hd)
  clear hd HX1 HA1 g0 g1 hLL hl
  obtain ⟨a, cap, rfl, k1, k2, -⟩ := hsm
  have HO := Lib.hid (OwnR.fresh (α := Win) (t := 33) (k := 5) (enc := encW) w2 (base := w2.heap.size) (Nat.le_refl _))
  have HB := Lib.hid (show Below w2.heap.size w2 (w2.alloc (.cells #[] 33)) from (Below.refl _ _).alloc (Nat.le_refl _) _)
  have hlen : L.length ≤ 1000000 := HLen.out
  go_wp2_with fail
  go_loopw [10, 9, 11, 12, 13, 14] (fun i p q5 q6 q7 q8 wr => ∃ k : Nat, k ≤ L.length ∧ i = .int .i64 k ∧ OwnR 33 5 encW wr w2.heap.size p (outR f st L k) ∧ Below w2.heap.size w2 wr)
    (fun i p q5 q6 q7 q8 wr => L.length - (intOf i).toNat)
  case atStart => exact ⟨0, Nat.zero_le _, rfl, HO.out, HB.out⟩
  case round =>
    obtain ⟨wo, rfl⟩ : ∃ wo, wo = wr := ⟨_, rfl⟩
    obtain ⟨k, hk, rfl, ho0, hb0⟩ := hrel
    have HO1 := Lib.hid ho0
    have HB1 := Lib.hid hb0
    clear ho0 hb0 HO HB
    by_cases hlt : k < L.length
    · obtain ⟨b, off, rfl, hb, hc1, hc2⟩ := (HS.out.below HB1.out).at_ hlt
      obtain ⟨g0, g1⟩ := (HX2.out.below HB1.out).cells
      have HM := Lib.hid (HIn.out (L.getD k (0, 0)) (by simp only [List.getD, List.getElem?_eq_getElem hlt, Option.getD_some]; exact List.getElem_mem hlt))
      have HStep := Lib.hid (outR_succ f st hlt)
      generalize hxx : L.getD k (0, 0) = x at *
      obtain ⟨x1, x2⟩ := x
      obtain ⟨hx1, hx2⟩ := HM.out
      simp only at hx1 hx2 hc1 hc2
      have hq0 : (0 : Int) ≤ (x1 - f) / st := Int.ediv_nonneg (by omega) (by omega)
      have hq1 : (x1 - f) / st ≤ x1 - f := Int.ediv_le_self _ (by omega)
      have hq2 : (x1 - f) / st * st ≤ x1 - f := Int.ediv_mul_le _ (by omega)
      have hq3 : 0 ≤ (x1 - f) / st * st := Int.mul_nonneg hq0 (by omega)
      have hj0 : (0 : Int) ≤ (k : Int) := by omega
      have hj1 : (k : Int) < (L.length : Int) := by omega
      have hw1 : IntKind.i64.wrap (x1 - f) = x1 - f := IntWalk.i64_in _ (by omega)
      have hw2 : IntKind.i64.wrap ((x1 - f).tdiv st) = (x1 - f) / st := IntWalk.i64_quo _ _ (by omega)
      have hst0 : (st == 0) = false := by simp; omega
      have hst1 : st ≠ 0 := by omega
      go_wp2_with fail
      go_quiet (fail)
      go_wp2_with fail
      clear hc1 hc2 g0 g1 hw1 hw2 hj0 hj1
      have HB2 := Lib.hid (show Below wo.heap.size wo ((wo.drewN nq).alloc (.cells #[] 37)) from (belowN (Below.refl _ wo) nq).alloc (Nat.le_refl _) _)
      have HW2 := Lib.hid (OwnR.fresh (α := Smp) (t := 37) (k := 2) (enc := encS) (wo.drewN nq) (base := wo.heap.size) (Nat.le_refl _))
      generalize hq : (x1 - f) / st = q at *
      go_loopw [13, 12] (fun i p w3 => ∃ j : Nat, j ≤ L.length ∧ i = .int .i64 j ∧ OwnR 37 2 encS w3 wo.heap.size p ((L.take j).filter fun y => keyOf f st y == q) ∧ Below wo.heap.size wo w3)
        (fun i p w3 => L.length - (intOf i).toNat)
      case atStart => exact ⟨0, Nat.zero_le _, rfl, HW2.out, HB2.out⟩
      case round =>
        obtain ⟨j, hj, rfl, ho0, hb0⟩ := hrel
        have HO3 := Lib.hid ho0
        have HB3 := Lib.hid hb0
        have HB13 := Lib.hid (HB1.out.trans (hb0.mono HB1.out.size))
        clear ho0 hb0 HW2 HB2
        by_cases hlt2 : j < L.length
        · obtain ⟨b', off', hbb', -, hd1, hd2⟩ := (HS.out.below HB13.out).at_ hlt2
          obtain ⟨rfl, rfl⟩ : b = b' ∧ off = off' := by simpa using hbb'
          clear hbb'
          obtain ⟨g0, g1⟩ := (HX2.out.below HB13.out).cells
          have HM2 := Lib.hid (HIn.out (L.getD j (0, 0)) (by simp only [List.getD, List.getElem?_eq_getElem hlt2, Option.getD_some]; exact List.getElem_mem hlt2))
          have HF := Lib.hid (filt_snoc (p := fun y => keyOf f st y == q) hlt2)
          have hfl : ((L.take j).filter fun y => keyOf f st y == q).length ≤ L.length := Nat.le_trans (List.length_filter_le _ _) (by simp; omega)
          generalize hyy : L.getD j (0, 0) = y at *
          obtain ⟨y1, y2⟩ := y
          obtain ⟨hy1, hy2⟩ := HM2.out
          simp only at hy1 hy2 hd1 hd2
          have hk1 : keyOf f st (y1, y2) = (y1 - f) / st := rfl
          simp only [hk1] at HF
          clear hk1
          have hj0 : (0 : Int) ≤ (j : Int) := by omega
          have hj1 : (j : Int) < (L.length : Int) := by omega
          have hw1 : IntKind.i64.wrap (y1 - f) = y1 - f := IntWalk.i64_in _ (by omega)
          have hw2 : IntKind.i64.wrap ((y1 - f).tdiv st) = (y1 - f) / st := IntWalk.i64_quo _ _ (by omega)
          have HSZ := Lib.hid HB3.out.size
          cases hbb : ((y1 - f) / st == q) with
          | false =>
            rw [hbb] at HF
            go_wp2_with fail
            go_quiet (fail)
            go_wp2_with fail
            exact ⟨⟨j + 1, by omega, by go_num, by rw [HF.out]; simpa using HO3.out.below (belowN (Below.refl _ _) _), belowN HB3.out _⟩, by simp [intOf]; omega⟩
          | true =>
            rw [hbb] at HF
            go_wp2_with fail
            go_quiet (fail)
            go_wp2_with (at_builtin; (refine app_smp _ rfl (.tmp 78) (.tmp 83) rfl wo.heap.size _ _ (y1, y2) _ rfl rfl (heap_alloc_new ..) (HO3.out.below ((belowN (Below.refl _ _) _).alloc (Nat.le_refl _) _)) (app_sz HSZ.out) (by omega) ?_); intro g' cap' w4 hown4 hb4)
            exact ⟨⟨j + 1, by omega, by go_num, by rw [HF.out, if_pos trivial]; exact hown4, (belowN HB3.out nq |>.alloc HSZ.out _).trans hb4⟩, by simp [intOf]; omega⟩
        · have hje : j = L.length := by omega
          have HE : L.take j = L := by rw [hje]; exact List.take_of_length_le (Nat.le_refl _)
          rw [HE] at HO3
          clear HE
          have HK := Lib.hid (show winK f st L (x1, x2) = { totL (L.filter fun y => keyOf f st y == q) with f := f + q * st } by unfold winK; rw [show keyOf f st (x1, x2) = q from hq])
          have HT := Lib.hid (fun w v hv => refTotal_any v (L.filter fun y => keyOf f st y == q) w hv)
          have HSm := Lib.hid HO3.out.samples
          generalize totL (L.filter fun y => keyOf f st y == q) = z at HK HT
          obtain ⟨z1, z2, z3, z4, z5⟩ := z
          simp only [winV] at HT
          go_wp2_with fail
          refine (HT.out _ _ HSm.out).mono ?_
          rintro e w5 ⟨rfl, hd5⟩
          have HB5 := Lib.hid (HB3.out.trans (hd5.mono HB3.out.size))
          have HO5 := Lib.hid (HO1.out.below HB5.out)
          have HB15 := Lib.hid (HB1.out.trans (HB5.out.mono HB1.out.size))
          clear hd5 HO3 HB3 HB13 HT HSm HO1
          obtain ⟨g0, g1⟩ := (HX2.out.below HB15.out).cells
          have hn5 : w.heap.size < w5.heap.size := World.block_lt_of_cell? w5 _ g0
          have hw3 : IntKind.i64.wrap (q * st) = q * st := IntWalk.i64_in _ (by omega)
          have hw4 : IntKind.i64.wrap (f + q * st) = f + q * st := IntWalk.i64_in _ (by omega)
          have HSZ5 := Lib.hid HB15.out.size
          have hol := outR_len f st L k hk
          generalize hos : outR f st L k = os at *
          obtain ⟨a9, cap9, rfl, m1, m2, m3⟩ := OwnR.open_ (enc := encW) (k := 5) (fun _ => rfl) w0 HO5.out
          by_cases hne : os = []
          · have hol0 : os.length = 0 := by rw [hne]; rfl
            have HSt := Lib.hid (show stepR f st L os (x1, x2) = os ++ [winK f st L (x1, x2)] by unfold stepR; rw [hne]; rfl)
            have hle : ((os.length : Int) == 0) = true := by rw [hol0]; rfl
            clear m3 hne hol0
            go_wp2_with fail
            go_quiet (fail)
            go_wp2_with (at_builtin; refine app_rwin _ rfl (.tmp 109) (.tmp 111) rfl w2.heap.size _ os ⟨f + q * st, z2, z3, z4, z5⟩ _ rfl rfl (heap_adn ..) (HO5.out.below (below_adn ..)) (app_sz2 HSZ5.out) (by omega) ?_; intro g' cap' w6 hown6 hb6)
            exact ⟨⟨k + 1, by omega, by go_num, by rw [HStep.out, HSt.out, HK.out]; exact hown6, (HB15.out.trans ((below_adn ..).mono HSZ5.out)).trans hb6⟩, by simp [intOf]; omega⟩
          · have hol0 : 0 < os.length := List.length_pos_iff.2 hne
            obtain ⟨g9, rfl, -, hg9, hcc⟩ := m3 hol0
            have hc9 := hcc (os.length - 1) (by omega) 0 (by omega)
            have HSt := Lib.hid (show stepR f st L os (x1, x2) = if (os.getD (os.length - 1) w0).f != (winK f st L (x1, x2)).f then os ++ [winK f st L (x1, x2)] else os by
              unfold stepR
              have : os.isEmpty = false := by cases os with | nil => exact absurd rfl hne | cons a b => rfl
              rw [this, Bool.false_or])
            have hle : ((os.length : Int) == 0) = false := by simp; omega
            generalize os.getD (os.length - 1) w0 = lw at hc9 HSt
            have hc9' : w5.cell? ⟨g9, (os.length - 1) * 5, none⟩ = some (.int .i64 lw.f) := hc9
            have hn9 : g9 < w5.heap.size := World.block_lt_of_cell? w5 _ hc9'
            obtain ⟨m, hm⟩ : ∃ m, os.length = m + 1 := ⟨os.length - 1, by omega⟩
            rw [hm, Nat.add_sub_cancel] at hc9'
            have HO6 : Hid (OwnR 33 5 encW w5 w2.heap.size (.slice (some ⟨g9, 0, none⟩) (m + 1) cap9) os) := Lib.hid (by have := HO5.out; rw [hm] at this; exact this)
            have hw5 : IntKind.i64.wrap (m : Int) = m := IntWalk.i64_in _ (by omega)
            clear hcc hc9 m3 hne hol0
            obtain ⟨lf, lc, ls5, lmn, lmx⟩ := lw
            simp only at hc9' HSt
            have hm1 : (m : Int) < (os.length : Int) := by omega
            have hm0 : (0 : Int) ≤ (m : Int) := by omega
            have hm2 : (m : Int) < (m : Int) + 1 := by omega
            have hm3 : m < m + 1 := by omega
            have hm4 : (m : Int) < ((m + 1 : Nat) : Int) := by omega
            have hw6 : IntKind.i64.wrap ((m : Int) + 1 - 1) = (m : Int) := by rw [IntWalk.i64_in _ (by omega)]; omega
            have hlw : (winK f st L (x1, x2)).f = f + q * st := by rw [HK.out]
            rw [hlw] at HSt
            clear hlw
            cases hcmp : (lf != f + q * st) with
            | true =>
              rw [hcmp, if_pos rfl] at HSt
              go_wp2_with fail
              go_quiet (fail)
              go_wp2_with (at_builtin; refine app_rwin _ rfl (.tmp 109) (.tmp 111) rfl w2.heap.size _ os ⟨f + q * st, z2, z3, z4, z5⟩ _ rfl rfl (heap_adn ..) (HO6.out.below (below_adn ..)) (app_sz2 HSZ5.out) (by omega) ?_; intro g' cap' w6 hown6 hb6; rw [hm] at hown6)
              exact ⟨⟨k + 1, by omega, by go_num, by rw [HStep.out, HSt.out, HK.out]; exact hown6, (HB15.out.trans ((below_adn ..).mono HSZ5.out)).trans hb6⟩, by simp [intOf]; omega⟩
            | false =>
              rw [hcmp, if_neg (by simp)] at HSt
              go_wp2_with fail
              go_quiet (fail)
              go_wp2_with fail
              exact ⟨⟨k + 1, by omega, by go_num, by rw [HStep.out, HSt.out]; exact HO6.out.below (below_an ..), HB15.out.trans ((below_an ..).mono HSZ5.out)⟩, by simp [intOf]; omega⟩
    · have hke : k = L.length := by omega
      rw [hke, outR_all f st h4 HU.out] at HO1
      go_wp2_with fail
      go_ret2
      exact ⟨_, rfl, by rw [HLL.out]; exact HO1.out.wins, HA2.out.trans (HB1.out.mono HA2.out.size)⟩

end Go.Proofs.Ytilkcojfencggaa
