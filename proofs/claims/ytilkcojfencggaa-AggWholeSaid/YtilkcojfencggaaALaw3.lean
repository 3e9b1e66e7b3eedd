/-
  AggWhole: one window that is as wide as the range is the total of what is in it; of windows of half that width two at most, joined, too.
-/
import Derived.Test.YtilkcojfencggaaALaw2
set_option linter.unusedSimpArgs false
set_option linter.unusedVariables false
namespace Go.Proofs.Ytilkcojfencggaa
open Go.RowKit

theorem key0 {f n : Int} {L : List Smp} (h : ∀ x ∈ L, f ≤ x.1 ∧ x.1 < f + n) : ∀ x ∈ L, keyOf f n x = 0 := fun x hx => by
  have := h x hx
  exact Int.ediv_eq_zero_of_lt (by omega) (by omega)
def oneL (f : Int) : List Smp → List Win
  | [] => []
  | x :: r => [{ totL (x :: r) with f := f }]
theorem one_win' {f n : Int} {L : List Smp} (hk : ∀ x ∈ L, keyOf f n x = 0) : winsL f n L = oneL f L := by
  rw [one_win hk]; cases L <;> rfl
theorem key01 {f h : Int} (hh : 1 ≤ h) {L : List Smp} (hL : ∀ x ∈ L, f ≤ x.1 ∧ x.1 < f + 2 * h) : ∀ x ∈ L, keyOf f h x = 0 ∨ keyOf f h x = 1 := fun x hx => by
  have := hL x hx
  have h0 : 0 ≤ keyOf f h x := Int.ediv_nonneg (by omega) (by omega)
  have h1 : keyOf f h x < 2 := Int.ediv_lt_of_lt_mul (by omega) (by omega)
  omega

set_option maxRecDepth 100000 in
set_option maxHeartbeats 8000000 in
attribute [local go_sem ↓] Go.wp_at_zero Go.wp_at_succ in
theorem law3_walk (v : Value) (raw : List Smp) (fr wd : Int) (w : World) (hv : Samples w v raw) (hw : WfS raw) (hfr : 0 ≤ fr ∧ fr ≤ 65535) (hwd : 0 ≤ wd ∧ wd ≤ 65535) :
    Calls Try.prog 5 #[v, .int .u16 fr, .int .u16 wd] w fun e w' => e = .returned (.bool true) ∧ Below w.heap.size w w' := by
  have HV := Lib.hid hv
  have HW := Lib.hid hw
  obtain ⟨a, cap, rfl, h1, h2, -⟩ := hv
  clear hw
  by_cases hl : raw.length ≤ 100
  · have HO := Lib.hid (OwnR.fresh (α := Smp) (t := 37) (k := 2) (enc := encS) w (base := w.heap.size) (Nat.le_refl _))
    go_enter Try.func5, Try.ntmps5
    go_wp2_with fail
    go_loopw [8, 7, 9] (fun i p q wr => ∃ (k : Nat) (l : List Smp), k ≤ raw.length ∧ i = .int .i64 k ∧ l.length ≤ k ∧ Made 65535 l ∧ OwnR 37 2 encS wr w.heap.size p l ∧ Below w.heap.size w wr)
      (fun i p q wr => raw.length - (intOf i).toNat)
    case atStart => exact ⟨0, [], Nat.zero_le _, rfl, Nat.le_refl _, Made.nil _, HO.out, (Below.refl _ _).alloc (Nat.le_refl _) _⟩
    case round =>
      obtain ⟨k, l, hk, rfl, hlk, hm, ho, hb⟩ := hrel
      have HM := Lib.hid hm
      have HO1 := Lib.hid ho
      have HB1 := Lib.hid hb
      clear hm ho hb HO
      by_cases hlt : k < raw.length
      · obtain ⟨b, off, rfl, hb, hc1, hc2⟩ := (HV.out.below HB1.out).at_ hlt
        have hwx := HW.out (raw.getD k (0, 0)) (by simp only [List.getD, List.getElem?_eq_getElem hlt, Option.getD_some]; exact List.getElem_mem hlt)
        generalize raw.getD k (0, 0) = x at *
        obtain ⟨x1, x2⟩ := x
        have hmask := and65535 x1
        have hm0 : 0 ≤ x1 % 65536 ∧ x1 % 65536 ≤ 65535 := by omega
        have hwx2 := hwx.2
        generalize x1 % 65536 = m at *
        clear hwx
        have HSZ := Lib.hid HB1.out.size
        obtain ⟨a9, cap9, rfl, m1, m2, m3⟩ := OwnR.open_ (enc := encS) (k := 2) (fun _ => rfl) (0, 0) HO1.out
        by_cases hne : l = []
        · have hle : ((l.length : Int) == 0) = true := by rw [hne]; rfl
          have HM2 := Lib.hid (HM.out.snoc (x := (m, x2)) (.inl hne) ⟨hm0, hwx2⟩)
          clear hne m3
          go_wp2_with (at_builtin; refine app_smp _ rfl (.tmp 50) (.tmp 58) rfl w.heap.size _ l (m, x2) _ rfl rfl (heap_alloc_new ..) (HO1.out.below ((Below.refl _ _).alloc (Nat.le_refl _) _)) (app_sz HSZ.out) (by omega) ?_; intro g' cap' w4 hown4 hb4)
          exact ⟨⟨k + 1, l ++ [(m, x2)], by omega, by go_num, by simp; omega, HM2.out, hown4, (HB1.out.alloc HB1.out.size _).trans hb4⟩, by simp [intOf]; omega⟩
        · have hol0 : 0 < l.length := List.length_pos_iff.2 hne
          obtain ⟨g9, rfl, -, hg9, hcc⟩ := m3 hol0
          have hc9 := hcc (l.length - 1) (by omega) 0 (by omega)
          obtain ⟨n, hn⟩ : ∃ n, l.length = n + 1 := ⟨l.length - 1, by omega⟩
          have hlast : l.length - 1 = n := by omega
          rw [hlast] at hc9
          have hc9' : wr.cell? ⟨g9, n * 2, none⟩ = some (.int .i64 (l.getD n (0, 0)).1) := hc9
          have HMl := Lib.hid (fun (h : (l.getD n (0, 0)).1 < m) => HM.out.snoc (x := (m, x2)) (.inr (by rw [hlast]; exact h)) ⟨hm0, hwx2⟩)
          generalize (l.getD n (0, 0)).1 = lt at hc9' HMl
          have HO2 : Hid (OwnR 37 2 encS wr w.heap.size (.slice (some ⟨g9, 0, none⟩) (n + 1) cap9) l) := Lib.hid (by have := HO1.out; rw [hn] at this; exact this)
          have hle : ((l.length : Int) == 0) = false := by simp; omega
          have hm2 : (n : Int) < (n : Int) + 1 := by omega
          have hm3 : n < n + 1 := by omega
          have hm4 : (n : Int) < ((n + 1 : Nat) : Int) := by omega
          have hm5 : (0 : Int) ≤ (n : Int) := by omega
          have hw6 : IntKind.i64.wrap ((n : Int) + 1 - 1) = (n : Int) := by rw [IntWalk.i64_in _ (by omega)]; omega
          have hw7 : IntKind.i64.wrap (n : Int) = (n : Int) := IntWalk.i64_in _ (by omega)
          clear hcc hc9 m3 hne hol0 hlast
          by_cases hlm : lt < m
          · have HM2 := Lib.hid (HMl.out hlm)
            go_wp2_with (at_builtin; refine app_smp _ rfl (.tmp 50) (.tmp 58) rfl w.heap.size _ l (m, x2) _ rfl rfl (heap_alloc_new ..) (HO2.out.below ((Below.refl _ _).alloc (Nat.le_refl _) _)) (app_sz HSZ.out) (by omega) ?_; intro g' cap' w4 hown4 hb4; rw [hn] at hown4)
            exact ⟨⟨k + 1, l ++ [(m, x2)], by omega, by go_num, by simp; omega, HM2.out, hown4, (HB1.out.alloc HB1.out.size _).trans hb4⟩, by simp [intOf]; omega⟩
          · go_wp2_with fail
            exact ⟨⟨k + 1, l, by omega, by go_num, by omega, HM.out, HO2.out, HB1.out⟩, by simp [intOf]; omega⟩
      · have hLl : l.length ≤ 100 := by omega
        have hc1 : IntKind.i64.wrap fr = fr := IntWalk.i64_in _ (by omega)
        have hc2 : IntKind.i64.wrap wd = wd := IntWalk.i64_in _ (by omega)
        obtain ⟨h, hh⟩ : ∃ h, h = 1 + wd := ⟨_, rfl⟩
        have hh1 : 1 ≤ h ∧ h ≤ 65536 := by omega
        have hc3 : IntKind.i64.wrap (1 + wd) = h := by rw [IntWalk.i64_in _ (by omega), hh]
        have hc4 : IntKind.i64.wrap (2 * h) = 2 * h := IntWalk.i64_in _ (by omega)
        have hc5 : IntKind.i64.wrap (fr + 2 * h) = fr + 2 * h := IntWalk.i64_in _ (by omega)
        have hc6 : IntKind.i64.wrap ((2 * h).tdiv 2) = h := by
          rw [Int.tdiv_eq_ediv_of_nonneg (by omega), IntWalk.i64_in _ (by omega)]; omega
        have hc7 : (2 * h).tdiv 2 = h := by rw [Int.tdiv_eq_ediv_of_nonneg (by omega)]; omega
        have hc8 : (2 * h) / 2 = h := by omega
        have HSm := Lib.hid ((((St.start wr).add (fun w' => Samples w' u7 l) (fun w' hb => HO1.out.samples.below hb)).alloc (.cells #[.int .i64 fr, .int .i64 (fr + 2 * h)] 24)).add (fun w' => RBx w' wr.heap.size fr (fr + 2 * h)) (fun w' hb => (show RBx (wr.alloc (.cells #[.int .i64 fr, .int .i64 (fr + 2 * h)] 24)) wr.heap.size fr (fr + 2 * h) from heap_alloc_new ..).below hb))
        obtain ⟨a9, cap9, rfl, m1, m2, -⟩ := OwnR.open_ (enc := encS) (k := 2) (fun _ => rfl) (0, 0) HO1.out
        have hr := up_riseB l HM.out.1
        have harg : ∀ st, 1 ≤ st → argB l fr (fr + 2 * h) st = false := fun st hst => by
          simp only [argB, hr, Bool.or_eq_false_iff, decide_eq_false_iff_not]
          exact ⟨by omega, by omega, by omega, by omega, rfl⟩
        have hL : ∀ x ∈ l.filter (inB fr (fr + 2 * h)), fr ≤ x.1 ∧ x.1 < fr + 2 * h := fun x hx => by
          have := (List.mem_filter.1 hx).2
          simpa [inB] using this
        have hupL : Up (l.filter (inB fr (fr + 2 * h))) := up_filter _ HM.out.1
        have hwfL : WfS (l.filter (inB fr (fr + 2 * h))) := fun x hx => HM.out.wf (by omega) x (List.mem_filter.1 hx).1
        have hlenL : (l.filter (inB fr (fr + 2 * h))).length ≤ 100 := Nat.le_trans (List.length_filter_le _ _) hLl
        have HW1 := Lib.hid (fun w hs => win_ok (.slice a9 l.length cap9) l fr (fr + 2 * h) (2 * h) w hs (by omega) (HM.out.wf (by omega)) (by omega) (harg _ (by omega)))
        have HW2 := Lib.hid (fun w hs => win_ok (.slice a9 l.length cap9) l fr (fr + 2 * h) h w hs (by omega) (HM.out.wf (by omega)) (by omega) (harg _ (by omega)))
        have HIn := Lib.hid (fun w hs => refIn_any (.slice a9 l.length cap9) l fr (fr + 2 * h) w hs (by omega))
        generalize l.filter (inB fr (fr + 2 * h)) = L at *
        rw [one_win' (key0 hL)] at HW1
        have h2w := two_wins hh1.1 hupL (key01 hh1.1 hL)
        have HTot := Lib.hid (wins_total fr h (L := L) (by omega))
        have HTl := Lib.hid (fun w v hs => total_any v L w hs hwfL (by omega))
        have hwnil : L = [] → winsL fr h L = [] := fun e => by rw [e, winsL_nil]
        generalize winsL fr h L = ws at *
        clear hL hupL harg hr HV HW HO1 hh
        obtain ⟨g0, g1⟩ := (HSm.out.get 0 rfl).cells
        cases L with
        | nil =>
          obtain rfl := hwnil rfl
          clear hwnil
          have htz : totL [] = ⟨0, 0, 0, 0, 0⟩ := rfl
          simp only [oneL] at HW1
          rw [htz] at HTl
          simp only [winV] at HTl
          have hj0 : joinW ⟨0, 0, 0, 0, 0⟩ ⟨0, 1, 0, 0, 0⟩ = ⟨0, 1, 0, 0, 0⟩ := rfl
          have HJ := Lib.hid (fun w => join_any ⟨0, 0, 0, 0, 0⟩ ⟨0, 1, 0, 0, 0⟩ w)
          rw [hj0] at HJ
          simp only [winV] at HJ
          have heq := eql_aw 0 0 0 0 0
          have hfc := fieldC
          clear hj0 htz
          go_wp2_with fail
          refine (HW1.out _ (HSm.out.get 1 rfl)).mono ?_
          rintro e w3 ⟨u, rfl, hws, hd⟩
          have HS3 := Lib.hid ((HSm.out.step hd).add (fun w' => Wins w' u []) (fun w' hb => hws.below hb))
          obtain ⟨ua, ucap, rfl, -, -, -⟩ := hws
          clear hd g0 g1
          obtain ⟨g0, g1⟩ := (HS3.out.get 1 rfl).cells
          go_wp2_with fail
          refine (HW2.out _ (HS3.out.get 2 rfl)).mono ?_
          rintro e w4 ⟨u, rfl, hws, hd⟩
          have HS4 := Lib.hid ((HS3.out.step hd).add (fun w' => Wins w' u []) (fun w' hb => hws.below hb))
          obtain ⟨ub, ucb, rfl, -, -, -⟩ := hws
          clear hd g0 g1
          obtain ⟨g0, g1⟩ := (HS4.out.get 2 rfl).cells
          go_wp2_with fail
          refine (HIn.out _ (HS4.out.get 3 rfl)).mono ?_
          rintro e w5 ⟨u, rfl, hin, hd⟩
          have HS5 := Lib.hid ((HS4.out.step hd).add (fun w' => Samples w' u []) (fun w' hb => hin.below hb))
          obtain ⟨ui, uic, rfl, -, -, -⟩ := hin
          clear hd g0 g1
          have HX := Lib.hid (show WBox (w5.alloc (.cells #[.int .i64 0, .int .i64 0, .int .i64 0, .int .i64 0, .int .i64 0] 34)) w5.heap.size w0 from heap_alloc_new ..)
          go_wp2_with fail
          go_loopw [18] (fun i wr2 => i = .int .i64 0 ∧ WBox wr2 w5.heap.size w0 ∧ Below w5.heap.size w5 wr2) (fun i wr2 => 0)
          case atStart => exact ⟨rfl, HX.out, (Below.refl _ _).alloc (Nat.le_refl _) _⟩
          case round =>
            obtain ⟨wo, rfl⟩ : ∃ wo, wo = wr := ⟨_, rfl⟩
            obtain ⟨rfl, hbx, hbw⟩ := hrel
            have HX1 := Lib.hid hbx
            have HS6 := Lib.hid (HS5.out.step hbw)
            clear hbx hbw HX
            go_wp2_with fail
            refine (HTl.out _ _ (HS6.out.get 0 rfl)).mono ?_
            rintro e w6 ⟨rfl, hd⟩
            have HS7 := Lib.hid ((HS6.out.step hd).alloc (.cells #[.int .i64 0, .int .i64 0, .int .i64 0, .int .i64 0, .int .i64 0] 34))
            have HX2 := Lib.hid (HX1.out.below hd)
            clear hd
            obtain ⟨g0, g1, g2, g3, g4⟩ := HX2.out.cells
            have hxl : w5.heap.size < w6.heap.size := (Array.getElem?_eq_some_iff.1 HX2.out).1
            simp only [w0] at g0 g1 g2 g3 g4
            go_wp2_with fail
            refine (HJ.out _).mono ?_
            rintro e w7 ⟨rfl, hd⟩
            have HS8 := Lib.hid (HS7.out.step hd)
            clear hd
            go_wp2_with fail
            go_ret
            exact ⟨rfl, HB1.out.trans (HS8.out.bel.mono HB1.out.size)⟩
        | cons x rest =>
          clear hwnil
          simp only [oneL] at HW1
          generalize hLen : (x :: rest).length = nL at *
          have hn0 : 0 < nL := by rw [← hLen]; simp
          generalize hT : totL (x :: rest) = T at *
          clear hT
          obtain ⟨t1, t2, t3, t4, t5⟩ := T
          simp only [winV] at HTl
          go_wp2_with fail
          refine (HW1.out _ (HSm.out.get 1 rfl)).mono ?_
          rintro e w3 ⟨u, rfl, hws, hd⟩
          have HS3 := Lib.hid ((HSm.out.step hd).add (fun w' => Wins w' u [⟨fr, t2, t3, t4, t5⟩]) (fun w' hb => hws.below hb))
          obtain ⟨ua, ucap, rfl, q1, q2, -⟩ := hws
          clear hd g0 g1
          obtain ⟨g0, g1⟩ := (HS3.out.get 1 rfl).cells
          go_wp2_with fail
          refine (HW2.out _ (HS3.out.get 2 rfl)).mono ?_
          rintro e w4 ⟨u, rfl, hws, hd⟩
          have HS4 := Lib.hid ((HS3.out.step hd).add (fun w' => Wins w' u ws) (fun w' hb => hws.below hb))
          obtain ⟨ub, ucb, rfl, r1, r2, -⟩ := hws
          clear hd g0 g1
          obtain ⟨g0, g1⟩ := (HS4.out.get 2 rfl).cells
          go_wp2_with fail
          refine (HIn.out _ (HS4.out.get 3 rfl)).mono ?_
          rintro e w5 ⟨u, rfl, hin, hd⟩
          have HS5 := Lib.hid ((HS4.out.step hd).add (fun w' => Samples w' u (x :: rest)) (fun w' hb => hin.below hb))
          obtain ⟨ui, uic, rfl, p1, p2, -⟩ := hin
          rw [hLen] at HS5 p1
          clear hd g0 g1
          have HX := Lib.hid (show WBox (w5.alloc (.cells #[.int .i64 0, .int .i64 0, .int .i64 0, .int .i64 0, .int .i64 0] 34)) w5.heap.size w0 from heap_alloc_new ..)
          go_wp2_with fail
          go_loopw [18] (fun i wr2 => ∃ k2 : Nat, k2 ≤ ws.length ∧ i = .int .i64 k2 ∧ WBox wr2 w5.heap.size ((ws.take k2).foldl joinW w0) ∧ Below w5.heap.size w5 wr2)
            (fun i wr2 => ws.length - (intOf i).toNat)
          case atStart => exact ⟨0, Nat.zero_le _, rfl, HX.out, (Below.refl _ _).alloc (Nat.le_refl _) _⟩
          case round =>
            obtain ⟨wo, rfl⟩ : ∃ wo, wo = wr := ⟨_, rfl⟩
            obtain ⟨k2, hk2, rfl, hbx, hbw⟩ := hrel
            have HX1 := Lib.hid hbx
            have HBw := Lib.hid hbw
            clear hbx hbw HX
            by_cases hlt2 : k2 < ws.length
            · obtain ⟨b, off, rfl, hb, c1, c2, c3, c4, c5⟩ := ((HS5.out.get 1 rfl).below HBw.out).at_ hlt2
              have HFold := Lib.hid (show (ws.take (k2 + 1)).foldl joinW w0 = joinW ((ws.take k2).foldl joinW w0) (ws.getD k2 w0) by rw [wins_take hlt2, List.foldl_append]; rfl)
              generalize ws.getD k2 w0 = y at *
              obtain ⟨y1, y2, y3, y4, y5⟩ := y
              simp only at c1 c2 c3 c4 c5
              generalize (ws.take k2).foldl joinW w0 = z at *
              obtain ⟨zz, hz⟩ : ∃ zz, joinW z ⟨y1, y2, y3, y4, y5⟩ = zz := ⟨_, rfl⟩
              have HJ := Lib.hid (fun w => join_any z ⟨y1, y2, y3, y4, y5⟩ w)
              rw [hz] at HJ HFold
              clear hz
              obtain ⟨z1, z2, z3, z4, z5⟩ := z
              obtain ⟨j1, j2, j3, j4, j5⟩ := zz
              simp only [winV] at HJ
              obtain ⟨g0, g1, g2, g3, g4⟩ := HX1.out.cells
              have HB3c := Lib.hid (fun w' (hb : Below wo.heap.size wo w') => (HX1.out.below hb).cells)
              have HB4c := Lib.hid (fun w' (hb : Below wo.heap.size wo w') => (HX1.out.below hb).frozen)
              have hi0 : (0 : Int) ≤ (k2 : Int) := by omega
              have hi1 : (k2 : Int) < (ws.length : Int) := by omega
              have hxl : w5.heap.size < wo.heap.size := (Array.getElem?_eq_some_iff.1 HX1.out).1
              go_wp2_with fail
              go_region_with (first
                | (go_at_call 12; refine (HJ.out _).mono ?_; rintro e w2 ⟨rfl, hd2⟩; have hd2' := below_dr (n := 1) hd2; obtain ⟨g0, g1, g2, g3, g4⟩ := HB3c.out _ hd2'; obtain ⟨q0, q1, q2, q3, q4⟩ := HB4c.out _ hd2'))
              all_goals
                (have HP1 := Lib.hid ((HX1.out.below hd2').put ⟨j1, j2, j3, j4, j5⟩)
                 have HP2 := Lib.hid (below_put (HBw.out.trans (hd2'.mono HBw.out.size)) (Nat.le_refl _) (.int .i64 j1) (.int .i64 j2) (.int .i64 j3) (.int .i64 j4) (.int .i64 j5))
                 go_wp2_with fail)
              all_goals exact ⟨⟨k2 + 1, by omega, by go_num, by rw [HFold.out]; exact HP1.out, HP2.out⟩, by simp [intOf]; omega⟩
            · have hke : k2 = ws.length := by omega
              have hA : Alike ((ws.take k2).foldl joinW w0) ⟨t1, t2, t3, t4, t5⟩ := by rw [hke, List.take_of_length_le (Nat.le_refl _)]; exact HTot.out
              generalize (ws.take k2).foldl joinW w0 = A at *
              obtain ⟨a1, a2, a3, a4, a5⟩ := A
              obtain ⟨e2, e3, e4, e5⟩ := hA
              simp only at e2 e3 e4 e5
              subst e2 e3 e4 e5
              have HS6 := Lib.hid (HS5.out.step HBw.out)
              obtain ⟨b', off', rfl, hb', -, -, -, -, -⟩ := (HS5.out.get 2 rfl).at_ (i := 0) (by simp)
              go_wp2_with fail
              refine (HTl.out _ _ (HS6.out.get 0 rfl)).mono ?_
              rintro e w6 ⟨rfl, hd⟩
              have HS7 := Lib.hid (HS6.out.step hd)
              have HX2 := Lib.hid (HX1.out.below hd)
              clear hd
              obtain ⟨g0, g1, g2, g3, g4⟩ := HX2.out.cells
              obtain ⟨q0, q1, q2, q3, q4⟩ := HX2.out.frozen
              obtain ⟨r0, r1⟩ := (HS7.out.get 3 rfl).cells
              obtain ⟨b2, off2, hbb, hb2, c1, c2, c3, c4, c5⟩ := (HS7.out.get 2 rfl).at_ (i := 0) (by simp)
              obtain ⟨rfl, rfl⟩ : b' = b2 ∧ off' = off2 := by simpa using hbb
              clear hbb
              simp only [Nat.zero_mul, Nat.add_zero] at c1 c2 c3 c4 c5
              have hxl : w5.heap.size < w6.heap.size := (Array.getElem?_eq_some_iff.1 HX2.out).1
              have hrl : wr.heap.size < w6.heap.size := World.block_lt_of_cell? w6 _ r0
              have hrl2 : wr.heap.size ≠ w5.heap.size := by
                have : wr.heap.size < w5.heap.size := World.block_lt_of_cell? w5 _ (HS5.out.get 3 rfl).cells.1
                omega
              have hne : b' ≠ w5.heap.size := by omega
              have heq := eql_aw fr a2 a3 a4 a5
              have HBe := Lib.hid (HB1.out.trans (HS7.out.bel.mono HB1.out.size))
              have HBs := Lib.hid (Nat.le_trans HB1.out.size HS5.out.bel.size)
              go_wp2_with fail
              go_quiet (fail)
              go_wp2_with fail
              go_ret
              have h6 := HBe.out.setCell (p := ⟨w5.heap.size, 0, none⟩) HBs.out (.int .i64 fr)
              exact ⟨rfl, belowN (h6.alloc h6.size _) _⟩
  · go_enter Try.func5, Try.ntmps5
    go_wp2_with fail
    go_ret
    exact ⟨rfl, Below.refl _ _⟩

end Go.Proofs.Ytilkcojfencggaa
