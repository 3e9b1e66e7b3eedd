/-
  AggParts: the windows of samples, joined one behind the other, are their total; each sample is in one.
-/
import Derived.Test.YtilkcojfencggaaALaw1
import Derived.Test.YtilkcojfencggaaALawP
set_option linter.unusedSimpArgs false
set_option linter.unusedVariables false
namespace Go.Proofs.Ytilkcojfencggaa
open Go.RowKit

theorem up_riseB : ∀ l : List Smp, Up l → riseB l = true := by
  intro l
  induction l with
  | nil => intro _; rfl
  | cons x r ih =>
    intro h
    obtain ⟨h1, h2⟩ := List.pairwise_cons.1 h
    cases r with
    | nil => rfl
    | cons y s =>
      show (decide (x.1 < y.1) && riseB (y :: s)) = true
      rw [ih h2, decide_eq_true (h1 y (List.mem_cons_self ..))]; rfl
theorem up_last {l : List Smp} (h : Up l) : ∀ y ∈ l, y.1 ≤ (l.getD (l.length - 1) (0, 0)).1 := by
  intro y hy
  obtain ⟨i, hi, rfl⟩ := List.mem_iff_getElem.1 hy
  have hl : l.length - 1 < l.length := by omega
  have e : l.getD (l.length - 1) (0, 0) = l[l.length - 1] := by simp [List.getD, List.getElem?_eq_getElem hl]
  rw [e]
  rcases Nat.lt_or_ge i (l.length - 1) with h' | h'
  · exact Int.le_of_lt (List.pairwise_iff_getElem.1 h i (l.length - 1) hi hl h')
  · have : i = l.length - 1 := by omega
    subst this; exact Int.le_refl _
theorem up_snoc {l : List Smp} {x : Smp} (h : Up l) (hx : l = [] ∨ (l.getD (l.length - 1) (0, 0)).1 < x.1) : Up (l ++ [x]) := by
  refine List.pairwise_append.2 ⟨h, List.pairwise_singleton _ _, fun a ha b hb => ?_⟩
  rw [List.mem_singleton.1 hb]
  rcases hx with e | e
  · rw [e] at ha; cases ha
  · exact Int.lt_of_le_of_lt (up_last h a ha) e
/-- Samples as the laws make them: times rise, of at most M. -/
def Made (M : Int) (l : List Smp) : Prop := Up l ∧ ∀ x ∈ l, (0 ≤ x.1 ∧ x.1 ≤ M) ∧ (-9223372036854775808 ≤ x.2 ∧ x.2 ≤ 9223372036854775807)
theorem Made.nil (M : Int) : Made M [] := ⟨List.Pairwise.nil, fun x hx => by cases hx⟩
theorem Made.snoc {M : Int} {l : List Smp} {x : Smp} (h : Made M l) (hx : l = [] ∨ (l.getD (l.length - 1) (0, 0)).1 < x.1) (h1 : (0 ≤ x.1 ∧ x.1 ≤ M) ∧ (-9223372036854775808 ≤ x.2 ∧ x.2 ≤ 9223372036854775807)) : Made M (l ++ [x]) :=
  ⟨up_snoc h.1 hx, fun y hy => by
    rcases List.mem_append.1 hy with e | e
    · exact h.2 y e
    · rw [List.mem_singleton.1 e]; exact h1⟩
theorem Made.wf {M : Int} {l : List Smp} (h : Made M l) (hM : M ≤ 1000000) : WfS l := fun x hx => ⟨by have := (h.2 x hx).1; omega, (h.2 x hx).2⟩

theorem eql_aw (x1 x2 x3 x4 x5 : Int) (w : World) : (binOp .eql 34 (.agg #[.int .i64 x1, .int .i64 x2, .int .i64 x3, .int .i64 x4, .int .i64 x5]) (.agg #[.int .i64 x1, .int .i64 x2, .int .i64 x3, .int .i64 x4, .int .i64 x5])).run Try.prog w = .ok (.bool true) w := by
  have u3 := Try.underlying3
  have a3 := Try.isAgg3
  have z3 := Try.sizeOf3
  have hS : Try.prog.underlying 34 = some (.struct (Try.prog.fieldsOf 34)) := by kernel_rfl
  have hp : Try.prog.stoodInHeld 34 = false := by kernel_rfl
  rw [run_eql_struct, show (10000 : Nat) = 9999 + 1 from rfl, run_equalIn_agg w 9999 34 _ _ hS hp]
  simp only [Program.fieldsOf, Try.underlying34]
  go_simp
theorem join_one_more {A : Win} {n : Nat} (h : A.c = (n : Int)) (hn : n ≤ 100) : ∃ j, joinW A ⟨0, 1, 0, 0, 0⟩ = j ∧ j.c = (n : Int) + 1 := by
  refine ⟨_, rfl, ?_⟩
  by_cases h0 : A.c = 0
  · rw [joinW_l0 h0]
    show (1 : Int) = n + 1
    omega
  · rw [joinW_pos h0 (by show (1 : Int) ≠ 0; omega)]
    show wrap64 (A.c + 1) = n + 1
    rw [h]; unfold wrap64; omega
theorem parts_facts {l : List Smp} {st : Int} (h : Made 1023 l) (hst : 1 ≤ st) : ∀ a ∈ winsL 0 st l, 1 ≤ a.c ∧ 0 ≤ a.f ∧ a.f ≤ 1023 ∧ a.f % st = 0 := by
  intro a ha
  obtain ⟨h1, x, hx, h2⟩ := wins_mem 0 st l.length l (Nat.le_refl _) a ha
  have hx1 := (h.2 x hx).1
  have hk0 : 0 ≤ keyOf 0 st x := Int.ediv_nonneg (by omega) (by omega)
  have hk1 : keyOf 0 st x * st ≤ x.1 - 0 := Int.ediv_mul_le _ (by omega)
  have hk2 : 0 ≤ keyOf 0 st x * st := Int.mul_nonneg hk0 (by omega)
  refine ⟨h1, by omega, by omega, ?_⟩
  rw [h2, Int.zero_add]; exact Int.mul_emod_left _ _

set_option maxRecDepth 100000 in
set_option maxHeartbeats 4000000 in
attribute [local go_sem ↓] Go.wp_at_zero Go.wp_at_succ in
theorem law2_walk (v : Value) (raw : List Smp) (s : Int) (w : World) (hv : Samples w v raw) (hw : WfS raw) (hs : 0 ≤ s ∧ s ≤ 255) :
    Calls Try.prog 4 #[v, .int .u8 s] w fun e w' => e = .returned (.bool true) ∧ Below w.heap.size w w' := by
  have HV := Lib.hid hv
  have HW := Lib.hid hw
  obtain ⟨a, cap, rfl, h1, h2, -⟩ := hv
  clear hw
  by_cases hl : raw.length ≤ 100
  · have HO := Lib.hid (OwnR.fresh (α := Smp) (t := 37) (k := 2) (enc := encS) w (base := w.heap.size) (Nat.le_refl _))
    go_enter Try.func4, Try.ntmps4
    go_wp2_with fail
    go_loopw [6, 5, 7] (fun i p q wr => ∃ (k : Nat) (l : List Smp), k ≤ raw.length ∧ i = .int .i64 k ∧ l.length ≤ k ∧ Made 1023 l ∧ OwnR 37 2 encS wr w.heap.size p l ∧ Below w.heap.size w wr)
      (fun i p q wr => raw.length - (intOf i).toNat)
    case atStart => exact ⟨0, [], Nat.zero_le _, rfl, Nat.le_refl _, Made.nil _, HO.out, (Below.refl _ _).alloc (Nat.le_refl _) _⟩
    case round =>
      obtain ⟨k, l, hk, rfl, hlk, hm, ho, hb⟩ := hrel
      have HM := Lib.hid hm
      have HO1 := Lib.hid ho
      have HB1 := Lib.hid hb
      clear hm ho hb HO
      by_cases hlt : k < raw.length
      · obtain ⟨b, off, rfl, hb, hc1, hc2⟩ := (HV.out.below HB1.out).at_ hlt
        have hwx := HW.out (raw.getD k (0, 0)) (by simp only [List.getD, List.getElem?_eq_getElem hlt, Option.getD_some]; exact List.getElem_mem hlt)
        generalize raw.getD k (0, 0) = x at *
        obtain ⟨x1, x2⟩ := x
        have hmask := and1023 x1
        have hm0 : 0 ≤ x1 % 1024 ∧ x1 % 1024 ≤ 1023 := by omega
        have hwx2 := hwx.2
        generalize x1 % 1024 = m at *
        clear hwx
        have HSZ := Lib.hid HB1.out.size
        obtain ⟨a9, cap9, rfl, m1, m2, m3⟩ := OwnR.open_ (enc := encS) (k := 2) (fun _ => rfl) (0, 0) HO1.out
        by_cases hne : l = []
        · have hle : ((l.length : Int) == 0) = true := by rw [hne]; rfl
          have HM2 := Lib.hid (HM.out.snoc (x := (m, x2)) (.inl hne) ⟨hm0, hwx2⟩)
          clear hne m3
          go_wp2_with (at_builtin; refine app_smp _ rfl (.tmp 44) (.tmp 52) rfl w.heap.size _ l (m, x2) _ rfl rfl (heap_alloc_new ..) (HO1.out.below ((Below.refl _ _).alloc (Nat.le_refl _) _)) (app_sz HSZ.out) (by omega) ?_; intro g' cap' w4 hown4 hb4)
          exact ⟨⟨k + 1, l ++ [(m, x2)], by omega, by go_num, by simp; omega, HM2.out, hown4, (HB1.out.alloc HB1.out.size _).trans hb4⟩, by simp [intOf]; omega⟩
        · have hol0 : 0 < l.length := List.length_pos_iff.2 hne
          obtain ⟨g9, rfl, -, hg9, hcc⟩ := m3 hol0
          have hc9 := hcc (l.length - 1) (by omega) 0 (by omega)
          obtain ⟨n, hn⟩ : ∃ n, l.length = n + 1 := ⟨l.length - 1, by omega⟩
          have hlast : l.length - 1 = n := by omega
          rw [hlast] at hc9
          have hc9' : wr.cell? ⟨g9, n * 2, none⟩ = some (.int .i64 (l.getD n (0, 0)).1) := hc9
          have HMl := Lib.hid (fun (h : (l.getD n (0, 0)).1 < m) => HM.out.snoc (x := (m, x2)) (.inr (by rw [hlast]; exact h)) ⟨hm0, hwx2⟩)
          generalize (l.getD n (0, 0)).1 = lt at hc9' HMl
          have HO2 : Hid (OwnR 37 2 encS wr w.heap.size (.slice (some ⟨g9, 0, none⟩) (n + 1) cap9) l) := Lib.hid (by have := HO1.out; rw [hn] at this; exact this)
          have hle : ((l.length : Int) == 0) = false := by simp; omega
          have hm2 : (n : Int) < (n : Int) + 1 := by omega
          have hm3 : n < n + 1 := by omega
          have hm4 : (n : Int) < ((n + 1 : Nat) : Int) := by omega
          have hm5 : (0 : Int) ≤ (n : Int) := by omega
          have hw6 : IntKind.i64.wrap ((n : Int) + 1 - 1) = (n : Int) := by rw [IntWalk.i64_in _ (by omega)]; omega
          have hw7 : IntKind.i64.wrap (n : Int) = (n : Int) := IntWalk.i64_in _ (by omega)
          clear hcc hc9 m3 hne hol0 hlast
          by_cases hlm : lt < m
          · have HM2 := Lib.hid (HMl.out hlm)
            go_wp2_with (at_builtin; refine app_smp _ rfl (.tmp 44) (.tmp 52) rfl w.heap.size _ l (m, x2) _ rfl rfl (heap_alloc_new ..) (HO2.out.below ((Below.refl _ _).alloc (Nat.le_refl _) _)) (app_sz HSZ.out) (by omega) ?_; intro g' cap' w4 hown4 hb4; rw [hn] at hown4)
            exact ⟨⟨k + 1, l ++ [(m, x2)], by omega, by go_num, by simp; omega, HM2.out, hown4, (HB1.out.alloc HB1.out.size _).trans hb4⟩, by simp [intOf]; omega⟩
          · go_wp2_with fail
            exact ⟨⟨k + 1, l, by omega, by go_num, by omega, HM.out, HO2.out, HB1.out⟩, by simp [intOf]; omega⟩
      · have hLl : l.length ≤ 100 := by omega
        have hsw : IntKind.i64.wrap s = s := IntWalk.i64_in _ (by omega)
        have hsw2 : IntKind.i64.wrap (1 + s) = 1 + s := IntWalk.i64_in _ (by omega)
        have HSm := Lib.hid ((St.start wr).add (fun w' => Samples w' u5 l) (fun w' hb => HO1.out.samples.below hb))
        obtain ⟨a9, cap9, rfl, m1, m2, -⟩ := OwnR.open_ (enc := encS) (k := 2) (fun _ => rfl) (0, 0) HO1.out
        have hr := up_riseB l HM.out.1
        have harg : argB l 0 1024 (1 + s) = false := by
          simp only [argB, hr, Bool.or_eq_false_iff, decide_eq_false_iff_not]
          exact ⟨by omega, by omega, by omega, by omega, rfl⟩
        have hfil : l.filter (inB 0 1024) = l := by
          rw [List.filter_eq_self]
          intro y hy
          have := (HM.out.2 y hy).1
          simp [inB]; omega
        have HWin := Lib.hid (fun w h => win_ok (.slice a9 l.length cap9) l 0 1024 (1 + s) w h (by omega) (HM.out.wf (by omega)) (by omega) harg)
        rw [hfil] at HWin
        have HFacts := Lib.hid (parts_facts HM.out (show 1 ≤ 1 + s by omega))
        have HTot := Lib.hid (wins_total 0 (1 + s) (L := l) (by omega))
        have HRise := Lib.hid (wins_rise 0 (1 + s) (by omega) l.length l (Nat.le_refl _) HM.out.1)
        have HTl := Lib.hid (fun w h => total_any (.slice a9 l.length cap9) l w h (HM.out.wf (by omega)) (by omega))
        have HRs := Lib.hid (fun w h => refRises_any (.slice a9 l.length cap9) l w h)
        rw [hr] at HRs
        have htc := totL_c l
        clear harg hfil hr HV HW HO1
        generalize winsL 0 (1 + s) l = ws at *
        go_wp2_with fail
        refine (HWin.out _ (HSm.out.get 0 rfl)).mono ?_
        rintro e w3 ⟨u, rfl, hws, hd⟩
        have HS3 := Lib.hid (((HSm.out.step hd).add (fun w' => Wins w' u ws) (fun w' hb => hws.below hb)))
        have HB3 := Lib.hid (HB1.out.trans (HS3.out.bel.mono HB1.out.size))
        obtain ⟨ua, ucap, rfl, u1, u2, -⟩ := hws
        clear hd HWin HSm
        have HBx := Lib.hid (show WBox (w3.alloc (.cells #[.int .i64 0, .int .i64 0, .int .i64 0, .int .i64 0, .int .i64 0] 34)) w3.heap.size w0 from heap_alloc_new ..)
        go_wp2_with fail
        go_loopw [12, 11] (fun i q wr2 => ∃ (k : Nat) (lw : Int), k ≤ ws.length ∧ i = .int .i64 k ∧ q = .int .i64 lw ∧ (∀ a ∈ ws.drop k, lw < a.f) ∧ WBox wr2 w3.heap.size ((ws.take k).foldl joinW w0) ∧ Below w3.heap.size w3 wr2)
          (fun i q wr2 => ws.length - (intOf i).toNat)
        case atStart => exact ⟨0, -1, Nat.zero_le _, rfl, rfl, fun a ha => by have := (HFacts.out a (by simpa using ha)).2.1; omega, HBx.out, (Below.refl _ _).alloc (Nat.le_refl _) _⟩
        case round =>
          obtain ⟨wo, rfl⟩ : ∃ wo, wo = wr := ⟨_, rfl⟩
          obtain ⟨k2, lw, hk2, rfl, rfl, hlw, hbx, hbw⟩ := hrel
          have HLw := Lib.hid hlw
          have HX := Lib.hid hbx
          have HBw := Lib.hid hbw
          clear hlw hbx hbw HBx
          by_cases hlt2 : k2 < ws.length
          · obtain ⟨b, off, rfl, hb, c1, c2, c3, c4, c5⟩ := ((HS3.out.get 0 rfl).below HBw.out).at_ hlt2
            have hdrop : ws.drop k2 = ws.getD k2 w0 :: ws.drop (k2 + 1) := by
              rw [List.drop_eq_getElem_cons hlt2]; simp [List.getD, List.getElem?_eq_getElem hlt2]
            have hmem : ws.getD k2 w0 ∈ ws := by simp only [List.getD, List.getElem?_eq_getElem hlt2, Option.getD_some]; exact List.getElem_mem hlt2
            obtain ⟨f1, f2, f3, f4⟩ := HFacts.out _ hmem
            have hlwf : lw < (ws.getD k2 w0).f := HLw.out _ (by rw [hdrop]; exact List.mem_cons_self ..)
            have HNext := Lib.hid (show ∀ a ∈ ws.drop (k2 + 1), (ws.getD k2 w0).f < a.f from by
              have := List.Pairwise.sublist (List.drop_sublist k2 ws) HRise.out
              rw [hdrop] at this
              exact (List.pairwise_cons.1 this).1)
            have HFold := Lib.hid (show (ws.take (k2 + 1)).foldl joinW w0 = joinW ((ws.take k2).foldl joinW w0) (ws.getD k2 w0) by rw [wins_take hlt2, List.foldl_append]; rfl)
            clear hmem hdrop HLw
            generalize ws.getD k2 w0 = y at *
            obtain ⟨y1, y2, y3, y4, y5⟩ := y
            simp only at f1 f2 f3 f4 hlwf c1 c2 c3 c4 c5
            have hm1 : y1.tmod (1 + s) = 0 := by rw [Int.tmod_eq_emod_of_nonneg f2]; exact f4
            generalize (ws.take k2).foldl joinW w0 = z at *
            obtain ⟨zz, hz⟩ : ∃ zz, joinW z ⟨y1, y2, y3, y4, y5⟩ = zz := ⟨_, rfl⟩
            have HJ := Lib.hid (fun w => join_any z ⟨y1, y2, y3, y4, y5⟩ w)
            rw [hz] at HJ HFold
            clear hz
            obtain ⟨z1, z2, z3, z4, z5⟩ := z
            obtain ⟨j1, j2, j3, j4, j5⟩ := zz
            simp only [winV] at HJ
            obtain ⟨g0, g1, g2, g3, g4⟩ := HX.out.cells
            have HB3c := Lib.hid (fun w' (hb : Below wo.heap.size wo w') => (HX.out.below hb).cells)
            have HB4c := Lib.hid (fun w' (hb : Below wo.heap.size wo w') => (HX.out.below hb).frozen)
            have hi0 : (0 : Int) ≤ (k2 : Int) := by omega
            have hi1 : (k2 : Int) < (ws.length : Int) := by omega
            have hxl : w3.heap.size < wo.heap.size := (Array.getElem?_eq_some_iff.1 HX.out).1
            go_wp2_with fail
            go_region_with (first
              | (go_at_call 12; refine (HJ.out _).mono ?_; rintro e w2 ⟨rfl, hd2⟩; have hd2' := below_dr (n := 1) hd2; obtain ⟨g0, g1, g2, g3, g4⟩ := HB3c.out _ hd2'; obtain ⟨q0, q1, q2, q3, q4⟩ := HB4c.out _ hd2'))
            all_goals
              (have HP1 := Lib.hid ((HX.out.below hd2').put ⟨j1, j2, j3, j4, j5⟩)
               have HP2 := Lib.hid (below_put (HBw.out.trans (hd2'.mono HBw.out.size)) (Nat.le_refl _) (.int .i64 j1) (.int .i64 j2) (.int .i64 j3) (.int .i64 j4) (.int .i64 j5))
               go_wp2_with fail)
            all_goals exact ⟨⟨k2 + 1, y1, by omega, by go_num, rfl, HNext.out, by rw [HFold.out]; exact HP1.out, HP2.out⟩, by simp [intOf]; omega⟩
          · have hke : k2 = ws.length := by omega
            have hA : Alike ((ws.take k2).foldl joinW w0) (totL l) := by rw [hke, List.take_of_length_le (Nat.le_refl _)]; exact HTot.out
            generalize (ws.take k2).foldl joinW w0 = A at *
            generalize totL l = T at *
            obtain ⟨a1, a2, a3, a4, a5⟩ := A
            obtain ⟨t1, t2, t3, t4, t5⟩ := T
            obtain ⟨e2, e3, e4, e5⟩ := hA
            simp only at e2 e3 e4 e5 htc
            subst e2 e3 e4 e5
            subst htc
            have HS4 := Lib.hid (HS3.out.step HBw.out)
            obtain ⟨g0, g1, g2, g3, g4⟩ := HX.out.cells
            simp only [winV] at HTl
            go_wp2_with fail
            refine (HTl.out _ (HS4.out.get 1 rfl)).mono ?_
            rintro e w5 ⟨rfl, hd5⟩
            have HS5 := Lib.hid (HS4.out.step hd5)
            have HX5 := Lib.hid (HX.out.below hd5)
            clear hd5 g0 g1 g2 g3 g4
            obtain ⟨g0, g1, g2, g3, g4⟩ := HX5.out.cells
            have hxl : w3.heap.size < w5.heap.size := (Array.getElem?_eq_some_iff.1 HX5.out).1
            have heq := eql_aw a1 (l.length : Int) a3 a4 a5
            have HB6 := Lib.hid (show Below w5.heap.size w5 (w5.alloc (.cells #[.int .i64 a1, .int .i64 (l.length : Int), .int .i64 a3, .int .i64 a4, .int .i64 a5] 34)) from (Below.refl _ _).alloc (Nat.le_refl _) _)
            obtain ⟨⟨j1, j2, j3, j4, j5⟩, hjj, hjc⟩ := join_one_more (A := ⟨a1, (l.length : Int), a3, a4, a5⟩) rfl hLl
            have HJ := Lib.hid (fun w => join_any ⟨a1, (l.length : Int), a3, a4, a5⟩ ⟨0, 1, 0, 0, 0⟩ w)
            rw [hjj] at HJ
            simp only [winV] at HJ
            simp only at hjc
            subst hjc
            clear hjj
            have hlw1 : IntKind.i64.wrap ((l.length : Int) + 1) = (l.length : Int) + 1 := IntWalk.i64_in _ (by omega)
            have hfc := fieldC
            go_wp2_with fail
            refine (HRs.out _ ((HS5.out.step HB6.out).get 1 rfl)).mono ?_
            rintro e w6 ⟨rfl, hd6⟩
            have HS6 := Lib.hid ((HS5.out.step HB6.out).step hd6)
            have HX6 := Lib.hid ((HX5.out.below HB6.out).below hd6)
            clear hd6 g0 g1 g2 g3 g4
            obtain ⟨g0, g1, g2, g3, g4⟩ := HX6.out.cells
            go_wp2_with fail
            refine (HJ.out _).mono ?_
            rintro e w7 ⟨rfl, hd7⟩
            have HS7 := Lib.hid (HS6.out.step hd7)
            clear hd7
            go_wp2_with fail
            go_ret
            exact ⟨rfl, HB1.out.trans (HS7.out.bel.mono HB1.out.size)⟩
  · go_enter Try.func4, Try.ntmps4
    go_wp2_with fail
    go_ret
    exact ⟨rfl, Below.refl _ _⟩

end Go.Proofs.Ytilkcojfencggaa
