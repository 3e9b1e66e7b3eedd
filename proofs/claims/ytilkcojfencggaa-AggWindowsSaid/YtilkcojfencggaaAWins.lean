/-
  agg.Windows.
-/
import Derived.Test.YtilkcojfencggaaAIter
set_option linter.unusedSimpArgs false
set_option linter.unusedVariables false
namespace Go.Proofs.Ytilkcojfencggaa
open Go.RowKit Go.Shelf

attribute [local go_sem] Oper.semAt_some

set_option maxRecDepth 100000 in
set_option maxHeartbeats 1000000 in
theorem win_bad (v : Value) (ls : List Smp) (f t st : Int) (w : World) (hv : Samples w v ls) (hb : argB ls f t st = true) :
    Calls Try.prog 6 #[v, .agg #[.int .i64 f, .int .i64 t], .int .i64 st] w fun e w' => e = .returned (.tuple #[.slice none 0 0, .int .i64 1]) ∧ Below w.heap.size w w' := by
  have HV := Lib.hid hv
  have HB := Lib.hid hb
  have HA := Lib.hid (show Below w.heap.size w (w.alloc (.cells #[.int .i64 f, .int .i64 t] 24)) from (Below.refl _ _).alloc (Nat.le_refl _) _)
  clear hv hb
  go_enter Try.func6, Try.ntmps6
  by_cases h1 : f < 0
  · go_wp2_with fail
    go_ret2
    exact ⟨rfl, HA.out⟩
  by_cases h2 : t ≤ f
  · go_wp2_with fail
    go_ret2
    exact ⟨rfl, HA.out⟩
  by_cases h3 : 1099511627776 < t
  · go_wp2_with fail
    go_ret2
    exact ⟨rfl, HA.out⟩
  by_cases h4 : st < 1
  · go_wp2_with fail
    go_ret2
    exact ⟨rfl, HA.out⟩
  have h5 : riseB ls = false := by
    have := HB.out
    simp only [argB, decide_eq_false h1, decide_eq_false h2, decide_eq_false h3, decide_eq_false h4, Bool.false_or, Bool.not_eq_true'] at this
    exact this
  go_wp2_with fail
  refine (rises_any v ls _ (HV.out.below HA.out)).mono ?_
  rintro e w1 ⟨rfl, hd⟩
  have HA1 := Lib.hid (HA.out.trans (hd.mono HA.out.size))
  clear hd
  rw [h5]
  go_wp2_with fail
  go_ret2
  exact ⟨rfl, HA1.out⟩

theorem box_kept {w1 w2 w3 : World} (h1 : Below (w1.alloc (.cells #[.slice none 0 0] 25)).drew.heap.size (w1.alloc (.cells #[.slice none 0 0] 25)).drew w2) (h2 : Below w2.heap.size w2 w3) :
    w1.heap.size < w2.heap.size ∧ Boxed w2 w1.heap.size 25 (.slice none 0 0) ∧ Boxed w3 w1.heap.size 25 (.slice none 0 0) := by
  have h0 : Boxed (w1.alloc (.cells #[.slice none 0 0] 25)) w1.heap.size 25 (.slice none 0 0) := Boxed.new _ _ _
  have hs : w1.heap.size < (w1.alloc (.cells #[.slice none 0 0] 25)).drew.heap.size := h0.lt
  have hb : Boxed w2 w1.heap.size 25 (.slice none 0 0) := (h1.block _ hs).trans h0
  exact ⟨hb.lt, hb, (h2.block _ hb.lt).trans hb⟩
theorem seen_new {w2 w3 : World} {Bo cap : Nat} {a : Option Addr} {L : List Smp} {f t st : Int} (hs : Samples w2 (.slice a L.length cap) L)
    (hw : w3 = ((w2.alloc (.cells #[.slice a L.length cap] 22)).alloc (.cells #[.int .i64 f, .int .i64 t] 24)).alloc (.cells #[.int .i64 st] 3))
    (hb : Bo < w2.heap.size) (hx : Boxed w2 Bo 25 (.slice none 0 0)) (hx3 : Boxed w3 Bo 25 (.slice none 0 0)) :
    Seen w3.heap.size Bo w3 w2.heap.size (w2.heap.size + 1) (w2.heap.size + 1 + 1) a cap L f t st := by
  have hsz : w3.heap.size = w2.heap.size + 1 + 1 + 1 := by rw [hw]; simp
  have hbel : Below w2.heap.size w2 w3 := by rw [hw]; exact below_new3 ..
  refine ⟨⟨by omega, by omega, ?_⟩, ⟨by omega, by omega, ?_⟩, ⟨by omega, by omega, ?_⟩, hs.below hbel, fun hne b off ha => ?_⟩
  · have e : w3.heap[w2.heap.size]? = some (.cells #[.slice a L.length cap] 22 (0, 0)) := by
      rw [hw, Below.heap_alloc _ _ _ (by simp; omega), Below.heap_alloc _ _ _ (by simp)]; exact heap_alloc_new ..
    rw [cell_of_row w3 _ _ _ _ _ e]; rfl
  · have e : w3.heap[w2.heap.size + 1]? = some (.cells #[.int .i64 f, .int .i64 t] 24 (0, 0)) := by
      rw [hw, Below.heap_alloc _ _ _ (by simp)]
      have := heap_alloc_new (w2.alloc (.cells #[.slice a L.length cap] 22)) (.cells #[.int .i64 f, .int .i64 t] 24)
      rwa [World.size_alloc] at this
    rw [cell_of_row w3 _ _ _ _ _ e]; rfl
  · have e : w3.heap[w2.heap.size + 1 + 1]? = some (.cells #[.int .i64 st] 3 (0, 0)) := by
      rw [hw]; exact heap_new3 ..
    rw [cell_of_row w3 _ _ _ _ _ e]; rfl
  · subst ha
    obtain ⟨b', off', hb', hlt, hc1, _⟩ := hs.at_ (i := 0) (List.length_pos_iff.2 hne)
    obtain ⟨rfl, rfl⟩ : b = b' ∧ off = off' := by simpa using hb'
    refine ⟨by omega, fun e => ?_⟩
    subst e
    rw [cell_of_row w2 b _ _ _ _ hx] at hc1
    cases ho : (off + 0 * 2) with
    | zero => rw [ho] at hc1; simp at hc1
    | succ m => rw [ho] at hc1; simp at hc1
theorem wbox_own {X Y : World} {b : Nat} {x : Win} {row : Option Nat} (h : WBox X b x) (hg : X.grownBy Y row) (hr : ∀ r, row = some r → ∃ o : Obj, X.heap[r]? = some o ∧ o.isCells = false) : WBox Y b x :=
  (hg.block b (Array.getElem?_eq_some_iff.1 h).1 (fun e => by
    obtain ⟨o, ho, hc⟩ := hr b e.symm
    rw [show X.heap[b]? = _ from h] at ho; cases ho; cases hc)).trans h
theorem ownsRow_base {W : World} {b b' e s n : Nat} {v : Value} {xs : List Value} (h : W.ownsRow b e s v n xs) (hb : b' ≤ b) : W.ownsRow b' e s v n xs :=
  ⟨h.1, h.2.imp id fun ⟨g, cap, cur, hv, hg, rest⟩ => ⟨g, cap, cur, hv, Nat.le_trans hb hg, rest⟩⟩
theorem but_app {W w6 : World} {N Bo e s n : Nat} {u v : Value} {xs : List Value} {o : Obj} (hr : W.ownsRow N e s u n xs) (hN : N ≤ W.heap.size) (hg : (W.alloc o).grownBy w6 u.ownBlock) (hs : W.heap.size ≤ (w6.setCell ⟨Bo, 0, none⟩ v).heap.size) : But N Bo W (w6.setCell ⟨Bo, 0, none⟩ v) := by
  refine ⟨hs, fun k h1 h2 h3 => ?_⟩
  rw [Below.heap_setCell _ _ _ k h2]
  rw [hg.block k (by simp; omega) ?_, Below.heap_alloc _ _ _ h3]
  intro e
  rcases hr.2 with ⟨rfl, _⟩ | ⟨g, cap, cur, rfl, hgb, _⟩
  · simp [Value.ownBlock] at e
  · simp [Value.ownBlock] at e; omega
theorem below_w3 {w w' : World} {A B C : Obj} (h : w' = ((w.alloc A).alloc B).alloc C) : Below w.heap.size w w' := by rw [h]; exact below_new3 ..
theorem keepB {b : Nat} {c0 c1 : Value} {w w' : World} (h : w.cell? ⟨b, 0, none⟩ = some c0 ∧ w.cell? ⟨b, 1, none⟩ = some c1) (hb : Below w.heap.size w w') :
    w'.cell? ⟨b, 0, none⟩ = some c0 ∧ w'.cell? ⟨b, 1, none⟩ = some c1 := by
  have hlt : b < w.heap.size := World.block_lt_of_cell? w _ h.1
  exact ⟨(hb.cell (p := ⟨b, 0, none⟩) hlt).trans h.1, (hb.cell (p := ⟨b, 1, none⟩) hlt).trans h.2⟩

set_option maxRecDepth 100000 in
set_option maxHeartbeats 4000000 in
attribute [local go_sem ↓] Go.wp_at_zero Go.wp_at_succ in
theorem win_ok (v : Value) (ls : List Smp) (f t st : Int) (w : World) (hv : Samples w v ls) (hl : ls.length ≤ 1000000) (hw : WfS ls) (hst2 : st ≤ 9223372036854775807) (hb : argB ls f t st = false) :
    Calls Try.prog 6 #[v, .agg #[.int .i64 f, .int .i64 t], .int .i64 st] w fun e w' => ∃ u, e = .returned (.tuple #[u, .int .i64 0]) ∧ Wins w' u (winsL f st (ls.filter (inB f t))) ∧ Below w.heap.size w w' := by
  have HV := Lib.hid hv
  have HA := Lib.hid (show Below w.heap.size w (w.alloc (.cells #[.int .i64 f, .int .i64 t] 24)) from (Below.refl _ _).alloc (Nat.le_refl _) _)
  have HX := Lib.hid (show RBx (w.alloc (.cells #[.int .i64 f, .int .i64 t] 24)) w.heap.size f t from heap_alloc_new ..)
  obtain ⟨h1, h2, h3, h4, h5⟩ := argB_no hb
  have HWf := Lib.hid (show WfS (ls.filter (inB f t)) from fun x hx => hw x (List.mem_filter.1 hx).1)
  have HIn := Lib.hid (fun x (hx : x ∈ ls.filter (inB f t)) => show f ≤ x.1 ∧ x.1 < 1099511627776 by
    have := (List.mem_filter.1 hx).2
    have h : f ≤ x.1 ∧ x.1 < t := by simpa [inB] using this
    omega)
  have HLen := Lib.hid (show (ls.filter (inB f t)).length ≤ 1000000 from Nat.le_trans (List.length_filter_le _ _) hl)
  clear hv hb hw
  refine (callsIn_wide (n := 5)).1 ?_
  refine callsIn_of_wp_marks Try.func6 rfl trivial ?_ rfl
  simp only [Try.ntmps6, List.size_toArray, List.length_cons, List.length_nil, Nat.reduceAdd, Nat.reduceSub, Array.replicate_succ, Array.replicate_zero, List.push_toArray, List.append_toArray, List.nil_append, List.cons_append]
  refine (wpIn_wide (n := 5)).2 ?_
  go_wp2_with fail
  refine (rises_any v ls _ (HV.out.below HA.out)).mono ?_
  rintro e w1 ⟨rfl, hd⟩
  have HA1 := Lib.hid (HA.out.trans (hd.mono HA.out.size))
  have HX1 := Lib.hid (HX.out.below hd)
  clear hd HA HX
  rw [h5]
  obtain ⟨g0, g1⟩ := HX1.out.cells
  have hl1 : w.heap.size < w1.heap.size := World.block_lt_of_cell? w1 _ g0
  go_wp2_with fail
  have HA2 := Lib.hid ((HA1.out.alloc HA1.out.size (.cells #[.slice none 0 0] 25)).drew)
  go_region_held3 (fun w' => w'.cell? ⟨w.heap.size, 0, none⟩ = some (.int .i64 f) ∧ w'.cell? ⟨w.heap.size, 1, none⟩ = some (.int .i64 t))
    (first | exact keepB (by assumption) hb2 | exact keepB (by assumption) hb1 | go_keep)
    (first
      | (go_at_call 17; refine (in_any v ls f t _ (HV.out.below HA2.out) hl).mono ?_; rintro e w2 ⟨u, rfl, hsm, hb1⟩; have HS := Lib.hid hsm; obtain ⟨a, cap, rfl, k1, k2, -⟩ := hsm)
      | (go_at_call 16; refine (windows_any a _ cap f t st _).mono ?_; rintro e w3 ⟨rfl, hw3⟩; have HW3 := Lib.hid hw3; have hb2 := below_w3 hw3; clear hw3))
  all_goals go_wp2_with fail
  generalize hLL : ls.filter (inB f t) = L at *
  have HLL := Lib.hid hLL
  clear hLL
  obtain ⟨hbo1, hbo2, hbs⟩ := box_kept hb1 hb2
  have HB3 := Lib.hid (HA2.out.trans ((hb1.mono HA2.out.size).trans (hb2.mono (Nat.le_trans HA2.out.size hb1.size))))
  have HSeen := Lib.hid (seen_new (f := f) (t := t) (st := st) HS.out HW3.out hbo1 hbo2 hbs)
  have hws : w.heap.size ≤ w1.heap.size := HA1.out.size
  generalize hBo : w1.heap.size = Bo at *
  clear hBo
  have HLen2 := Lib.hid (Nat.le_trans (winsL_len f st L) HLen.out)
  obtain ⟨i0, hi, hz0, hz1, hz2⟩ := info_parts infoWin
  refine (wpIn_wide (n := 5)).1 ?_
  refine wpIn_rangeFunc_ownH (F := Fence.wide) rfl (by omega) (gf := 21) (lb := #[.pointer (some ⟨w2.heap.size, 0, none⟩), .pointer (some ⟨w2.heap.size + 1, 0, none⟩), .pointer (some ⟨w2.heap.size + 1 + 1, 0, none⟩)]) rfl trivial (enters_of Try.func21 (by kernel_rfl) rfl)
    (windows_stops 4 w3.heap.size Bo w2.heap.size (w2.heap.size + 1) (w2.heap.size + 1 + 1) cap (by omega) a L f t st h1 h4 hst2 HIn.out HLen.out HWf.out w3 (Nat.le_refl _) HSeen.out) But.trans (But.putObj (Nat.le_refl _)) (Below.refl _ _) (fun _ => rfl)
    (fun pre W => (∃ v, Boxed W Bo 25 v ∧ W.ownsRow w3.heap.size 34 5 v pre.length (pre.flatMap encW) ∧ True) ∧ (Below w.heap.size w W ∧ w3.heap.size ≤ W.heap.size))
    (fun _ _ _ => False)
    (OwnFrom.and (Own.from (holdsRow_own w3.heap.size Bo 25 34 5 (fun pre : List Win => pre.length) (fun pre => pre.flatMap encW) (fun _ _ => True)) _) (OwnFrom.and (ownFrom_below (Nat.le_refl _) HB3.out.size) (fun _ X Y row hs hg _ => Nat.le_trans hs hg.size)))
    (fun _ _ _ _ _ hs _ _ => hs)
    ⟨⟨_, hbs, World.ownsRow_nil _ _ _ _, trivial⟩, HB3.out, Nat.le_refl _⟩
    (fun x a' W => ∃ Bx, Bo < Bx ∧ WBox W Bx x ∧ a' = { tmps := #[v, .agg #[.int .i64 f, .int .i64 t], .int .i64 st, undef,
          .pointer (some ⟨w.heap.size, 0, none⟩), undef, .slice none 0 0, .int .i64 0,
          .pointer (some ⟨Bo, 0, none⟩), .pointer (some ⟨Bx, 0, none⟩),
          .pointer (some ⟨w.heap.size, 0, none⟩), .int .i64 f, .bool (decide (f < 0)),
          .bool (decide (f < 0)), .pointer (some ⟨w.heap.size, 0, none⟩), .int .i64 f,
          .pointer (some ⟨w.heap.size, 1, none⟩), .int .i64 t, .bool (decide (t ≤ f)),
          .bool (decide (f < 0) || decide (t ≤ f)), .bool (decide (f < 0) || decide (t ≤ f)),
          .pointer (some ⟨w.heap.size, 1, none⟩), .int .i64 t,
          .bool (decide (1099511627776 < t)),
          .bool (decide (f < 0) || decide (t ≤ f) || decide (1099511627776 < t)),
          .bool (decide (f < 0) || decide (t ≤ f) || decide (1099511627776 < t)), .int .i64 st,
          .bool (decide (st < 1)),
          .bool (decide (f < 0) || decide (t ≤ f) || decide (1099511627776 < t) || decide (st < 1)),
          .bool (decide (f < 0) || decide (t ≤ f) || decide (1099511627776 < t) || decide (st < 1)), v,
          .bool true, .bool false,
          .bool (decide (f < 0) || decide (t ≤ f) || decide (1099511627776 < t) || decide (st < 1)), v,
          .agg #[.int .i64 f, .int .i64 t],
          .slice a L.length cap,
          .agg #[.int .i64 f, .int .i64 t], .int .i64 st,
          .func (.func 21) #[]
            #[.pointer (some ⟨w2.heap.size, 0, none⟩),
              .pointer (some ⟨w2.heap.size + 1, 0, none⟩),
              .pointer (some ⟨w2.heap.size + 1 + 1, 0, none⟩)],
          .agg #[.int .i64 x.f, .int .i64 x.c, .int .i64 x.s, .int .i64 x.mn, .int .i64 x.mx], undef, undef, undef, undef, undef], defers := [] })
    (fun x a' _ X Y row hs hg hr => by obtain ⟨Bx, h1, h2, h3⟩ := hs; exact ⟨Bx, h1, wbox_own h2 hg (fun r e => (hr r e).2), h3⟩)
    ?assign ?body ?done ?stop
  case assign =>
    rintro l pre ⟨x1, x2, x3, x4, x5⟩ W K ⟨⟨u, hv, hrow, -⟩, hB, hN⟩ hK
    simp only [winV]
    gi_wp2
    exact hK _ _ ((KeepsOthers.alloc _ _).from _) (But.own ((Below.refl _ W).alloc (Nat.le_refl _) _)) ⟨⟨u, hv.alloc _, hrow.alloc _, trivial⟩, hB.alloc hB.size _, by simp; omega⟩ ⟨W.heap.size, hv.lt, heap_alloc_new .., rfl⟩
  case body =>
    rintro l pre ⟨x1, x2, x3, x4, x5⟩ a' W hl ⟨r, hr⟩ ⟨⟨u, hv, hrow, -⟩, hB, hN⟩ ⟨Bx, hBx, hbx, rfl⟩ hlt
    dsimp only
    have hc := hv.cell
    obtain ⟨g0, g1, g2, g3, g4⟩ := hbx.cells
    have hpl : pre.length ≤ 1000000 := Nat.le_trans (Nat.le_of_lt hlt) HLen2.out
    clear hlt
    have HRow := Lib.hid hrow
    have HV2 := Lib.hid hv
    have HBW := Lib.hid hB
    have HN := Lib.hid hN
    have HBx := Lib.hid hbx
    have hbl : Bx < W.heap.size := (Array.getElem?_eq_some_iff.1 hbx).1
    have hol : Bo < W.heap.size := hv.lt
    clear hrow hv hB hN hbx
    gi_wp2_with (gi_at_builtin; refine wpListIn_append_own _ rfl (.tmp 41) (.tmp 43) 25 rfl w3.heap.size 34 i0 _ 5 40 Try.underlying25 hi hz0 hz1 hz2 rfl (by decide) u pre.length (pre.flatMap encW) rfl (HRow.out.alloc _) ⟨W.heap.size, 0, none⟩ 1 1 [.int .i64 x1, .int .i64 x2, .int .i64 x3, .int .i64 x4, .int .i64 x5] rfl rfl (World.news_of_block (heap_alloc_new ..)) (by intro u hu; simp at hu; rcases hu with rfl | rfl | rfl | rfl | rfl <;> rfl) (by simp only [maxLen]; omega) (by omega) (by have := HN.out; simp; omega) ?_; intro v' w6 hown' hgrow _; obtain ⟨g', cap', rfl⟩ := ownsRow_succ hown'; obtain ⟨hv1, hv2, hr2, hk2, hb6⟩ := HV2.out.appended (by decide) (ownsRow_base HRow.out HB3.out.size) HBW.out.size hws (ownsRow_base hown' HB3.out.size) hgrow; have hc1 := hv1.cell; have hf1 := hv1.frozen)
    have hrow6 := hown'.kept (grownBy_setCell' w6 Bo (.slice (some ⟨g', 0, none⟩) (pre.length + 1) cap')) (.inr (hv1.not_row (by decide) hown').symm)
    have hrow7 : (w6.setCell ⟨Bo, 0, none⟩ (.slice (some ⟨g', 0, none⟩) (pre.length + 1) cap')).ownsRow w3.heap.size 34 5 (.slice (some ⟨g', 0, none⟩) (pre.length + 1) cap') (pre ++ [(⟨x1, x2, x3, x4, x5⟩ : Win)]).length ((pre ++ [(⟨x1, x2, x3, x4, x5⟩ : Win)]).flatMap encW) := by
      rw [List.length_append, List.flatMap_append]; exact hrow6
    refine ⟨hk2.from _, but_app HRow.out HN.out hgrow hb6.size, ⟨⟨_, hv2, ?_⟩, HBW.out.trans hb6, Nat.le_trans HN.out hb6.size⟩⟩
    first | exact hrow7 | exact ⟨hrow7, trivial⟩
  case done =>
    rintro D ys W hD rfl ⟨⟨u, hv, hrow, -⟩, hB, hN⟩ hK
    have HRow := Lib.hid hrow
    have HBW := Lib.hid hB
    have HK := Lib.hid hK
    have hc := hv.cell
    have hol : Bo < W.heap.size := hv.lt
    clear hrow hB hN hv
    go_wp2_with fail
    refine ⟨by simp, .inl ⟨_, _, rfl, run_takeDeferred HK.out, ?_⟩⟩
    refine ⟨_, results_tmp2 rfl _ _ _, u, rfl, ?_, HBW.out.trans (belowK_b (w := w) (Nat.le_refl _) W D _ _ (by have := HB3.out.size; omega) HK.out rfl rfl)⟩
    rw [HLL.out]
    exact OwnR.wins (show OwnR 34 5 encW _ w3.heap.size u (winsL f st L) from ownsRow_putObj HRow.out _ HK.out rfl)
  case stop =>
    rintro D c pre W _ _ h _
    exact h.elim

end Go.Proofs.Ytilkcojfencggaa
