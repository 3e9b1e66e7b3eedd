/-
  AggWindows: of any samples, any range and any step the windows, and the total, are the document's, or refused as it says.
-/
import Derived.Test.YtilkcojfencggaaAWins
set_option linter.unusedSimpArgs false
set_option linter.unusedVariables false
namespace Go.Proofs.Ytilkcojfencggaa
open Go.RowKit

def errN (b : Bool) : Int := if b then 1 else 0
def wsN (ls : List Smp) (f t st : Int) : List Win := if argB ls f t st then [] else winsL f st (ls.filter (inB f t))
theorem wsN_len (ls : List Smp) (f t st : Int) : (wsN ls f t st).length ≤ ls.length := by
  unfold wsN
  split
  · simp
  · exact Nat.le_trans (winsL_len ..) (List.length_filter_le _ _)
theorem win_any (v : Value) (ls : List Smp) (f t st : Int) (w : World) (hv : Samples w v ls) (hl : ls.length ≤ 1000000) (hw : WfS ls) (hst2 : st ≤ 9223372036854775807) :
    Calls Try.prog 6 #[v, .agg #[.int .i64 f, .int .i64 t], .int .i64 st] w fun e w' => ∃ u, e = .returned (.tuple #[u, .int .i64 (errN (argB ls f t st))]) ∧ Wins w' u (wsN ls f t st) ∧ Below w.heap.size w w' := by
  cases hb : argB ls f t st with
  | true =>
    refine (win_bad v ls f t st w hv hb).mono ?_
    rintro e w' ⟨rfl, hd⟩
    exact ⟨_, rfl, by unfold wsN; rw [hb]; exact Wins.nil _, hd⟩
  | false =>
    refine (win_ok v ls f t st w hv hl hw hst2 hb).mono ?_
    rintro e w' ⟨u, rfl, hs, hd⟩
    exact ⟨u, rfl, by unfold wsN; rw [hb]; exact hs, hd⟩
theorem refWin_any (v : Value) (ls : List Smp) (f t st : Int) (w : World) (hv : Samples w v ls) (hl : ls.length ≤ 1000000) :
    Calls Try.prog 7 #[v, .agg #[.int .i64 f, .int .i64 t], .int .i64 st] w fun e w' => ∃ u, e = .returned (.tuple #[u, .int .i64 (errN (argB ls f t st))]) ∧ Wins w' u (wsN ls f t st) ∧ Below w.heap.size w w' := by
  cases hb : argB ls f t st with
  | true =>
    refine (refWin_bad v ls f t st w hv hb).mono ?_
    rintro e w' ⟨rfl, hd⟩
    exact ⟨_, rfl, by unfold wsN; rw [hb]; exact Wins.nil _, hd⟩
  | false =>
    refine (refWin_ok v ls f t st w hv hl hb).mono ?_
    rintro e w' ⟨u, rfl, hs, hd⟩
    exact ⟨u, rfl, by unfold wsN; rw [hb]; exact hs, hd⟩
theorem eql_win (x1 x2 x3 x4 x5 : Int) (w : World) : (binOp .eql 33 (.agg #[.int .i64 x1, .int .i64 x2, .int .i64 x3, .int .i64 x4, .int .i64 x5]) (.agg #[.int .i64 x1, .int .i64 x2, .int .i64 x3, .int .i64 x4, .int .i64 x5])).run Try.prog w = .ok (.bool true) w := by
  rw [run_eql_struct, eq_win]; rfl
theorem one_new (w : World) : Samples (w.alloc (.cells #[.int .i64 3, .int .i64 4] 37)) (.slice (some ⟨w.heap.size, 0, none⟩) 1 1) [(3, 4)] := by
  refine ⟨_, 1, rfl, by simp, by omega, fun _ => ⟨w.heap.size, 0, rfl, by simp, fun i hi => ?_⟩⟩
  simp at hi; subst hi
  exact ⟨by rw [World.cell?_alloc_at _ _ _ _ rfl]; rfl, by rw [World.cell?_alloc_at _ _ _ _ rfl]; rfl⟩
theorem fieldS (a b c d e : Value) (w : World) : (Instr.field 34 (.agg #[a, b, c, d, e]) 2).run Try.prog w = .ok c w := by kernel_rfl
theorem fieldC (a b c d e : Value) (w : World) : (Instr.field 34 (.agg #[a, b, c, d, e]) 1).run Try.prog w = .ok b w := by kernel_rfl
theorem one_at (w : World) (o : Obj) : Samples ((w.alloc o).alloc (.cells #[.int .i64 3, .int .i64 4] 37)) (.slice (some ⟨w.heap.size + 1, 0, none⟩) 1 1) [(3, 4)] := by
  have := one_new (w.alloc o)
  rwa [World.size_alloc] at this
theorem wf_one : WfS [(3, 4)] := fun x hx => by simp at hx; subst hx; omega
theorem tot_34 : totL [(3, 4)] = ⟨3, 1, 4, 4, 4⟩ := tot_one (3, 4) wf_one

theorem keep5 {b : Nat} {c0 c1 c2 c3 c4 : Value} {w w' : World} (h : w.cell? ⟨b, 0, none⟩ = some c0 ∧ w.cell? ⟨b, 1, none⟩ = some c1 ∧ w.cell? ⟨b, 2, none⟩ = some c2 ∧ w.cell? ⟨b, 3, none⟩ = some c3 ∧ w.cell? ⟨b, 4, none⟩ = some c4) (hb : Below w.heap.size w w') :
    w'.cell? ⟨b, 0, none⟩ = some c0 ∧ w'.cell? ⟨b, 1, none⟩ = some c1 ∧ w'.cell? ⟨b, 2, none⟩ = some c2 ∧ w'.cell? ⟨b, 3, none⟩ = some c3 ∧ w'.cell? ⟨b, 4, none⟩ = some c4 := by
  have hlt : b < w.heap.size := World.block_lt_of_cell? w _ h.1
  exact ⟨(hb.cell (p := ⟨b, 0, none⟩) hlt).trans h.1, (hb.cell (p := ⟨b, 1, none⟩) hlt).trans h.2.1, (hb.cell (p := ⟨b, 2, none⟩) hlt).trans h.2.2.1, (hb.cell (p := ⟨b, 3, none⟩) hlt).trans h.2.2.2.1, (hb.cell (p := ⟨b, 4, none⟩) hlt).trans h.2.2.2.2⟩

set_option maxRecDepth 100000 in
set_option maxHeartbeats 4000000 in
attribute [local go_sem ↓] Go.wp_at_zero Go.wp_at_succ in
theorem law1_walk (v : Value) (ls : List Smp) (f t st : Int) (w : World) (hv : Samples w v ls) (hw : WfS ls) (hst2 : st ≤ 9223372036854775807) :
    Calls Try.prog 3 #[v, .agg #[.int .i64 f, .int .i64 t], .int .i64 st] w fun e w' => e = .returned (.bool true) ∧ Below w.heap.size w w' := by
  have HV := Lib.hid hv
  have HX := Lib.hid (show RBx (w.alloc (.cells #[.int .i64 f, .int .i64 t] 24)) w.heap.size f t from heap_alloc_new ..)
  have HS := Lib.hid (((St.start w).add (fun w' => Samples w' v ls) (fun w' hb => hv.below hb)).alloc (.cells #[.int .i64 f, .int .i64 t] 24))
  have HS0 := Lib.hid (HS.out.add (fun w' => RBx w' w.heap.size f t) (fun w' hb => HX.out.below hb))
  clear HS HX
  have HW := Lib.hid hw
  obtain ⟨a, cap, rfl, h1, h2, -⟩ := hv
  clear hw
  by_cases hl : ls.length ≤ 100
  · have HWin := Lib.hid (fun w h => win_any (.slice a ls.length cap) ls f t st w h (by omega) HW.out hst2)
    have HRef := Lib.hid (fun w h => refWin_any (.slice a ls.length cap) ls f t st w h (by omega))
    have hwl : (wsN ls f t st).length ≤ 1000000 := Nat.le_trans (wsN_len ls f t st) (by omega)
    have HTh := Lib.hid (fun u w h => theirs_any u (wsN ls f t st) w h hwl)
    have HSa := Lib.hid (fun u v w h g => same_any u v (wsN ls f t st) w h g)
    have HTot := Lib.hid (fun w h => total_any (.slice a ls.length cap) ls w h HW.out (by omega))
    have HRT := Lib.hid (fun w h => refTotal_any (.slice a ls.length cap) ls w h)
    have HT1 := Lib.hid (fun w v h => total_any v [(3, 4)] w h wf_one (by simp))
    rw [tot_34] at HT1
    clear hwl
    generalize wsN ls f t st = ws at *
    generalize argB ls f t st = bb at *
    have hE : ∃ e, errN bb = e := ⟨_, rfl⟩
    obtain ⟨E, hE⟩ := hE
    rw [hE] at HWin HRef
    clear hE
    generalize totL ls = z at *
    obtain ⟨z1, z2, z3, z4, z5⟩ := z
    simp only [winV] at HTot HRT HT1
    obtain ⟨g0, g1⟩ := (HS0.out.get 0 rfl).cells
    go_enter Try.func3, Try.ntmps3
    go_wp2_with fail
    refine (HWin.out _ (HS0.out.get 1 rfl)).mono ?_
    rintro e w1 ⟨ua, rfl, hsm, hd⟩
    have HS1 := Lib.hid ((HS0.out.step hd).add (fun w' => Wins w' ua ws) (fun w' hb => hsm.below hb))
    clear hsm hd g0 g1
    obtain ⟨g0, g1⟩ := (HS1.out.get 1 rfl).cells
    go_wp2_with fail
    refine (HRef.out _ (HS1.out.get 2 rfl)).mono ?_
    rintro e w2 ⟨ub, rfl, hsm, hd⟩
    have HS2 := Lib.hid ((HS1.out.step hd).add (fun w' => Wins w' ub ws) (fun w' hb => hsm.below hb))
    clear hsm hd g0 g1
    go_wp2_with fail
    refine (HTot.out _ (HS2.out.get 3 rfl)).mono ?_
    rintro e w3 ⟨rfl, hd⟩
    have HS3 := Lib.hid ((HS2.out.step hd).alloc (.cells #[.int .i64 z1, .int .i64 z2, .int .i64 z3, .int .i64 z4, .int .i64 z5] 33))
    have HS4 := Lib.hid (((HS3.out.alloc (.cells #[.int .i64 3, .int .i64 4] 37)).add (fun w' => Samples w' (.slice (some ⟨w3.heap.size + 1, 0, none⟩) 1 1) [(3, 4)]) (fun w' hb => (one_at w3 _).below hb)).step ((Below.refl _ _).drew))
    clear hd
    have he := eql_win z1 z2 z3 z4 z5
    have hfs := fieldS
    go_wp2_with fail
    go_region_held3 (fun w' => w'.cell? ⟨w3.heap.size, 0, none⟩ = some (.int .i64 z1) ∧ w'.cell? ⟨w3.heap.size, 1, none⟩ = some (.int .i64 z2) ∧ w'.cell? ⟨w3.heap.size, 2, none⟩ = some (.int .i64 z3) ∧ w'.cell? ⟨w3.heap.size, 3, none⟩ = some (.int .i64 z4) ∧ w'.cell? ⟨w3.heap.size, 4, none⟩ = some (.int .i64 z5))
      (first | exact keep5 (by assumption) hb4 | exact keep5 (by assumption) hb3 | exact keep5 (by assumption) hb2 | exact keep5 (by assumption) hb1 | go_keep)
      (first
        | (go_at_call 10; refine (HTh.out ua _ (HS4.out.get 2 rfl)).mono ?_; rintro e w4 ⟨u4, rfl, hs4, hb1⟩)
        | (go_at_call 9; refine (HSa.out u4 ub _ hs4 ((HS4.out.step hb1).get 1 rfl)).mono ?_; rintro e w5 ⟨rfl, hb2⟩)
        | (go_at_call 11; refine (HRT.out _ (((HS4.out.step hb1).step hb2).get 4 rfl)).mono ?_; rintro e w6 ⟨rfl, hb3⟩)
        | (go_at_call 8; refine (HT1.out _ _ ((((HS4.out.step hb1).step hb2).step hb3).get 0 rfl)).mono ?_; rintro e w7 ⟨rfl, hb4⟩))
    all_goals
      (go_wp2_with fail
       go_ret
       exact ⟨rfl, ((((HS4.out.step hb1).step hb2).step hb3).step hb4).bel⟩)
  · go_enter Try.func3, Try.ntmps3
    go_wp2_with fail
    go_ret
    exact ⟨rfl, (Below.refl _ _).alloc (Nat.le_refl _) _⟩

end Go.Proofs.Ytilkcojfencggaa
