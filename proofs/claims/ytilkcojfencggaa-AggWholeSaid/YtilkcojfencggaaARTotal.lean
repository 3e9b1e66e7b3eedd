/-
  strandlineref14.Total.
-/
import Derived.Test.YtilkcojfencggaaATotal
set_option linter.unusedSimpArgs false
set_option linter.unusedVariables false
namespace Go.Proofs.Ytilkcojfencggaa
open Go.RowKit

theorem ret_rwin {fn : Func} {p : Tmp} (h : fn.results = #[.cell p 33]) (tmps : Array Value) (w : World) (g : Nat) (a b c d e : Value)
    (hp : tmps.getD p undef = .pointer (some ⟨g, 0, none⟩)) (hg : w.heap[g]? = some (.cells #[a, b, c, d, e] 33 (0, 0))) :
    (results fn tmps).run Try.prog w = .ok (.agg #[a, b, c, d, e]) w :=
  results_cell_row h tmps w g _ _ _ _ hp hg Try.underlying33 rfl (by kernel_rfl)


/-- A box of a window of the document's. -/
def RBox (w : World) (b : Nat) (x : Win) : Prop := w.heap[b]? = some (.cells #[.int .i64 x.f, .int .i64 x.c, .int .i64 x.s, .int .i64 x.mn, .int .i64 x.mx] 33 (0, 0))

theorem RBox.cells {w : World} {b : Nat} {x : Win} (h : RBox w b x) : w.cell? ⟨b, 0, none⟩ = some (.int .i64 x.f) ∧ w.cell? ⟨b, 1, none⟩ = some (.int .i64 x.c) ∧ w.cell? ⟨b, 2, none⟩ = some (.int .i64 x.s) ∧ w.cell? ⟨b, 3, none⟩ = some (.int .i64 x.mn) ∧ w.cell? ⟨b, 4, none⟩ = some (.int .i64 x.mx) := by
  refine ⟨?_, ?_, ?_, ?_, ?_⟩ <;> rw [cell_of_row w b _ _ _ _ h] <;> rfl
theorem RBox.below {w w' : World} {b : Nat} {x : Win} (h : RBox w b x) (hb : Below w.heap.size w w') : RBox w' b x :=
  (hb.block b (Array.getElem?_eq_some_iff.1 h).1).trans h

theorem RBox.frozen {w : World} {b : Nat} {x : Win} (h : RBox w b x) : w.frozen? ⟨b, 0, none⟩ = false ∧ w.frozen? ⟨b, 1, none⟩ = false ∧ w.frozen? ⟨b, 2, none⟩ = false ∧ w.frozen? ⟨b, 3, none⟩ = false ∧ w.frozen? ⟨b, 4, none⟩ = false := by
  unfold RBox at h
  refine ⟨?_, ?_, ?_, ?_, ?_⟩ <;> simp [World.frozen?, h]
theorem RBox.other {w : World} {b c j : Nat} {x : Win} {v : Value} (h : RBox w c x) (hne : c ≠ b) : RBox (w.setCell ⟨b, j, none⟩ v) c x := by
  unfold RBox; rw [heap_other hne]; exact h

theorem RBox.set2 {w : World} {b : Nat} {x : Win} (h : RBox w b x) (a : Int) : RBox (w.setCell ⟨b, 2, none⟩ (.int .i64 a)) b { x with s := a } := by
  unfold RBox; rw [heap_set h]; rfl
theorem RBox.set3 {w : World} {b : Nat} {x : Win} (h : RBox w b x) (a : Int) : RBox (w.setCell ⟨b, 3, none⟩ (.int .i64 a)) b { x with mn := a } := by
  unfold RBox; rw [heap_set h]; rfl
theorem RBox.set4 {w : World} {b : Nat} {x : Win} (h : RBox w b x) (a : Int) : RBox (w.setCell ⟨b, 4, none⟩ (.int .i64 a)) b { x with mx := a } := by
  unfold RBox; rw [heap_set h]; rfl
/-- What has come behind k rounds. -/
def refT (x : Smp) (n : Nat) (l : List Smp) : Win := ⟨x.1, n, wrap64 (sumV l), minF x.2 l, maxF x.2 l⟩
theorem refT_snoc (x : Smp) (n : Nat) (l : List Smp) (y : Smp) : refT x n (l ++ [y]) = ⟨(refT x n l).f, (refT x n l).c, wrap64 ((refT x n l).s + y.2), min (refT x n l).mn y.2, max (refT x n l).mx y.2⟩ := by
  simp only [refT, sumV_app, wrap64_addl]
  simp [minF, maxF, sumV]
theorem refT_nil (x : Smp) (n : Nat) : refT x n [] = ⟨x.1, n, 0, x.2, x.2⟩ := by
  simp only [refT, sumV, minF, maxF, List.map_nil, List.sum_nil, List.foldl_nil]
  rw [IntWalk.wrap64_in _ (by omega)]
theorem refT_all (x : Smp) (r : List Smp) : refT x (r.length + 1) (x :: r) = totL (x :: r) := by
  simp [refT, totL, sumV, minF, maxF]

def T3 (w W : World) (y : Win) : Prop := RBox W w.heap.size w0 ∧ RBox W (w.heap.size + 1) y ∧ Below w.heap.size w W
theorem T3.s {w W : World} {y : Win} (h : T3 w W y) (a : Int) : T3 w (W.setCell ⟨w.heap.size + 1, 2, none⟩ (.int .i64 a)).drew ⟨y.f, y.c, a, y.mn, y.mx⟩ :=
  ⟨h.1.other (by omega), h.2.1.set2 a, (h.2.2.setCell (p := ⟨_, 2, none⟩) (by simp) _).drew⟩
theorem T3.mn {w W : World} {y : Win} (h : T3 w W y) (a : Int) : T3 w (W.setCell ⟨w.heap.size + 1, 3, none⟩ (.int .i64 a)).drew ⟨y.f, y.c, y.s, a, y.mx⟩ :=
  ⟨h.1.other (by omega), h.2.1.set3 a, (h.2.2.setCell (p := ⟨_, 3, none⟩) (by simp) _).drew⟩
theorem T3.mx {w W : World} {y : Win} (h : T3 w W y) (a : Int) : T3 w (W.setCell ⟨w.heap.size + 1, 4, none⟩ (.int .i64 a)).drew ⟨y.f, y.c, y.s, y.mn, a⟩ :=
  ⟨h.1.other (by omega), h.2.1.set4 a, (h.2.2.setCell (p := ⟨_, 4, none⟩) (by simp) _).drew⟩
theorem RBox.put {w : World} {b : Nat} {x : Win} (h : RBox w b x) (y : Win) :
    RBox (((((w.setCell ⟨b, 0, none⟩ (.int .i64 y.f)).setCell ⟨b, 1, none⟩ (.int .i64 y.c)).setCell ⟨b, 2, none⟩ (.int .i64 y.s)).setCell ⟨b, 3, none⟩ (.int .i64 y.mn)).setCell ⟨b, 4, none⟩ (.int .i64 y.mx)) b y := by
  unfold RBox
  rw [heap_set (heap_set (heap_set (heap_set (heap_set h))))]
  rfl

set_option maxRecDepth 100000 in
set_option maxHeartbeats 1000000 in
theorem refTotal_any (v : Value) (ls : List Smp) (w : World) (hv : Samples w v ls) :
    Calls Try.prog 11 #[v] w fun e w' => e = .returned (winV (totL ls)) ∧ Below w.heap.size w w' := by
  have HV := Lib.hid hv
  obtain ⟨a, cap, rfl, h1, h2, -⟩ := hv
  cases ls with
  | nil =>
    go_enter Try.func11, Try.ntmps11
    go_wp2_with fail
    refine bodyPost_ret (ret_rwin rfl _ _ w.heap.size _ _ _ _ _ rfl (heap_alloc_new ..)) rfl ?_
    exact ⟨rfl, (Below.refl _ _).alloc (Nat.le_refl _) _⟩
  | cons x r =>
    have HR := Lib.hid (refT_all x r)
    have HV0 := HV
    obtain ⟨b, off, rfl, hb, hc1, hc2⟩ := HV.out.at_ (i := 0) (by simp)
    have hlen : (x :: r).length = r.length + 1 := rfl
    have hx1 : ((x :: r).getD 0 (0, 0)).1 = x.1 := rfl
    have hx2 : ((x :: r).getD 0 (0, 0)).2 = x.2 := rfl
    simp only [Nat.zero_mul, Nat.add_zero] at hc1 hc2
    rw [hx1] at hc1
    rw [hx2] at hc2
    have hpos : (0 : Int) < ((x :: r).length : Int) := by rw [hlen]; omega
    have hposN : 0 < (x :: r).length := by rw [hlen]; omega
    generalize hls : x :: r = ls at *
    clear hx1 hx2
    rw [← hlen] at HR
    have HR2 : Hid (refT x ls.length ls = totL ls) := HR
    clear HR hlen
    generalize hn : ls.length = n at *
    go_enter Try.func11, Try.ntmps11
    go_wp2_with fail
    have hn1 := World.new_ne w ⟨b, off, none⟩ hc1
    have hn2 := World.new_ne w ⟨b, off + 1, none⟩ hc2
    go_region_held3 (fun w' => w'.cell? ⟨b, off, none⟩ = some (.int .i64 x.1) ∧ w'.cell? ⟨b, off + 1, none⟩ = some (.int .i64 x.2)) (go_keep) (fail)
    go_wp2_with fail
    have HS := Lib.hid (show T3 w (((w.alloc (.cells #[.int .i64 0, .int .i64 0, .int .i64 0, .int .i64 0, .int .i64 0] 33)).alloc (.cells #[.int .i64 x.1, .int .i64 n, .int .i64 0, .int .i64 x.2, .int .i64 x.2] 33)).drew) (refT x n []) by
      rw [refT_nil]
      exact ⟨((Below.refl _ _).alloc (Nat.le_refl _) _ : Below (w.alloc _).heap.size (w.alloc _) _).block _ (by simp) |>.trans (heap_alloc_new ..), by have := heap_alloc_new (w.alloc (.cells #[.int .i64 0, .int .i64 0, .int .i64 0, .int .i64 0, .int .i64 0] 33)) (.cells #[.int .i64 x.1, .int .i64 n, .int .i64 0, .int .i64 x.2, .int .i64 x.2] 33); rw [World.size_alloc] at this; exact this, (((Below.refl _ _).alloc (Nat.le_refl _) _).alloc (by simp) _).drew⟩)
    go_loopw [4] (fun i wr => ∃ k : Nat, k ≤ n ∧ i = .int .i64 k ∧ T3 w wr (refT x n (ls.take k)))
      (fun i wr => n - (intOf i).toNat)
    case atStart => exact ⟨0, Nat.zero_le _, rfl, HS.out⟩
    case round =>
      obtain ⟨k, hk, rfl, hT⟩ := hrel
      have HB := Lib.hid hT
      clear hT hn1 hn2 HS
      by_cases hlt : k < n
      · have HD := Lib.hid (fun W (hB : Below w.heap.size w W) => (HV.out.below hB).at_ (i := k) (by omega))
        have HT := Lib.hid (refT_snoc x n (ls.take k) (ls.getD k (0, 0)))
        rw [← getD_take_snoc (by omega)] at HT
        generalize (ls.getD k (0, 0)).1 = t at *
        generalize (ls.getD k (0, 0)).2 = u at *
        generalize refT x n (ls.take k) = y at *
        obtain ⟨y1, y2, y3, y4, y5⟩ := y
        have hne : w.heap.size + 1 ≠ b := by omega
        have hne' : b ≠ w.heap.size + 1 := by omega
        obtain ⟨b', off', hbb, -, hd1, hd2⟩ := HD.out _ HB.out.2.2
        obtain ⟨rfl, rfl⟩ : b = b' ∧ off = off' := by simpa using hbb
        clear hbb
        obtain ⟨g0, g1, g2, g3, g4⟩ := HB.out.2.1.cells
        obtain ⟨q0, q1, q2, q3, q4⟩ := HB.out.2.1.frozen
        go_wp2_with fail
        go_region
        go_wp2_with fail
        have HB1 := Lib.hid (HB.out.s (wrap64 (y3 + u)))
        clear hd1 hd2 g0 g1 g2 g3 g4 q0 q1 q2 q3 q4
        generalize (wr.setCell ⟨w.heap.size + 1, 2, none⟩ (.int .i64 (wrap64 (y3 + u)))).drew = wr1 at HB1 ⊢
        obtain ⟨b', off', hbb, -, hd1, hd2⟩ := HD.out _ HB1.out.2.2
        obtain ⟨rfl, rfl⟩ : b = b' ∧ off = off' := by simpa using hbb
        clear hbb
        obtain ⟨g0, g1, g2, g3, g4⟩ := HB1.out.2.1.cells
        obtain ⟨q0, q1, q2, q3, q4⟩ := HB1.out.2.1.frozen
        go_region
        go_wp2_with fail
        have HB2 := Lib.hid (HB1.out.mn (min y4 u))
        clear hd1 hd2 g0 g1 g2 g3 g4 q0 q1 q2 q3 q4
        generalize (wr1.setCell ⟨w.heap.size + 1, 3, none⟩ (.int .i64 (min y4 u))).drew = wr2 at HB2 ⊢
        obtain ⟨b', off', hbb, -, hd1, hd2⟩ := HD.out _ HB2.out.2.2
        obtain ⟨rfl, rfl⟩ : b = b' ∧ off = off' := by simpa using hbb
        clear hbb
        obtain ⟨g0, g1, g2, g3, g4⟩ := HB2.out.2.1.cells
        obtain ⟨q0, q1, q2, q3, q4⟩ := HB2.out.2.1.frozen
        go_region
        go_wp2_with fail
        have HB3 := Lib.hid (HB2.out.mx (max y5 u))
        clear hd1 hd2 g0 g1 g2 g3 g4 q0 q1 q2 q3 q4
        go_roundw
        case rel => exact ⟨k + 1, by omega, by go_num, by rw [HT.out]; exact HB3.out⟩
        case measure => simp [intOf]; omega
      · have hke : k = n := by omega
        have HE : refT x n (ls.take k) = totL ls := by rw [hke, ← hn, List.take_of_length_le (Nat.le_refl _), hn]; exact HR2.out
        rw [HE] at HB
        clear HE
        obtain ⟨g0, g1, g2, g3, g4⟩ := HB.out.2.1.cells
        obtain ⟨r0, r1, r2, r3, r4⟩ := HB.out.1.cells
        obtain ⟨q0, q1, q2, q3, q4⟩ := HB.out.1.frozen
        go_wp2_with fail
        refine bodyPost_ret (ret_rwin rfl _ _ w.heap.size _ _ _ _ _ rfl (HB.out.1.put (totL ls))) rfl ?_
        exact ⟨rfl, below_put HB.out.2.2 (Nat.le_refl _) ..⟩

end Go.Proofs.Ytilkcojfencggaa
