/-
  Totals, joins and runs of samples: plain.
-/
import Derived.Test.YtilkcojfencggaaASmp
set_option linter.unusedSimpArgs false
set_option linter.unusedVariables false
namespace Go.Proofs.Ytilkcojfencggaa
open Go.RowKit

def sumV (l : List Smp) : Int := (l.map (·.2)).sum
def minF (m : Int) (l : List Smp) : Int := l.foldl (fun m y => min m y.2) m
def maxF (m : Int) (l : List Smp) : Int := l.foldl (fun m y => max m y.2) m
def totL : List Smp → Win
  | [] => w0
  | x :: r => ⟨x.1, (r.length : Int) + 1, wrap64 (x.2 + sumV r), minF x.2 r, maxF x.2 r⟩
/-- The numbers are int64s. -/
def WfS (l : List Smp) : Prop := ∀ x ∈ l, (-9223372036854775808 ≤ x.1 ∧ x.1 ≤ 9223372036854775807) ∧ (-9223372036854775808 ≤ x.2 ∧ x.2 ≤ 9223372036854775807)

theorem wrap64_addl (a b : Int) : wrap64 (wrap64 a + b) = wrap64 (a + b) := by unfold wrap64; omega
theorem wrap64_addr (a b : Int) : wrap64 (a + wrap64 b) = wrap64 (a + b) := by unfold wrap64; omega
theorem sumV_app (a b : List Smp) : sumV (a ++ b) = sumV a + sumV b := by simp [sumV]
theorem minF_min (l : List Smp) : ∀ a b : Int, minF (min a b) l = min a (minF b l) := by
  induction l with
  | nil => intro a b; rfl
  | cons x r ih => intro a b; show minF (min (min a b) x.2) r = min a (minF (min b x.2) r); rw [← ih, Int.min_assoc]
theorem maxF_max (l : List Smp) : ∀ a b : Int, maxF (max a b) l = max a (maxF b l) := by
  induction l with
  | nil => intro a b; rfl
  | cons x r ih => intro a b; show maxF (max (max a b) x.2) r = max a (maxF (max b x.2) r); rw [← ih, Int.max_assoc]

/-- Windows that are the same but for the first time. -/
def Alike (a b : Win) : Prop := a.c = b.c ∧ a.s = b.s ∧ a.mn = b.mn ∧ a.mx = b.mx
theorem Alike.refl (a : Win) : Alike a a := ⟨rfl, rfl, rfl, rfl⟩
theorem Alike.join {a a' b b' : Win} (h : Alike a a') (g : Alike b b') : Alike (joinW a b) (joinW a' b') := by
  obtain ⟨h1, h2, h3, h4⟩ := h
  obtain ⟨g1, g2, g3, g4⟩ := g
  unfold joinW
  rw [h1, g1]
  split
  · exact ⟨g1, g2, g3, g4⟩
  · split
    · exact ⟨h1, h2, h3, h4⟩
    · exact ⟨rfl, by simp only [h2, g2], by simp only [h3, g3], by simp only [h4, g4]⟩
theorem totL_c (l : List Smp) : (totL l).c = l.length := by cases l <;> simp [totL, w0]
theorem joinW_pos {a b : Win} (ha : a.c ≠ 0) (hb : b.c ≠ 0) : joinW a b = ⟨min a.f b.f, wrap64 (a.c + b.c), wrap64 (a.s + b.s), min a.mn b.mn, max a.mx b.mx⟩ := by
  unfold joinW; rw [if_neg ha, if_neg hb]
theorem joinW_r0 {a b : Win} (ha : a.c ≠ 0) (hb : b.c = 0) : joinW a b = a := by
  unfold joinW; rw [if_neg ha, if_pos hb]
theorem joinW_l0 {a b : Win} (ha : a.c = 0) : joinW a b = b := by
  unfold joinW; rw [if_pos ha]
theorem tot_join (a b : List Smp) (h : a.length + b.length ≤ 1000000000000) : Alike (totL (a ++ b)) (joinW (totL a) (totL b)) := by
  cases a with
  | nil => rw [joinW_l0 rfl]; exact Alike.refl _
  | cons x r =>
    have hx : (totL (x :: r)).c ≠ 0 := by rw [totL_c]; simp; omega
    cases b with
    | nil => rw [joinW_r0 hx rfl, List.append_nil]; exact Alike.refl _
    | cons y s =>
      have hy : (totL (y :: s)).c ≠ 0 := by rw [totL_c]; simp; omega
      rw [joinW_pos hx hy]
      simp only [List.length_cons] at h
      refine ⟨?_, ?_, ?_, ?_⟩
      · simp only [totL_c, List.length_append, List.length_cons]
        unfold wrap64; omega
      · show wrap64 (x.2 + sumV (r ++ y :: s)) = wrap64 (wrap64 (x.2 + sumV r) + wrap64 (y.2 + sumV s))
        rw [wrap64_addl, wrap64_addr, sumV_app]
        have : sumV (y :: s) = y.2 + sumV s := by simp [sumV]
        rw [this, Int.add_assoc]
      · show minF x.2 (r ++ y :: s) = min (minF x.2 r) (minF y.2 s)
        rw [show minF x.2 (r ++ y :: s) = minF (min (minF x.2 r) y.2) s by simp [minF], minF_min]
      · show maxF x.2 (r ++ y :: s) = max (maxF x.2 r) (maxF y.2 s)
        rw [show maxF x.2 (r ++ y :: s) = maxF (max (maxF x.2 r) y.2) s by simp [maxF], maxF_max]
theorem tot_one (x : Smp) (h : WfS [x]) : totL [x] = ofW x := by
  have := (h x (List.mem_singleton.2 rfl)).2
  simp only [totL, ofW, sumV, List.map_nil, List.sum_nil, Int.add_zero, List.length_nil]
  rw [IntWalk.wrap64_in _ (by omega)]; rfl
/-- One sample more. -/
theorem tot_snoc (l : List Smp) (x : Smp) (h : WfS (l ++ [x])) (hl : l.length ≤ 1000000) :
    totL (l ++ [x]) = { joinW (totL l) (ofW x) with f := if (totL l).c = 0 then x.1 else (totL l).f } := by
  have hx : WfS [x] := fun y hy => h y (List.mem_append_right _ hy)
  have ha := tot_join l [x] (by simp; omega)
  rw [tot_one x hx] at ha
  obtain ⟨h1, h2, h3, h4⟩ := ha
  have hf : (totL (l ++ [x])).f = if (totL l).c = 0 then x.1 else (totL l).f := by
    rw [totL_c]
    cases l with
    | nil => rfl
    | cons y r => rw [if_neg (by simp; omega)]; rfl
  generalize totL (l ++ [x]) = u at *
  obtain ⟨u1, u2, u3, u4, u5⟩ := u
  simp only at h1 h2 h3 h4 hf
  simp only [h1, h2, h3, h4, hf]

/-! ### Runs -/
theorem drop_len (p : Smp → Bool) (r : List Smp) : (r.dropWhile p).length < r.length + 1 := by
  have := List.takeWhile_append_dropWhile (p := p) (l := r)
  have h := congrArg List.length this
  rw [List.length_append] at h; omega
def runs (key : Smp → Int) : List Smp → List (List Smp)
  | [] => []
  | x :: r => (x :: r.takeWhile fun y => key y == key x) :: runs key (r.dropWhile fun y => key y == key x)
  termination_by l => l.length
  decreasing_by simp only [List.length_cons]; exact drop_len _ _

theorem runs_nil (key : Smp → Int) : runs key [] = [] := by rw [runs]
theorem runs_cons (key : Smp → Int) (x : Smp) (r : List Smp) : runs key (x :: r) = (x :: r.takeWhile fun y => key y == key x) :: runs key (r.dropWhile fun y => key y == key x) := by rw [runs]

/-- The window of a run. -/
def winOf (f st : Int) : List Smp → Win
  | [] => w0
  | x :: r => { totL (x :: r) with f := f + (x.1 - f) / st * st }
def keyOf (f st : Int) (x : Smp) : Int := (x.1 - f) / st
def winsL (f st : Int) (l : List Smp) : List Win := (runs (keyOf f st) l).map (winOf f st)
def inB (f t : Int) (x : Smp) : Bool := decide (f ≤ x.1) && decide (x.1 < t)
def riseB : List Smp → Bool
  | [] => true
  | x :: r => (match r with | [] => true | y :: _ => decide (x.1 < y.1)) && riseB r
def argB (l : List Smp) (f t st : Int) : Bool := decide (f < 0) || (decide (t ≤ f) || (decide (1099511627776 < t) || (decide (st < 1) || !riseB l)))

theorem run_len {p : Smp → Bool} (r : List Smp) : (r.takeWhile p).length ≤ r.length := by
  have := List.takeWhile_append_dropWhile (p := p) (l := r)
  have h := congrArg List.length this
  rw [List.length_append] at h; omega
theorem drop_run {p : Smp → Bool} (r : List Smp) : r.drop (r.takeWhile p).length = r.dropWhile p := by
  conv => lhs; arg 2; rw [← List.takeWhile_append_dropWhile (p := p) (l := r)]
  rw [List.drop_left']; rfl
theorem take_run {p : Smp → Bool} (r : List Smp) : r.take (r.takeWhile p).length = r.takeWhile p := by
  conv => lhs; arg 2; rw [← List.takeWhile_append_dropWhile (p := p) (l := r)]
  rw [List.take_left']; rfl
theorem runs_at {p : Smp → Bool} {r : List Smp} {i : Nat} (h : i < (r.takeWhile p).length) : p (r.getD i (0, 0)) = true := by
  have e : r.getD i (0, 0) = (r.takeWhile p)[i] := by
    have h2 : (r.take (r.takeWhile p).length)[i]? = r[i]? := by rw [List.getElem?_take, if_pos h]
    rw [take_run, List.getElem?_eq_getElem h] at h2
    simp only [List.getD, ← h2, Option.getD_some]
  rw [e]
  exact (List.all_eq_true.1 (List.all_takeWhile (p := p) (l := r))) _ (List.getElem_mem h)
theorem run_end {p : Smp → Bool} {r : List Smp} (h : (r.takeWhile p).length < r.length) : p (r.getD (r.takeWhile p).length (0, 0)) = false := by
  have hd := drop_run (p := p) r
  have hne : r.dropWhile p ≠ [] := by
    intro e; rw [e] at hd; have := congrArg List.length hd; simp at this; omega
  have e : r.getD (r.takeWhile p).length (0, 0) = (r.dropWhile p).head hne := by
    have : (r.drop (r.takeWhile p).length).getD 0 (0, 0) = r.getD (r.takeWhile p).length (0, 0) := by simp [List.getD, List.getElem?_drop]
    rw [← this, hd]
    generalize r.dropWhile p = s at hne
    cases s with
    | nil => exact absurd rfl hne
    | cons y t => rfl
  rw [e]
  exact List.head_dropWhile_not p hne

end Go.Proofs.Ytilkcojfencggaa
