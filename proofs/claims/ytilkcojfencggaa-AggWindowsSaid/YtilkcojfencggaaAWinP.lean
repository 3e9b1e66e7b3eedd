/-
  The document's windows are the runs' windows: plain.
-/
import Derived.Test.YtilkcojfencggaaARises
set_option linter.unusedSimpArgs false
set_option linter.unusedVariables false
namespace Go.Proofs.Ytilkcojfencggaa
open Go.RowKit

abbrev Up (l : List Smp) : Prop := l.Pairwise fun a b => a.1 < b.1
theorem riseB_up : ∀ l : List Smp, riseB l = true → Up l := by
  intro l
  induction l with
  | nil => intro _; exact List.Pairwise.nil
  | cons x r ih =>
    cases r with
    | nil => intro _; exact List.pairwise_singleton _ _
    | cons y s =>
      intro h
      have e : riseB (x :: y :: s) = (decide (x.1 < y.1) && riseB (y :: s)) := rfl
      rw [e, Bool.and_eq_true, decide_eq_true_eq] at h
      have hr := ih h.2
      refine List.Pairwise.cons (fun z hz => ?_) hr
      rcases List.mem_cons.1 hz with e | e
      · rw [e]; exact h.1
      · have := (List.pairwise_cons.1 hr).1 z e
        exact Int.lt_trans h.1 this
theorem up_filter {l : List Smp} (p : Smp → Bool) (h : Up l) : Up (l.filter p) := List.Pairwise.filter p h

section
variable (f st : Int)

theorem key_mono {a b : Smp} (hst : 1 ≤ st) (h : a.1 < b.1) : keyOf f st a ≤ keyOf f st b := Int.ediv_le_ediv (by omega) (by omega)

def winK (L : List Smp) (x : Smp) : Win := { totL (L.filter fun y => keyOf f st y == keyOf f st x) with f := f + keyOf f st x * st }
def stepR (L : List Smp) (out : List Win) (x : Smp) : List Win :=
  if out.isEmpty || (out.getD (out.length - 1) w0).f != (winK f st L x).f then out ++ [winK f st L x] else out

theorem last_snoc (out : List Win) (a : Win) : (out ++ [a]).getD ((out ++ [a]).length - 1) w0 = a := by
  simp [List.getD]
theorem getD_mem {out : List Win} (h : out ≠ []) : out.getD (out.length - 1) w0 ∈ out := by
  have hl : out.length - 1 < out.length := by have := List.length_pos_iff.2 h; omega
  simp only [List.getD, List.getElem?_eq_getElem hl, Option.getD_some]
  exact List.getElem_mem hl
theorem fold_same (L : List Smp) (x : Smp) : ∀ (g : List Smp) (out : List Win), (∀ y ∈ g, keyOf f st y = keyOf f st x) →
    g.foldl (stepR f st L) (out ++ [winK f st L x]) = out ++ [winK f st L x] := by
  intro g
  induction g with
  | nil => intro out _; rfl
  | cons y r ih =>
    intro out h
    have hy : winK f st L y = winK f st L x := by unfold winK; rw [h y (List.mem_cons_self ..)]
    have e : stepR f st L (out ++ [winK f st L x]) y = out ++ [winK f st L x] := by
      unfold stepR
      rw [last_snoc, hy]
      simp
    rw [List.foldl_cons, e]
    exact ih out fun z hz => h z (List.mem_cons_of_mem _ hz)

theorem filter_app_eq {pre g rest : List Smp} (p : Smp → Bool) (h1 : ∀ y ∈ pre, p y = false) (h2 : ∀ y ∈ g, p y = true) (h3 : ∀ y ∈ rest, p y = false) : (pre ++ g ++ rest).filter p = g := by
  rw [List.filter_append, List.filter_append, List.filter_eq_nil_iff.2 (fun y hy => by rw [h1 y hy]; simp), List.filter_eq_self.2 h2, List.filter_eq_nil_iff.2 (fun y hy => by rw [h3 y hy]; simp)]
  simp

theorem mem_tw {p : Smp → Bool} {r : List Smp} {y : Smp} (h : y ∈ r.takeWhile p) : p y = true := (List.all_eq_true.1 (List.all_takeWhile (p := p) (l := r))) _ h
theorem mul_lt_mul_st {a b : Int} (hst : 1 ≤ st) (h : a < b) : f + a * st < f + b * st := by
  have := Int.mul_lt_mul_of_pos_right h (show 0 < st by omega); omega

/-- What stands behind a run has greater keys. -/
theorem run_after (hst : 1 ≤ st) {x : Smp} {r : List Smp} (hu : Up (x :: r)) : ∀ z ∈ r.dropWhile (fun y => keyOf f st y == keyOf f st x), keyOf f st x < keyOf f st z := by
  intro z hz
  have hne : r.dropWhile (fun y => keyOf f st y == keyOf f st x) ≠ [] := by intro e; rw [e] at hz; cases hz
  have hhd := List.head_dropWhile_not (fun y => keyOf f st y == keyOf f st x) hne
  have hsub := List.dropWhile_sublist (fun y => keyOf f st y == keyOf f st x) (l := r)
  generalize r.dropWhile (fun y => keyOf f st y == keyOf f st x) = s at *
  cases s with
  | nil => cases hz
  | cons h t =>
    simp only [List.head_cons, beq_eq_false_iff_ne] at hhd
    have hx : ∀ y ∈ h :: t, keyOf f st x ≤ keyOf f st y := fun y hy => key_mono f st hst ((List.pairwise_cons.1 hu).1 y (hsub.subset hy))
    have h1 := hx h (List.mem_cons_self ..)
    rcases List.mem_cons.1 hz with e | e
    · rw [e]; omega
    · have hu2 : Up (h :: t) := List.Pairwise.sublist hsub (List.pairwise_cons.1 hu).2
      have := key_mono f st hst ((List.pairwise_cons.1 hu2).1 z e)
      omega

theorem fold_runs (hst : 1 ≤ st) (L : List Smp) : ∀ (n : Nat) (rest pre : List Smp) (out : List Win), rest.length ≤ n → L = pre ++ rest → Up rest →
    (∀ p ∈ pre, ∀ y ∈ rest, keyOf f st p < keyOf f st y) → (∀ o ∈ out, ∀ y ∈ rest, o.f < f + keyOf f st y * st) →
    rest.foldl (stepR f st L) out = out ++ winsL f st rest := by
  intro n
  induction n with
  | zero =>
    intro rest pre out hn _ _ _ _
    obtain rfl : rest = [] := List.eq_nil_of_length_eq_zero (by omega)
    simp [winsL, runs_nil]
  | succ n ih =>
    intro rest pre out hn hL hu hp ho
    cases rest with
    | nil => simp [winsL, runs_nil]
    | cons x r =>
      have hsp := List.takeWhile_append_dropWhile (p := fun y => keyOf f st y == keyOf f st x) (l := r)
      have hafter := run_after f st hst hu
      have hin : ∀ y ∈ r.takeWhile (fun y => keyOf f st y == keyOf f st x), keyOf f st y = keyOf f st x := fun y hy => by simpa using mem_tw hy
      have hw : winsL f st (x :: r) = winOf f st (x :: r.takeWhile fun y => keyOf f st y == keyOf f st x) :: winsL f st (r.dropWhile fun y => keyOf f st y == keyOf f st x) := by
        unfold winsL; rw [runs_cons]; rfl
      have hdl := drop_len (fun y => keyOf f st y == keyOf f st x) r
      rw [hw]
      generalize hg : (r.takeWhile fun y => keyOf f st y == keyOf f st x) = g at *
      generalize hs : (r.dropWhile fun y => keyOf f st y == keyOf f st x) = s at *
      subst hsp
      simp only [List.length_cons] at hn hdl
      have hK : winK f st L x = winOf f st (x :: g) := by
        have hfil : (L.filter fun y => keyOf f st y == keyOf f st x) = x :: g := by
          rw [hL, show pre ++ x :: (g ++ s) = pre ++ (x :: g) ++ s by simp]
          refine filter_app_eq _ (fun y hy => ?_) (fun y hy => ?_) (fun y hy => ?_)
          · have := hp y hy x (List.mem_cons_self ..)
            simp; omega
          · rcases List.mem_cons.1 hy with e | e
            · rw [e]; simp
            · simp [hin y e]
          · have := hafter y hy
            simp; omega
        unfold winK
        rw [hfil]
        rfl
      rw [List.foldl_cons, List.foldl_append]
      have hstep : stepR f st L out x = out ++ [winK f st L x] := by
        unfold stepR
        rw [if_pos]
        cases out with
        | nil => rfl
        | cons a b =>
          have := ho _ (getD_mem (List.cons_ne_nil a b)) x (List.mem_cons_self ..)
          simp only [List.isEmpty_cons, Bool.false_or, bne_iff_ne, ne_eq]
          intro e
          rw [e] at this
          simp only [winK] at this
          omega
      rw [hstep, fold_same f st L x g out hin, hK]
      have := ih s (pre ++ x :: g) (out ++ [winOf f st (x :: g)]) (by omega) (by rw [hL]; simp) (List.Pairwise.sublist (List.sublist_append_right g s) (List.pairwise_cons.1 hu).2) ?_ ?_
      · rw [this]; simp
      · intro p hp' y hy
        rcases List.mem_append.1 hp' with h | h
        · exact hp p h y (List.mem_cons_of_mem _ (List.mem_append_right _ hy))
        · have h1 := hafter y hy
          rcases List.mem_cons.1 h with e | e
          · rw [e]; exact h1
          · rw [hin p e]; exact h1
      · intro o ho' y hy
        rcases List.mem_append.1 ho' with h | h
        · exact ho o h y (List.mem_cons_of_mem _ (List.mem_append_right _ hy))
        · rw [List.mem_singleton.1 h]
          show f + (x.1 - f) / st * st < _
          exact mul_lt_mul_st f st hst (hafter y hy)

/-- The document's windows. -/
def outR (L : List Smp) (k : Nat) : List Win := (L.take k).foldl (stepR f st L) []
theorem outR_all (hst : 1 ≤ st) {L : List Smp} (hu : Up L) : outR f st L L.length = winsL f st L := by
  unfold outR
  rw [List.take_of_length_le (Nat.le_refl _), fold_runs f st hst L L.length L [] [] (Nat.le_refl _) rfl hu (fun p hp => by cases hp) (fun o ho => by cases ho), List.nil_append]
theorem outR_succ {L : List Smp} {k : Nat} (h : k < L.length) : outR f st L (k + 1) = stepR f st L (outR f st L k) (L.getD k (0, 0)) := by
  unfold outR
  rw [getD_take_snoc h, List.foldl_append]; rfl
theorem stepR_len (L : List Smp) (out : List Win) (x : Smp) : (stepR f st L out x).length ≤ out.length + 1 := by
  unfold stepR; split <;> simp
theorem outR_len (L : List Smp) : ∀ k, k ≤ L.length → (outR f st L k).length ≤ k := by
  intro k
  induction k with
  | zero => intro _; simp [outR]
  | succ k ih =>
    intro h
    rw [outR_succ f st (by omega)]
    have := stepR_len f st L (outR f st L k) (L.getD k (0, 0))
    have := ih (by omega)
    omega
end

end Go.Proofs.Ytilkcojfencggaa
