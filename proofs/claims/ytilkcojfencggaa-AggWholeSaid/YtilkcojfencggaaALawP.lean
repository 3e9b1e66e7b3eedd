/-
  What the windows come to: plain. (For AggParts and AggWhole.)
-/
import Derived.Test.YtilkcojfencggaaAIter
import Derived.Laws.Bits128
set_option linter.unusedSimpArgs false
set_option linter.unusedVariables false
namespace Go.Proofs.Ytilkcojfencggaa
open Go.RowKit

theorem and1023 (n : Int) : bits .and .i64 n 1023 = n % 1024 := by
  show IntKind.i64.wrap ((BitVec.ofInt 64 n &&& BitVec.ofInt 64 (1023 : Int)).toNat : Int) = _
  have h1 : (BitVec.ofInt 64 (1023 : Int)).toNat = 1023 := by decide
  rw [BitVec.toNat_and, h1, show (1023 : Nat) = 2 ^ 10 - 1 from rfl, Nat.and_two_pow_sub_one_eq_mod]
  have h2 : ((BitVec.ofInt 64 n).toNat : Int) = n % 18446744073709551616 := by
    rw [BitVec.toNat_ofInt]
    have : (0 : Int) ≤ n % 18446744073709551616 := Int.emod_nonneg _ (by omega)
    show (((n % ((2 ^ 64 : Nat) : Int)).toNat : Nat) : Int) = _
    omega
  rw [IntKind.wrap_i64]
  omega
theorem and65535 (n : Int) : bits .and .i64 n 65535 = n % 65536 := by
  show IntKind.i64.wrap ((BitVec.ofInt 64 n &&& BitVec.ofInt 64 (65535 : Int)).toNat : Int) = _
  have h1 : (BitVec.ofInt 64 (65535 : Int)).toNat = 65535 := by decide
  rw [BitVec.toNat_and, h1, show (65535 : Nat) = 2 ^ 16 - 1 from rfl, Nat.and_two_pow_sub_one_eq_mod]
  have h2 : ((BitVec.ofInt 64 n).toNat : Int) = n % 18446744073709551616 := by
    rw [BitVec.toNat_ofInt]
    have : (0 : Int) ≤ n % 18446744073709551616 := Int.emod_nonneg _ (by omega)
    show (((n % ((2 ^ 64 : Nat) : Int)).toNat : Nat) : Int) = _
    omega
  rw [IntKind.wrap_i64]
  omega

section
variable (f st : Int)
theorem winOf_alike (g : List Smp) : Alike (winOf f st g) (totL g) := by
  cases g with
  | nil => exact Alike.refl _
  | cons x r => exact ⟨rfl, rfl, rfl, rfl⟩
theorem Alike.trans {a b c : Win} (h : Alike a b) (g : Alike b c) : Alike a c := ⟨h.1.trans g.1, h.2.1.trans g.2.1, h.2.2.1.trans g.2.2.1, h.2.2.2.trans g.2.2.2⟩
theorem Alike.symm {a b : Win} (h : Alike a b) : Alike b a := ⟨h.1.symm, h.2.1.symm, h.2.2.1.symm, h.2.2.2.symm⟩

/-- The windows, joined, are the total. -/
theorem fold_total : ∀ (n : Nat) (L pre : List Smp) (acc : Win), L.length ≤ n → pre.length + L.length ≤ 1000000 → Alike acc (totL pre) → Alike ((winsL f st L).foldl joinW acc) (totL (pre ++ L)) := by
  intro n
  induction n with
  | zero =>
    intro L pre acc hn _ h
    obtain rfl : L = [] := List.eq_nil_of_length_eq_zero (by omega)
    rw [winsL_nil, List.append_nil]; exact h
  | succ n ih =>
    intro L pre acc hn hl h
    cases L with
    | nil => rw [winsL_nil, List.append_nil]; exact h
    | cons x r =>
      have hsp := List.takeWhile_append_dropWhile (p := fun y => keyOf f st y == keyOf f st x) (l := r)
      have hdl := drop_len (fun y => keyOf f st y == keyOf f st x) r
      rw [winsL_cons]
      generalize (r.takeWhile fun y => keyOf f st y == keyOf f st x) = g at *
      generalize (r.dropWhile fun y => keyOf f st y == keyOf f st x) = s at *
      subst hsp
      simp only [List.length_cons, List.length_append] at hn hl hdl
      rw [List.foldl_cons]
      have h1 : Alike (joinW acc (winOf f st (x :: g))) (totL (pre ++ x :: g)) :=
        (Alike.join h (winOf_alike f st (x :: g))).trans (tot_join pre (x :: g) (by simp; omega)).symm
      have := ih s (pre ++ x :: g) _ (by omega) (by simp; omega) h1
      rwa [List.append_assoc] at this
theorem wins_total {L : List Smp} (hl : L.length ≤ 1000000) : Alike ((winsL f st L).foldl joinW w0) (totL L) := by
  have := fold_total f st L.length L [] w0 (Nat.le_refl _) (by simpa using hl) (Alike.refl _)
  simpa using this

/-- Each window begins where one of the samples' windows begins, and has samples. -/
theorem wins_mem : ∀ (n : Nat) (L : List Smp), L.length ≤ n → ∀ a ∈ winsL f st L, 1 ≤ a.c ∧ ∃ x ∈ L, a.f = f + keyOf f st x * st := by
  intro n
  induction n with
  | zero =>
    intro L hn a ha
    obtain rfl : L = [] := List.eq_nil_of_length_eq_zero (by omega)
    rw [winsL_nil] at ha; cases ha
  | succ n ih =>
    intro L hn a ha
    cases L with
    | nil => rw [winsL_nil] at ha; cases ha
    | cons x r =>
      have hdl := drop_len (fun y => keyOf f st y == keyOf f st x) r
      have hsub := List.dropWhile_sublist (fun y => keyOf f st y == keyOf f st x) (l := r)
      rw [winsL_cons] at ha
      simp only [List.length_cons] at hn
      rcases List.mem_cons.1 ha with e | e
      · rw [e]
        refine ⟨?_, x, List.mem_cons_self .., rfl⟩
        show (1 : Int) ≤ (totL (x :: _)).c
        rw [totL_c]; simp only [List.length_cons]; omega
      · obtain ⟨h1, y, hy, h2⟩ := ih _ (by omega) a e
        exact ⟨h1, y, List.mem_cons_of_mem _ (hsub.subset hy), h2⟩
/-- The windows rise. -/
theorem wins_rise (hst : 1 ≤ st) : ∀ (n : Nat) (L : List Smp), L.length ≤ n → Up L → (winsL f st L).Pairwise fun a b => a.f < b.f := by
  intro n
  induction n with
  | zero =>
    intro L hn _
    obtain rfl : L = [] := List.eq_nil_of_length_eq_zero (by omega)
    rw [winsL_nil]; exact List.Pairwise.nil
  | succ n ih =>
    intro L hn hu
    cases L with
    | nil => rw [winsL_nil]; exact List.Pairwise.nil
    | cons x r =>
      have hdl := drop_len (fun y => keyOf f st y == keyOf f st x) r
      have hsub := List.dropWhile_sublist (fun y => keyOf f st y == keyOf f st x) (l := r)
      have hafter := run_after f st hst hu
      rw [winsL_cons]
      simp only [List.length_cons] at hn
      refine List.Pairwise.cons (fun a ha => ?_) (ih _ (by omega) (List.Pairwise.sublist hsub (List.pairwise_cons.1 hu).2))
      obtain ⟨_, y, hy, h2⟩ := wins_mem f st _ _ (Nat.le_refl _) a ha
      rw [h2]
      exact mul_lt_mul_st f st hst (hafter y hy)
end

theorem tw_all {p : Smp → Bool} {r : List Smp} (h : ∀ y ∈ r, p y = true) : r.takeWhile p = r := by
  induction r with
  | nil => rfl
  | cons x s ih =>
    rw [List.takeWhile_cons, if_pos (h x (List.mem_cons_self ..)), ih fun y hy => h y (List.mem_cons_of_mem _ hy)]
/-- One window alone: as wide as the range. -/
theorem one_win {f n : Int} {L : List Smp} (hk : ∀ x ∈ L, keyOf f n x = 0) : winsL f n L = match L with | [] => [] | _ :: _ => [{ totL L with f := f }] := by
  cases L with
  | nil => exact winsL_nil f n
  | cons x r =>
    have hx := hk x (List.mem_cons_self ..)
    have ht : (r.takeWhile fun y => keyOf f n y == keyOf f n x) = r := by
      refine tw_all fun y hy => ?_
      rw [hk y (List.mem_cons_of_mem _ hy), hx]; rfl
    have hd : (r.dropWhile fun y => keyOf f n y == keyOf f n x) = [] := by
      have := List.takeWhile_append_dropWhile (p := fun y => keyOf f n y == keyOf f n x) (l := r)
      have h := congrArg List.length this
      rw [List.length_append, ht] at h
      exact List.eq_nil_of_length_eq_zero (by omega)
    rw [winsL_cons, ht, hd, winsL_nil]
    have hx' : (x.1 - f) / n = 0 := hx
    simp [winOf, hx']
theorem two_wins {f h : Int} (hh : 1 ≤ h) {L : List Smp} (hu : Up L) (hk : ∀ x ∈ L, keyOf f h x = 0 ∨ keyOf f h x = 1) : (winsL f h L).length ≤ 2 := by
  have hr := wins_rise f h hh L.length L (Nat.le_refl _) hu
  have hm := wins_mem f h L.length L (Nat.le_refl _)
  generalize winsL f h L = ws at *
  match ws, hr, hm with
  | [], _, _ => simp
  | [_], _, _ => simp
  | [_, _], _, _ => simp
  | a :: b :: c :: t, hr, hm =>
    exfalso
    have h1 := (List.pairwise_cons.1 hr).1 b (by simp)
    have h2 := (List.pairwise_cons.1 (List.pairwise_cons.1 hr).2).1 c (by simp)
    have key : ∀ w ∈ a :: b :: c :: t, w.f = f ∨ w.f = f + h := by
      intro w hw
      obtain ⟨_, x, hx, e⟩ := hm w hw
      rcases hk x hx with e2 | e2
      · left; rw [e, e2]; omega
      · right; rw [e, e2]; omega
    have k1 := key a (by simp)
    have k2 := key b (by simp)
    have k3 := key c (by simp)
    omega

end Go.Proofs.Ytilkcojfencggaa
