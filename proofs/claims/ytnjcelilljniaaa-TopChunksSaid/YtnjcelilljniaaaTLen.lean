/-
  Plain: delta.Encode of samples of even times takes sixty bytes at most, and one at least.
-/
import Derived.Test.YtnjcelilljniaaaTDec
namespace Go.Proofs.Ytnjcelilljniaaa

theorem bitsE_cost (a b : Nat) (l : List (Nat × Nat)) : (bitsE a b l).length = costL (l.map (·.1)) a + costL (l.map (·.2)) b := by
  induction l with
  | nil => rfl
  | cons x r ih =>
    have e : bitsE a b (x :: r) = (riceB x.1 a ++ riceB x.2 b) ++ bitsE a b r := rfl
    have e1 : costL ((x :: r).map (·.1)) a = riceC x.1 a + costL (r.map (·.1)) a := by simp [costL]
    have e2 : costL ((x :: r).map (·.2)) b = riceC x.2 b + costL (r.map (·.2)) b := by simp [costL]
    rw [e, List.length_append, List.length_append, riceB_len, riceB_len, ih, e1, e2]
    omega
theorem cost_vs (st : Nat) : ∀ m, costL ((prsL st m).map (·.2)) 0 = m
  | 0 => rfl
  | m + 1 => by
    rw [prsL_succ, List.map_append, costL_app, cost_vs st m]
    simp [costL, pr, riceC]
theorem cost_ts (st : Nat) : ∀ m, costL ((prsL st m).map (·.1)) 0 ≤ m + 87
  | 0 => by simp [prsL, costL]
  | m + 1 => by
    rw [prsL_succ, List.map_append, costL_app]
    by_cases h : m = 0
    · subst h
      have e : costL ((prsL st 0).map (·.1)) 0 = 0 := rfl
      have := riceC_le (2 * st) 0 (by omega)
      rw [e]
      simp [costL, pr]
      omega
    · have ih := cost_ts st m
      have e : costL (([pr st m] : List (Nat × Nat)).map (·.1)) 0 = 1 := by simp [costL, pr, h, riceC]
      rw [e]; omega
theorem encL_short (n st : Nat) (v : Int) (hn : n ≤ 89) (hv0 : -9223372036854775808 ≤ v) (hv1 : v ≤ 9223372036854775807) : (encL n st v).length ≤ 60 ∧ 0 < (encL n st v).length := by
  have h1 := uintL_len 1 n (by omega) (by decide)
  have h2 := uintL_len 1 0 (by decide) (by decide)
  have h3 := uintL_len10 (foldN_lt hv0 hv1)
  have p1 := uintL_pos n
  have p2 := uintL_pos 0
  unfold encL
  by_cases h0 : n = 0
  · rw [if_pos h0]; omega
  · rw [if_neg h0]
    simp only [List.length_append]
    by_cases h5 : n < 2
    · rw [if_pos h5]; simp only [List.length_nil]; omega
    · rw [if_neg h5]
      have hr : (restL n st).length ≤ 36 := by
        unfold restL
        have h6 := packed_len (packed_any (bitsE (bestL (tsL st n)) (bestL (vsL st n)) (prsL st (n - 1))))
        rw [bitsE_cost] at h6
        have c1 := bestL_cost (tsL st n)
        have c2 := bestL_cost (vsL st n)
        have c3 := cost_ts st (n - 1)
        have c4 := cost_vs st (n - 1)
        have c5 : costL ((prsL st (n - 1)).map (·.1)) (bestL (tsL st n)) ≤ costL ((prsL st (n - 1)).map (·.1)) 0 := c1
        have c6 : costL ((prsL st (n - 1)).map (·.2)) (bestL (vsL st n)) ≤ costL ((prsL st (n - 1)).map (·.2)) 0 := c2
        rw [List.length_append]
        simp only [List.length_cons, List.length_nil]
        omega
      omega

end Go.Proofs.Ytnjcelilljniaaa
