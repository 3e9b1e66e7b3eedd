/-
  Plain: bits, and how numbers stand as bits.
-/
import Derived.Test.YtheenlomlmbjaaaGreatDoorTGet
set_option linter.unusedSimpArgs false
set_option linter.unusedVariables false
namespace Go.Proofs.YtheenlomlmbjaaaGreatDoor
open Go.RowKit

def toB (n : Nat) : Nat → List Bool
  | 0 => []
  | m + 1 => n.testBit m :: toB n m
def ofB : List Bool → Nat
  | [] => 0
  | b :: l => b.toNat * 2 ^ l.length + ofB l

theorem toB_len (n : Nat) : ∀ m, (toB n m).length = m
  | 0 => rfl
  | m + 1 => by rw [toB, List.length_cons, toB_len n m]
theorem ofB_lt : ∀ l : List Bool, ofB l < 2 ^ l.length
  | [] => by simp [ofB]
  | b :: l => by
    have := ofB_lt l
    rw [ofB, List.length_cons, Nat.pow_succ]
    cases b <;> simp <;> omega
theorem ofB_app : ∀ a b : List Bool, ofB (a ++ b) = ofB a * 2 ^ b.length + ofB b
  | [], b => by simp [ofB]
  | x :: a, b => by
    rw [List.cons_append, ofB, ofB_app a b, ofB, List.length_append, Nat.pow_add, Nat.add_mul, Nat.mul_assoc]
    omega
theorem testBit_div (n m : Nat) : (n.testBit m).toNat = n / 2 ^ m % 2 := by
  rw [Nat.testBit_eq_decide_div_mod_eq]
  have : n / 2 ^ m % 2 = 0 ∨ n / 2 ^ m % 2 = 1 := by omega
  rcases this with h | h <;> simp [h]
theorem ofB_toB (n : Nat) : ∀ m, ofB (toB n m) = n % 2 ^ m
  | 0 => by simp [toB, ofB, Nat.mod_one]
  | m + 1 => by
    rw [toB, ofB, toB_len, ofB_toB n m, testBit_div, Nat.mod_pow_succ, Nat.mul_comm (2 ^ m)]
    omega
theorem toB_mod (n : Nat) : ∀ m k, m ≤ k → toB (n % 2 ^ k) m = toB n m
  | 0, _, _ => rfl
  | m + 1, k, h => by
    rw [toB, toB, toB_mod n m k (by omega), Nat.testBit_mod_two_pow]
    simp [show m < k by omega]
theorem toB_ofB : ∀ l : List Bool, toB (ofB l) l.length = l
  | [] => rfl
  | b :: l => by
    have hl := ofB_lt l
    rw [List.length_cons, toB]
    congr 1
    · rw [Nat.testBit_eq_decide_div_mod_eq, ofB, Nat.add_comm, Nat.add_mul_div_right _ _ (Nat.two_pow_pos _), Nat.div_eq_of_lt hl]
      cases b <;> simp
    · have e : ofB (b :: l) % 2 ^ l.length = ofB l := by
        rw [ofB, Nat.mul_comm, Nat.mul_add_mod, Nat.mod_eq_of_lt hl]
      have h := toB_mod (ofB (b :: l)) l.length l.length (Nat.le_refl _)
      rw [e, toB_ofB l] at h
      exact h.symm
theorem toB_join (a n k m : Nat) (hn : n < 2 ^ m) : toB (a * 2 ^ m + n) (k + m) = toB a k ++ toB n m := by
  have h : ofB (toB a k ++ toB n m) % 2 ^ (k + m) = (a * 2 ^ m + n) % 2 ^ (k + m) := by
    rw [ofB_app, ofB_toB, ofB_toB, toB_len, Nat.mod_eq_of_lt hn, Nat.add_comm k m, Nat.pow_add, Nat.mod_mul, Nat.mod_mul]
    have hp := Nat.two_pow_pos m
    have e1 : ∀ x, (x * 2 ^ m + n) % 2 ^ m = n := fun x => by rw [Nat.mul_comm, Nat.mul_add_mod, Nat.mod_eq_of_lt hn]
    have e2 : ∀ x, (x * 2 ^ m + n) / 2 ^ m = x := fun x => by rw [Nat.add_comm, Nat.add_mul_div_right _ _ hp, Nat.div_eq_of_lt hn, Nat.zero_add]
    rw [e1, e1, e2, e2, Nat.mod_mod]
  have hl : (toB a k ++ toB n m).length = k + m := by rw [List.length_append, toB_len, toB_len]
  have h2 := toB_ofB (toB a k ++ toB n m)
  rw [hl, ← toB_mod _ (k + m) (k + m) (Nat.le_refl _), h, toB_mod _ (k + m) (k + m) (Nat.le_refl _)] at h2
  exact h2
theorem toB_split (n k m : Nat) : toB n (k + m) = toB (n / 2 ^ m) k ++ toB n m := by
  have h := toB_join (n / 2 ^ m) (n % 2 ^ m) k m (Nat.mod_lt _ (Nat.two_pow_pos _))
  rw [Nat.mul_comm, Nat.div_add_mod, toB_mod n m m (Nat.le_refl _)] at h
  exact h

def bitsOf (l : Bytes) : List Bool := l.flatMap fun c => toB c.toNat 8
theorem bitsOf_len : ∀ l : Bytes, (bitsOf l).length = 8 * l.length
  | [] => rfl
  | c :: l => by
    have := bitsOf_len l
    show (toB c.toNat 8 ++ bitsOf l).length = _
    rw [List.length_append, toB_len, this, List.length_cons]; omega
theorem bitsOf_app (a b : Bytes) : bitsOf (a ++ b) = bitsOf a ++ bitsOf b := List.flatMap_append
theorem bitsOf_one (c : UInt8) : bitsOf [c] = toB c.toNat 8 := by simp [bitsOf]
def riceB (n k : Nat) : List Bool := if 24 ≤ n / 2 ^ k then List.replicate 24 true ++ toB n 64 else List.replicate (n / 2 ^ k) true ++ (false :: toB n k)
def riceC (n k : Nat) : Nat := if n / 2 ^ k < 24 then n / 2 ^ k + 1 + k else 88
theorem riceB_len (n k : Nat) : (riceB n k).length = riceC n k := by
  unfold riceB riceC
  by_cases h : 24 ≤ n / 2 ^ k
  · rw [if_pos h, if_neg (by omega)]; simp [toB_len]
  · rw [if_neg h, if_pos (by omega)]; simp [toB_len]; omega
theorem toB_ones : ∀ q, toB (2 ^ q - 1) q = List.replicate q true := by
  intro q
  have h : ∀ m, m ≤ q → toB (2 ^ q - 1) m = List.replicate m true := by
    intro m
    induction m with
    | zero => intro _; rfl
    | succ m ih =>
      intro hm
      rw [toB, ih (by omega), Nat.testBit_two_pow_sub_one]
      simp [show m < q by omega, List.replicate_succ]
  exact h q (Nat.le_refl _)
theorem toB_head (q : Nat) : toB ((2 ^ q - 1) * 2) (q + 1) = List.replicate q true ++ [false] := by
  have h := toB_join (2 ^ q - 1) 0 q 1 (by decide)
  rw [Nat.pow_one, Nat.add_zero, toB_ones] at h
  rw [h]
  rfl

def costL (l : List Nat) (k : Nat) : Nat := (l.map fun x => riceC x k).sum
theorem costL_app (a b : List Nat) (k : Nat) : costL (a ++ b) k = costL a k + costL b k := by simp [costL]
theorem riceC_le (n k : Nat) (hk : k ≤ 40) : riceC n k ≤ 88 := by unfold riceC; split <;> omega
theorem costL_le (l : List Nat) (k : Nat) (hk : k ≤ 40) : costL l k ≤ 88 * l.length := by
  induction l with
  | nil => simp [costL]
  | cons x r ih =>
    have e : costL (x :: r) k = riceC x k + costL r k := by simp [costL]
    have := riceC_le x k hk
    rw [e, List.length_cons]; omega

end Go.Proofs.YtheenlomlmbjaaaGreatDoor
