/-
  Strings as lists of bytes, in a walk: 'bs l' is the string whose bytes are l.
-/
import Derived.Test.YtheenlomlmbjaaaGreatDoorState
import Derived.WalkSpells
import Derived.WalkLawsBesides
import Derived.Deep.DeepFit
set_option linter.unusedSimpArgs false
set_option linter.unusedVariables false
namespace Go.Proofs.YtheenlomlmbjaaaGreatDoor
open Go.RowKit

abbrev Bytes := List UInt8

def bs (l : Bytes) : ByteArray := ⟨l.toArray⟩
def byteAt (l : Bytes) (k : Nat) : UInt8 := l.getD k 0

@[go_sem] theorem bs_toList (l : Bytes) : (bs l).toList = l := by rw [ByteArray.toList_eq]; rfl
@[go_sem] theorem bs_size (l : Bytes) : (bs l).size = l.length := rfl
@[go_sem] theorem bs_append (a b : Bytes) : bs a ++ bs b = bs (a ++ b) := ByteArray.mk_append_mk a b
@[go_sem] theorem bs_extract (l : Bytes) (a b : Nat) : (bs l).extract a b = bs ((l.drop a).take (b - a)) := ByteArray.extract_mk l a b
@[go_sem] theorem bs_getElem (l : Bytes) (k : Nat) (h : k < (bs l).size) : (bs l)[k]'h = byteAt l k := by
  have h' : k < l.length := h
  show l.toArray[k] = _
  simp [byteAt, List.getD, List.getElem?_eq_getElem h']
theorem bs_of (s : ByteArray) : s = bs s.data.toList := by
  cases s with
  | mk d => simp [bs]
theorem bs_ex (s : ByteArray) : ∃ l, s = bs l := ⟨_, bs_of s⟩
@[go_sem] theorem bs_lit (l : Bytes) : ByteArray.mk l.toArray = bs l := rfl

theorem byteAt_lt {l : Bytes} {k : Nat} (h : k < l.length) : byteAt l k = l[k] := by simp [byteAt, List.getD, List.getElem?_eq_getElem h]
theorem take_byte {l : Bytes} {k : Nat} (h : k < l.length) : l.take (k + 1) = l.take k ++ [byteAt l k] := by
  rw [List.take_add_one, List.getElem?_eq_getElem h, byteAt_lt h]; rfl

def isPre (p s : Bytes) : Bool := s.take p.length == p

theorem isPre_no {p s : Bytes} (h : ¬ p.length ≤ s.length) : isPre p s = false := by
  unfold isPre
  rw [List.take_of_length_le (by omega), beq_eq_false_iff_ne]
  intro e; rw [e] at h; omega

end Go.Proofs.YtheenlomlmbjaaaGreatDoor

namespace Go.Proofs.YtheenlomlmbjaaaGreatDoor
open Go.RowKit

def uintL (n : Nat) : Bytes := if n < 128 then [UInt8.ofNat n] else UInt8.ofNat (n % 128 + 128) :: uintL (n / 128)
termination_by n
decreasing_by omega

theorem uintL_small {n : Nat} (h : n < 128) : uintL n = [UInt8.ofNat n] := by rw [uintL, if_pos h]
theorem uintL_more {n : Nat} (h : ¬ n < 128) : uintL n = UInt8.ofNat (n % 128 + 128) :: uintL (n / 128) := by rw [uintL, if_neg h]
theorem uintL_pos (n : Nat) : 0 < (uintL n).length := by
  by_cases h : n < 128
  · rw [uintL_small h]; simp
  · rw [uintL_more h]; simp
theorem uintL_len : ∀ (k n : Nat), n < 2 ^ (7 * k) → 0 < k → (uintL n).length ≤ k := by
  intro k
  induction k with
  | zero => intro n _ h; omega
  | succ m ih =>
    intro n hn _
    by_cases h : n < 128
    · rw [uintL_small h]; simp
    · rw [uintL_more h, List.length_cons]
      have e : 2 ^ (7 * (m + 1)) = 2 ^ (7 * m) * 128 := by rw [show 7 * (m + 1) = 7 * m + 7 by omega, Nat.pow_add]
      have hm : 0 < m := by
        rcases Nat.eq_zero_or_pos m with h0 | h0
        · subst h0; simp at hn; omega
        · exact h0
      have := ih (n / 128) (by rw [e] at hn; omega) hm
      omega
theorem uintL_len10 {n : Nat} (h : n < 18446744073709551616) : (uintL n).length ≤ 10 := uintL_len 10 n (Nat.lt_of_lt_of_le h (by decide)) (by decide)

def foldN (v : Int) : Nat := if 0 ≤ v then (2 * v).toNat else (-2 * v - 1).toNat
theorem foldN_lt {v : Int} (h0 : -9223372036854775808 ≤ v) (h1 : v ≤ 9223372036854775807) : foldN v < 18446744073709551616 := by
  unfold foldN; split <;> omega
theorem xor_ones (n m : Nat) (h : n < 2 ^ m) : n ^^^ (2 ^ m - 1) = 2 ^ m - 1 - n := by
  have h1 : 0 < 2 ^ m := Nat.two_pow_pos m
  apply Nat.eq_of_testBit_eq
  intro i
  rw [Nat.testBit_xor, Nat.testBit_two_pow_sub_one, show 2 ^ m - 1 - n = 2 ^ m - (n + 1) by omega, Nat.testBit_two_pow_sub_succ h]
  by_cases hi : i < m
  · simp [hi]
  · simp only [hi, decide_false, Bool.false_and, Bool.bne_false]
    exact Nat.testBit_lt_two_pow (Nat.lt_of_lt_of_le h (Nat.pow_le_pow_right (by decide) (by omega)))
theorem xor_ones64 (n : Nat) (h : n < 18446744073709551616) : n ^^^ 18446744073709551615 = 18446744073709551615 - n := xor_ones n 64 h

end Go.Proofs.YtheenlomlmbjaaaGreatDoor
