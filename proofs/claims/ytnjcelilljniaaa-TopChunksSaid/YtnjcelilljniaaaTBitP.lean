/-
  zig: GetUint, GetInt where a number stands.
-/
import Derived.Test.YtnjcelilljniaaaTZig
namespace Go.Proofs.Ytnjcelilljniaaa
open Go.RowKit

theorem drop_byte0 {s r : Bytes} {k : Nat} {c : UInt8} (h : s.drop k = c :: r) : k < s.length ∧ byteAt s k = c ∧ s.drop (k + 1) = r := by
  have hk : k < s.length := by
    rcases Nat.lt_or_ge k s.length with h' | h'
    · exact h'
    · rw [List.drop_eq_nil_of_le h'] at h; cases h
  rw [drop_byte hk] at h
  injection h with h1 h2
  exact ⟨hk, h1, h2⟩

/-- What GetUint's loop does with one more byte. -/
theorem more_bits (n i : Nat) : n % 2 ^ (7 * i) + (n / 2 ^ (7 * i) % 128) * 2 ^ (7 * i) = n % 2 ^ (7 * (i + 1)) := by
  rw [show 7 * (i + 1) = 7 * i + 7 by omega, Nat.pow_add, Nat.mod_mul, Nat.mul_comm (2 ^ (7 * i))]
theorem or_more (a b j : Nat) (ha : a < 2 ^ j) : a ||| b * 2 ^ j = a + b * 2 ^ j := by
  rw [Nat.or_comm, nat_join j (b * 2 ^ j) a (Nat.mul_mod_left ..) ha, Nat.add_comm]

theorem get_or (lo c i : Nat) (hlo : lo < 2 ^ (7 * i)) (hc : c < 256) (hi : i ≤ 9) (hs : lo + c % 128 * 2 ^ (7 * i) < 18446744073709551616) :
    bits .or .u64 (lo : Int) (IntKind.u64.wrap (IntKind.u64.wrap (bits .and .u8 (c : Int) 127) * 2 ^ (7 * i))) = ((lo + c % 128 * 2 ^ (7 * i) : Nat) : Int) := by
  rw [show (127 : Int) = ((127 : Nat) : Int) from rfl, u8_and_nat c 127 hc (by omega), nat_mask7, IntKind.wrap_u64, IntKind.wrap_u64]
  have e1 : ((c % 128 : Nat) : Int) % 18446744073709551616 = ((c % 128 : Nat) : Int) := by omega
  have e2 : (((c % 128 : Nat) : Int) * 2 ^ (7 * i)) % 18446744073709551616 = ((c % 128 * 2 ^ (7 * i) : Nat) : Int) := by
    rw [show ((c % 128 : Nat) : Int) * 2 ^ (7 * i) = ((c % 128 * 2 ^ (7 * i) : Nat) : Int) by simp]
    omega
  rw [e1, e2, u64_or_nat _ _ (by omega) (by omega), or_more lo _ _ hlo]

/-- Where the loop stands. -/
def GetR (s rest : Bytes) (at_ n : Nat) (x y : Value) : Prop :=
  ∃ (i : Nat), x = .int .i64 i ∧ i ≤ 9 ∧ y = .int .u64 (n % 2 ^ (7 * i) : Nat) ∧ s.drop (at_ + i) = uintL (n / 2 ^ (7 * i)) ++ rest ∧ (uintL n).length = i + (uintL (n / 2 ^ (7 * i))).length ∧ (0 < i → 0 < n / 2 ^ (7 * i))

set_option maxHeartbeats 800000 in
set_option maxRecDepth 100000 in
theorem getUint_any (s rest : Bytes) (at_ n : Nat) (w : World) (hd : s.drop at_ = uintL n ++ rest) (hn : n < 18446744073709551616) (hs : s.length ≤ 1000000000) :
    Calls Try.prog 54 #[.string (bs s), .int .i64 at_] w fun e w' => e = .returned (.tuple #[.int .u64 n, .int .i64 (at_ + (uintL n).length : Nat), .int .i64 0]) ∧ w = w' := by
  have hat : at_ < s.length := by
    rcases Nat.lt_or_ge at_ s.length with h' | h'
    · exact h'
    · rw [List.drop_eq_nil_of_le h'] at hd; have := uintL_pos n; have e := congrArg List.length hd; simp at e; omega
  have HD := Lib.hid hd
  clear hd
  go_enter Try.func54, Try.ntmps54
  go_wp2_with fail
  go_loop [17, 4] (fun x y => GetR s rest at_ n x y)
    (fun x y => 10 - (intOf x).toNat)
  case atStart => exact ⟨0, rfl, by omega, by simp, by simpa using HD.out, by simp, by omega⟩
  case round =>
    obtain ⟨i, rfl, hi, rfl, hdi, hli, hpi⟩ := hrel
    have hpos : 0 < 2 ^ (7 * i) := Nat.two_pow_pos _
    obtain ⟨m, hm⟩ : ∃ m, m = n / 2 ^ (7 * i) := ⟨_, rfl⟩
    rw [← hm] at hdi hli hpi
    have hlo : n % 2 ^ (7 * i) < 2 ^ (7 * i) := Nat.mod_lt _ (Nat.two_pow_pos _)
    have hsum : n % 2 ^ (7 * i) + m % 128 * 2 ^ (7 * i) = n % 2 ^ (7 * (i + 1)) := by rw [hm]; exact more_bits n i
    have hle : n % 2 ^ (7 * (i + 1)) ≤ n := Nat.mod_le _ _
    have h9 : i = 9 → m ≤ 1 := by intro e; subst e; omega
    have hall : m < 128 → n % 2 ^ (7 * (i + 1)) = n := by
      intro h
      refine Nat.mod_eq_of_lt ?_
      rw [show 7 * (i + 1) = 7 * i + 7 by omega, Nat.pow_add]
      have := (Nat.div_lt_iff_lt_mul (Nat.two_pow_pos (7 * i))).1 (by rw [← hm]; exact h : n / 2 ^ (7 * i) < 128)
      omega
    have HM := Lib.hid hm
    clear hm
    generalize n % 2 ^ (7 * i) = lo at *
    by_cases hlt : m < 128
    · rw [uintL_small hlt] at hdi hli
      obtain ⟨hk, hc, hr⟩ := drop_byte0 hdi
      obtain ⟨c, hcc⟩ : ∃ c, c = UInt8.ofNat m := ⟨_, rfl⟩
      have hcm : c.toNat = m := by rw [hcc]; simp; omega
      rw [← hcc] at hc
      have HS := Lib.hid (get_or lo c.toNat i hlo (by omega) (by omega) (by rw [hcm]; omega))
      have HL := Lib.hid (show (uintL n).length = i + 1 by rw [hli]; simp)
      have HV := Lib.hid (show lo + c.toNat % 128 * 2 ^ (7 * i) = n by rw [hcm, hsum, hall hlt])
      have HC := Lib.hid hcm
      have d5 : c.toNat < 128 := by omega
      have d6 : 0 < i → 0 < c.toNat := by omega
      have d7 : i = 9 → c.toNat ≤ 1 := by omega
      clear hdi hcc hr hall hsum hle hlo hli hcm
      have d0 : ((at_ : Int) + (i : Int) == (s.length : Int)) = false := by rw [beq_eq_false_iff_ne]; omega
      have d2 : (c.toNat : Int) < 128 := by omega
      by_cases e9 : i = 9
      · subst e9
        have d1 : ¬ 1 < (c.toNat : Int) := by have := d7 rfl; omega
        have d3 : ¬ (c.toNat : Int) = 0 := by have := d6 (by omega); omega
        clear h9 hpi HM d6 d7
        have hs2 := HS.out
        rw [HV.out, show (2 : Int) ^ (7 * 9) = 9223372036854775808 by decide] at hs2
        have HS2 := Lib.hid hs2
        have HA := Lib.hid (show ((at_ : Int) + 9 + 1) = ((at_ + (uintL n).length : Nat) : Int) by rw [HL.out]; omega)
        clear hs2
        go_wp2_with fail
        go_ret3
        refine ⟨?_, rfl⟩
        show Ending.returned (.tuple #[.int .u64 (bits .or .u64 (lo : Int) (IntKind.u64.wrap (IntKind.u64.wrap (bits .and .u8 (c.toNat : Int) 127) * 9223372036854775808))), .int .i64 ((at_ : Int) + 9 + 1), .int .i64 0]) = _
        rw [HS2.out, HA.out]; rfl
      · by_cases e0 : i = 0
        · subst e0
          clear h9 hpi HM d6 d7
          rw [Nat.add_zero] at hc hk
          have hs2 := HS.out
          rw [HV.out, show (2 : Int) ^ (7 * 0) = 1 by decide, Int.mul_one] at hs2
          have HS2 := Lib.hid hs2
          have HA := Lib.hid (show ((at_ : Int) + 1) = ((at_ + (uintL n).length : Nat) : Int) by rw [HL.out]; omega)
          clear hs2
          have HZ : Hid (c.toNat = 0 → bits .or .u64 (lo : Int) (IntKind.u64.wrap (IntKind.u64.wrap (bits .and .u8 0 127))) = n) := Lib.hid (fun h => by have h2 := HS2.out; rw [h] at h2; exact h2)
          by_cases hz : (c.toNat : Int) = 0
          · go_wp2_with fail
            go_ret3
            refine ⟨?_, rfl⟩
            show Ending.returned (.tuple #[.int .u64 (bits .or .u64 (lo : Int) (IntKind.u64.wrap (IntKind.u64.wrap (bits .and .u8 0 127)))), .int .i64 ((at_ : Int) + 1), .int .i64 0]) = _
            rw [HZ.out (by omega), HA.out]; rfl
          · go_wp2_with fail
            go_ret3
            refine ⟨?_, rfl⟩
            show Ending.returned (.tuple #[.int .u64 (bits .or .u64 (lo : Int) (IntKind.u64.wrap (IntKind.u64.wrap (bits .and .u8 (c.toNat : Int) 127)))), .int .i64 ((at_ : Int) + 1), .int .i64 0]) = _
            rw [HS2.out, HA.out]; rfl
        · have d3 : ¬ (c.toNat : Int) = 0 := by have := d6 (by omega); omega
          have d4 : ¬ (i : Int) = 9 := by omega
          clear h9 hpi HM d6 d7
          have hs2 := HS.out
          rw [HV.out] at hs2
          have HS2 := Lib.hid hs2
          have HA := Lib.hid (show ((at_ : Int) + (i : Int) + 1) = ((at_ + (uintL n).length : Nat) : Int) by rw [HL.out]; omega)
          clear hs2
          go_wp2_with fail
          go_ret3
          refine ⟨?_, rfl⟩
          show Ending.returned (.tuple #[.int .u64 (bits .or .u64 (lo : Int) (IntKind.u64.wrap (IntKind.u64.wrap (bits .and .u8 (c.toNat : Int) 127) * 2 ^ (7 * i)))), .int .i64 ((at_ : Int) + (i : Int) + 1), .int .i64 0]) = _
          rw [HS2.out, HA.out]; rfl
    · rw [uintL_more hlt] at hdi hli
      obtain ⟨hk, hc, hr⟩ := drop_byte0 hdi
      obtain ⟨c, hcc⟩ : ∃ c, c = UInt8.ofNat (m % 128 + 128) := ⟨_, rfl⟩
      have hcm : c.toNat = m % 128 + 128 := by rw [hcc, UInt8.toNat_ofNat_of_lt' (by show _ < 256; omega)]
      rw [← hcc] at hc
      have e9 : i ≠ 9 := fun e => by have := h9 e; omega
      have HS := Lib.hid (get_or lo c.toNat i hlo (by omega) (by omega) (by rw [hcm, show (m % 128 + 128) % 128 = m % 128 by omega]; omega))
      have HL := Lib.hid (show (uintL n).length = i + 1 + (uintL (m / 128)).length by rw [hli]; simp; omega)
      have HV := Lib.hid (show lo + c.toNat % 128 * 2 ^ (7 * i) = n % 2 ^ (7 * (i + 1)) by rw [hcm, show (m % 128 + 128) % 128 = m % 128 by omega, hsum])
      have HQ := Lib.hid (show m / 128 = n / 2 ^ (7 * (i + 1)) by rw [HM.out, Nat.div_div_eq_div_mul, show 7 * (i + 1) = 7 * i + 7 by omega, Nat.pow_add])
      have HR := Lib.hid hr
      have HC := Lib.hid (show c.toNat ≠ 0 ∧ 128 ≤ c.toNat by omega)
      clear hr hdi hcc hall hsum hle hlo hli hcm
      have d0 : ((at_ : Int) + (i : Int) == (s.length : Int)) = false := by rw [beq_eq_false_iff_ne]; omega
      have d2 : ¬ (c.toNat : Int) < 128 := by have := HC.out; omega
      have d3 : ¬ (c.toNat : Int) = 0 := by have := HC.out; omega
      have d4 : ¬ (i : Int) = 9 := by omega
      have HP := Lib.hid (show 0 < n / 2 ^ (7 * (i + 1)) by rw [← HQ.out]; omega)
      have HQ2 := HQ
      clear h9 hpi HM hlt HQ
      go_wp2_with fail
      go_round
      case rel => exact ⟨_, _, _, _, _, _, ⟨i + 1, by go_num, by omega, by rw [HS.out, HV.out], by rw [← HQ2.out]; exact HR.out, by rw [← HQ2.out]; exact HL.out, fun _ => HP.out⟩, rfl, rfl, rfl, rfl, rfl, rfl⟩
      case measure => simp [intOf]; omega

set_option maxHeartbeats 400000 in
set_option maxRecDepth 100000 in
theorem getInt_any (s rest : Bytes) (at_ : Nat) (v : Int) (w : World) (hd : s.drop at_ = uintL (foldN v) ++ rest) (h0 : -9223372036854775808 ≤ v) (h1 : v ≤ 9223372036854775807) (hs : s.length ≤ 1000000000) :
    Calls Try.prog 70 #[.string (bs s), .int .i64 at_] w fun e w' => e = .returned (.tuple #[.int .i64 v, .int .i64 (at_ + (uintL (foldN v)).length : Nat), .int .i64 0]) ∧ w = w' := by
  have hf := foldN_lt h0 h1
  have HU := Lib.hid (unfold_fold v)
  generalize foldN v = n at *
  go_enter Try.func70, Try.ntmps70
  go_wp2_with fail
  refine (getUint_any s rest at_ n _ hd hf hs).mono ?_
  rintro e w1 ⟨rfl, rfl⟩
  go_wp2_with fail
  refine (unfold_any _ _ hf).mono ?_
  rintro e w1 ⟨rfl, rfl⟩
  go_wp2_with fail
  go_ret3
  exact ⟨by rw [HU.out]; rfl, rfl⟩

end Go.Proofs.Ytnjcelilljniaaa

/-
  Plain: bits, and how numbers stand as bits.
-/
namespace Go.Proofs.Ytnjcelilljniaaa
open Go.RowKit

/-- The lowest m bits of n, the highest first. -/
def toB (n : Nat) : Nat → List Bool
  | 0 => []
  | m + 1 => n.testBit m :: toB n m
/-- A number of its bits. -/
def ofB : List Bool → Nat
  | [] => 0
  | b :: l => b.toNat * 2 ^ l.length + ofB l

theorem toB_len (n : Nat) : ∀ m, (toB n m).length = m
  | 0 => rfl
  | m + 1 => by rw [toB, List.length_cons, toB_len n m]
theorem ofB_lt : ∀ l : List Bool, ofB l < 2 ^ l.length
  | [] => by simp [ofB]
  | b :: l => by
    have := ofB_lt l
    rw [ofB, List.length_cons, Nat.pow_succ]
    cases b <;> simp <;> omega
theorem ofB_app : ∀ a b : List Bool, ofB (a ++ b) = ofB a * 2 ^ b.length + ofB b
  | [], b => by simp [ofB]
  | x :: a, b => by
    rw [List.cons_append, ofB, ofB_app a b, ofB, List.length_append, Nat.pow_add, Nat.add_mul, Nat.mul_assoc]
    omega
theorem testBit_div (n m : Nat) : (n.testBit m).toNat = n / 2 ^ m % 2 := by
  rw [Nat.testBit_eq_decide_div_mod_eq]
  have : n / 2 ^ m % 2 = 0 ∨ n / 2 ^ m % 2 = 1 := by omega
  rcases this with h | h <;> simp [h]
theorem ofB_toB (n : Nat) : ∀ m, ofB (toB n m) = n % 2 ^ m
  | 0 => by simp [toB, ofB, Nat.mod_one]
  | m + 1 => by
    rw [toB, ofB, toB_len, ofB_toB n m, testBit_div, Nat.mod_pow_succ, Nat.mul_comm (2 ^ m)]
    omega
theorem toB_mod (n : Nat) : ∀ m k, m ≤ k → toB (n % 2 ^ k) m = toB n m
  | 0, _, _ => rfl
  | m + 1, k, h => by
    rw [toB, toB, toB_mod n m k (by omega), Nat.testBit_mod_two_pow]
    simp [show m < k by omega]
theorem toB_ofB : ∀ l : List Bool, toB (ofB l) l.length = l
  | [] => rfl
  | b :: l => by
    have hl := ofB_lt l
    rw [List.length_cons, toB]
    congr 1
    · rw [Nat.testBit_eq_decide_div_mod_eq, ofB, Nat.add_comm, Nat.add_mul_div_right _ _ (Nat.two_pow_pos _), Nat.div_eq_of_lt hl]
      cases b <;> simp
    · have e : ofB (b :: l) % 2 ^ l.length = ofB l := by
        rw [ofB, Nat.mul_comm, Nat.mul_add_mod, Nat.mod_eq_of_lt hl]
      have h := toB_mod (ofB (b :: l)) l.length l.length (Nat.le_refl _)
      rw [e, toB_ofB l] at h
      exact h.symm
/-- Two runs of bits are one number's bits. -/
theorem toB_join (a n k m : Nat) (hn : n < 2 ^ m) : toB (a * 2 ^ m + n) (k + m) = toB a k ++ toB n m := by
  have h : ofB (toB a k ++ toB n m) % 2 ^ (k + m) = (a * 2 ^ m + n) % 2 ^ (k + m) := by
    rw [ofB_app, ofB_toB, ofB_toB, toB_len, Nat.mod_eq_of_lt hn, Nat.add_comm k m, Nat.pow_add, Nat.mod_mul, Nat.mod_mul]
    have hp := Nat.two_pow_pos m
    have e1 : ∀ x, (x * 2 ^ m + n) % 2 ^ m = n := fun x => by rw [Nat.mul_comm, Nat.mul_add_mod, Nat.mod_eq_of_lt hn]
    have e2 : ∀ x, (x * 2 ^ m + n) / 2 ^ m = x := fun x => by rw [Nat.add_comm, Nat.add_mul_div_right _ _ hp, Nat.div_eq_of_lt hn, Nat.zero_add]
    rw [e1, e1, e2, e2, Nat.mod_mod]
  have hl : (toB a k ++ toB n m).length = k + m := by rw [List.length_append, toB_len, toB_len]
  have h2 := toB_ofB (toB a k ++ toB n m)
  rw [hl, ← toB_mod _ (k + m) (k + m) (Nat.le_refl _), h, toB_mod _ (k + m) (k + m) (Nat.le_refl _)] at h2
  exact h2
theorem toB_split (n k m : Nat) : toB n (k + m) = toB (n / 2 ^ m) k ++ toB n m := by
  have h := toB_join (n / 2 ^ m) (n % 2 ^ m) k m (Nat.mod_lt _ (Nat.two_pow_pos _))
  rw [Nat.mul_comm, Nat.div_add_mod, toB_mod n m m (Nat.le_refl _)] at h
  exact h

/-- The bits of bytes. -/
def bitsOf (l : Bytes) : List Bool := l.flatMap fun c => toB c.toNat 8
theorem bitsOf_len : ∀ l : Bytes, (bitsOf l).length = 8 * l.length
  | [] => rfl
  | c :: l => by
    have := bitsOf_len l
    show (toB c.toNat 8 ++ bitsOf l).length = _
    rw [List.length_append, toB_len, this, List.length_cons]; omega
theorem bitsOf_app (a b : Bytes) : bitsOf (a ++ b) = bitsOf a ++ bitsOf b := List.flatMap_append
theorem bitsOf_one (c : UInt8) : bitsOf [c] = toB c.toNat 8 := by simp [bitsOf]
/-- Bits stand in one byte: 'take' of them from 'at' on. -/
theorem bitsOf_drop : ∀ (l : Bytes) (k : Nat), (bitsOf l).drop (8 * k) = bitsOf (l.drop k)
  | l, 0 => by simp
  | [], k + 1 => by simp [bitsOf]
  | c :: l, k + 1 => by
    show (toB c.toNat 8 ++ bitsOf l).drop _ = _
    rw [show 8 * (k + 1) = (toB c.toNat 8).length + 8 * k by rw [toB_len]; omega, List.drop_append, Nat.add_sub_cancel_left, bitsOf_drop l k, List.drop_of_length_le (by omega)]
    rfl
theorem bitsOf_at {l : Bytes} {a t : Nat} (ht : a % 8 + t ≤ 8) (hl : a + t ≤ 8 * l.length) (h0 : 0 < t) :
    ((bitsOf l).drop a).take t = toB ((byteAt l (a / 8)).toNat / 2 ^ (8 - a % 8 - t)) t := by
  have hk : a / 8 < l.length := by omega
  have e : a = 8 * (a / 8) + a % 8 := by omega
  rw [e, ← List.drop_drop, bitsOf_drop, drop_byte hk]
  show ((toB (byteAt l (a / 8)).toNat 8 ++ bitsOf (l.drop (a / 8 + 1))).drop (a % 8)).take t = _
  rw [show (8 * (a / 8) + a % 8) / 8 = a / 8 by omega, show (8 * (a / 8) + a % 8) % 8 = a % 8 by omega]
  obtain ⟨r, hr⟩ : ∃ r, r = 8 - a % 8 - t := ⟨_, rfl⟩
  have e8 : 8 = a % 8 + (t + r) := by omega
  rw [← hr]
  generalize a % 8 = p at *
  generalize (byteAt l (a / 8)).toNat = c
  conv => lhs; rw [show toB c 8 = toB c (p + (t + r)) by rw [← e8], toB_split c p (t + r), toB_split c t r]
  rw [List.append_assoc, List.drop_append, toB_len, Nat.sub_self, List.drop_zero, List.drop_of_length_le (by rw [toB_len]; omega), List.nil_append, List.append_assoc, List.take_append, toB_len, Nat.sub_self, List.take_zero, List.append_nil,
    List.take_of_length_le (by rw [toB_len]; omega)]

/-- A number as Rice has it. -/
def riceB (n k : Nat) : List Bool := if 24 ≤ n / 2 ^ k then List.replicate 24 true ++ toB n 64 else List.replicate (n / 2 ^ k) true ++ (false :: toB n k)
def riceC (n k : Nat) : Nat := if n / 2 ^ k < 24 then n / 2 ^ k + 1 + k else 88
theorem riceB_len (n k : Nat) : (riceB n k).length = riceC n k := by
  unfold riceB riceC
  by_cases h : 24 ≤ n / 2 ^ k
  · rw [if_pos h, if_neg (by omega)]; simp [toB_len]
  · rw [if_neg h, if_pos (by omega)]; simp [toB_len]; omega
theorem toB_ones : ∀ q, toB (2 ^ q - 1) q = List.replicate q true := by
  intro q
  have h : ∀ m, m ≤ q → toB (2 ^ q - 1) m = List.replicate m true := by
    intro m
    induction m with
    | zero => intro _; rfl
    | succ m ih =>
      intro hm
      rw [toB, ih (by omega), Nat.testBit_two_pow_sub_one]
      simp [show m < q by omega, List.replicate_succ]
  exact h q (Nat.le_refl _)
theorem toB_head (q : Nat) : toB ((2 ^ q - 1) * 2) (q + 1) = List.replicate q true ++ [false] := by
  have h := toB_join (2 ^ q - 1) 0 q 1 (by decide)
  rw [Nat.pow_one, Nat.add_zero, toB_ones] at h
  rw [h]
  rfl

/-- What Cost reckons; what Best finds is no worse than 0, and no more than 40. -/
def costL (l : List Nat) (k : Nat) : Nat := (l.map fun x => riceC x k).sum
theorem costL_app (a b : List Nat) (k : Nat) : costL (a ++ b) k = costL a k + costL b k := by simp [costL]
theorem riceC_le (n k : Nat) (hk : k ≤ 40) : riceC n k ≤ 88 := by unfold riceC; split <;> omega
theorem costL_le (l : List Nat) (k : Nat) (hk : k ≤ 40) : costL l k ≤ 88 * l.length := by
  induction l with
  | nil => simp [costL]
  | cons x r ih =>
    have e : costL (x :: r) k = riceC x k + costL r k := by simp [costL]
    have := riceC_le x k hk
    rw [e, List.length_cons]; omega

end Go.Proofs.Ytnjcelilljniaaa
