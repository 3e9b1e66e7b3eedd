/-
  rice.Reader: peek, Left, Rice, End.
-/
import Derived.Test.YtnjcelilljniaaaTCost
import Derived.Test.YtnjcelilljniaaaTLz
namespace Go.Proofs.Ytnjcelilljniaaa
open Go.RowKit

/-- A reader of s in block b, at a place. -/
def Rd (b : Nat) (s : Bytes) (at_ : Nat) (w : World) : Prop := w.heap[b]? = some (.cells #[.string (bs s), .int .i64 at_] 167 (0, 0))

theorem Rd.c0 {b : Nat} {s : Bytes} {at_ : Nat} {w : World} (h : Rd b s at_ w) : w.cell? ⟨b, 0, none⟩ = some (.string (bs s)) := by rw [Lib.cell_of_heap h]; rfl
theorem Rd.c1 {b : Nat} {s : Bytes} {at_ : Nat} {w : World} (h : Rd b s at_ w) : w.cell? ⟨b, 1, none⟩ = some (.int .i64 at_) := by rw [Lib.cell_of_heap h]; rfl

theorem take_step {l : List Bool} {a t m : Nat} (h : t ≤ m) : (l.drop a).take m = (l.drop a).take t ++ (l.drop (a + t)).take (m - t) := by
  rw [← List.drop_drop, show m = t + (m - t) by omega, List.take_add, show t + (m - t) - t = m - t by omega]
theorem ofB_take_step {l : Bytes} {a t m : Nat} (h : t ≤ m) (ht : a % 8 + t ≤ 8) (hl : a + m ≤ 8 * l.length) (h0 : 0 < t) :
    ofB (((bitsOf l).drop a).take m) = ((byteAt l (a / 8)).toNat / 2 ^ (8 - a % 8 - t) % 2 ^ t) * 2 ^ (m - t) + ofB (((bitsOf l).drop (a + t)).take (m - t)) := by
  have hlen : (((bitsOf l).drop (a + t)).take (m - t)).length = m - t := by
    rw [List.length_take, List.length_drop, bitsOf_len]; omega
  rw [take_step h, ofB_app, hlen, bitsOf_at ht (by omega) h0, ofB_toB]

set_option maxHeartbeats 800000 in
set_option maxRecDepth 100000 in
theorem left_any (b : Nat) (s : Bytes) (at_ : Nat) (w : World) (h : Rd b s at_ w) (ha : at_ ≤ 8 * s.length) (hs : s.length ≤ 1000000000) :
    Calls Try.prog 96 #[.pointer (some ⟨b, 0, none⟩)] w fun e w' => e = .returned (.int .i64 (8 * s.length - at_ : Nat)) ∧ ∃ q, w' = w.drewN q := by
  have c0 := h.c0
  have c1 := h.c1
  clear h
  go_enter Try.func96, Try.ntmps96
  go_wp2_with fail
  go_quiet (fail)
  go_wp2_with fail
  go_ret
  refine ⟨?_, _, rfl⟩
  show Ending.returned (.int .i64 ((8 : Int) * s.length - at_)) = _
  rw [show ((8 : Int) * s.length - at_) = ((8 * s.length - at_ : Nat) : Int) by omega]

theorem peek_lt (n c t r d : Nat) (hn : n < 2 ^ d) : n * 2 ^ t + c / 2 ^ r % 2 ^ t < 2 ^ (d + t) := by
  rw [Nat.pow_add]
  have h1 : c / 2 ^ r % 2 ^ t < 2 ^ t := Nat.mod_lt _ (Nat.two_pow_pos _)
  have h2 : (n + 1) * 2 ^ t ≤ 2 ^ d * 2 ^ t := Nat.mul_le_mul_right _ hn
  rw [Nat.succ_mul] at h2
  omega
theorem pow_le64 {t : Nat} (h : t ≤ 64) : 2 ^ t ≤ 18446744073709551616 := Nat.pow_le_pow_right (by decide) h
theorem mask_val (x t : Nat) (hx : x < 18446744073709551616) (ht : t < 64) :
    bits .and .u64 (x : Int) (IntKind.u64.wrap (IntKind.u64.wrap (2 ^ t) - 1)) = ((x % 2 ^ t : Nat) : Int) := by
  have hp := Nat.two_pow_pos t
  have h64 : 2 ^ t < 18446744073709551616 := Nat.pow_lt_pow_right (by decide) ht
  have e1 : IntKind.u64.wrap (2 ^ t) = ((2 ^ t : Nat) : Int) := by rw [IntKind.wrap_u64, show ((2 : Int) ^ t) = ((2 ^ t : Nat) : Int) by simp]; omega
  rw [e1, show IntKind.u64.wrap (((2 ^ t : Nat) : Int) - 1) = ((2 ^ t - 1 : Nat) : Int) by rw [IntKind.wrap_u64]; omega, u64_and_nat _ _ hx (by omega), Nat.and_two_pow_sub_one_eq_mod]
theorem peek_val (n c t r d : Nat) (hc : c < 256) (hn : n < 2 ^ d) (hd : d + t ≤ 64) (ht : t ≤ 8) :
    bits .or .u64 (IntKind.u64.wrap ((n : Int) * 2 ^ t)) (bits .and .u64 (IntKind.u64.wrap (c : Int) / 2 ^ r) (IntKind.u64.wrap (IntKind.u64.wrap (2 ^ t) - 1))) =
      ((n * 2 ^ t + c / 2 ^ r % 2 ^ t : Nat) : Int) := by
  have h1 := peek_lt n c t r d hn
  have h2 := pow_le64 hd
  have e1 : IntKind.u64.wrap (c : Int) / 2 ^ r = ((c / 2 ^ r : Nat) : Int) := by
    rw [IntKind.wrap_u64, show ((c : Int) % 18446744073709551616) = (c : Int) by omega]; simp
  have h3 : c / 2 ^ r ≤ c := Nat.div_le_self _ _
  rw [e1, mask_val _ _ (by omega) (by omega)]
  have e2 : IntKind.u64.wrap ((n : Int) * 2 ^ t) = ((n * 2 ^ t : Nat) : Int) := by
    rw [IntKind.wrap_u64, show ((n : Int) * 2 ^ t) = ((n * 2 ^ t : Nat) : Int) by simp]
    omega
  rw [e2, u64_or_nat _ _ (by omega) (by omega), Nat.or_comm, or_more _ _ _ (Nat.mod_lt _ (Nat.two_pow_pos _)), Nat.add_comm]

set_option maxHeartbeats 800000 in
set_option maxRecDepth 100000 in
theorem peek_any (b : Nat) (s : Bytes) (p at_ m : Nat) (w : World) (h : Rd b s p w) (ha : at_ + m ≤ 8 * s.length) (hm : m ≤ 64) (hs : s.length ≤ 1000000000) :
    Calls Try.prog 98 #[.pointer (some ⟨b, 0, none⟩), .int .i64 at_, .int .i64 m] w fun e w' => e = .returned (.int .u64 (ofB (((bitsOf s).drop at_).take m))) ∧ w = w' := by
  have c0 := h.c0
  clear h
  go_enter Try.func98, Try.ntmps98
  go_wp2_with fail
  go_loop [1, 2, 7] (fun x y z => ∃ (a k n : Nat), x = .int .i64 a ∧ y = .int .i64 k ∧ z = .int .u64 n ∧ k ≤ m ∧ a + k ≤ 8 * s.length ∧ n < 2 ^ (m - k) ∧ ofB (((bitsOf s).drop at_).take m) = n * 2 ^ k + ofB (((bitsOf s).drop a).take k))
    (fun x y z => (intOf y).toNat)
  case atStart => exact ⟨at_, m, 0, rfl, rfl, rfl, Nat.le_refl _, ha, Nat.two_pow_pos _, by simp⟩
  case round =>
    obtain ⟨a, k, n, rfl, rfl, rfl, hk, hak, hn, hv⟩ := hrel
    have HV := Lib.hid hv
    have HN := Lib.hid hn
    clear hv hn
    by_cases h0 : 0 < k
    · have hlt : a / 8 < s.length := by omega
      have hi1 : 0 ≤ (a : Int) / 8 ∧ (a : Int) / 8 < s.length := by omega
      obtain ⟨t, ht⟩ : ∃ t, t = min (8 - a % 8) k := ⟨_, rfl⟩
      have HT : Hid (min (8 - (a : Int) % 8) (k : Int) = (t : Int)) := Lib.hid (by omega)
      obtain ⟨r, hr⟩ : ∃ r, r = 8 - a % 8 - t := ⟨_, rfl⟩
      have HR : Hid ((8 - (a : Int) % 8 - (t : Int)).toNat = r) := Lib.hid (by omega)
      have HS := Lib.hid (ofB_take_step (l := s) (a := a) (t := t) (m := k) (by omega) (by omega) hak (by omega))
      have HE := Lib.hid (peek_val n (byteAt s (a / 8)).toNat t r (m - k) (UInt8.toNat_lt _) HN.out (by omega) (by omega))
      have HN2 := Lib.hid (peek_lt n (byteAt s (a / 8)).toNat t r (m - k) HN.out)
      have hts : 0 < t ∧ t ≤ k := by omega
      rw [← hr] at HS
      clear ht hr
      go_wp2_with fail
      rw [HT.out, HR.out, Int.toNat_natCast]
      go_roundw
      case rel => exact ⟨a + t, k - t, n * 2 ^ t + (byteAt s (a / 8)).toNat / 2 ^ r % 2 ^ t, by go_num, by go_num, by rw [HE.out], by omega, by omega, by rw [show m - (k - t) = m - k + t by omega]; exact HN2.out, by rw [HV.out, HS.out, Nat.add_mul, Nat.mul_assoc, ← Nat.pow_add, show t + (k - t) = k by omega, Nat.add_assoc]⟩
      case measure => simp [intOf]; omega
    · obtain rfl : k = 0 := by omega
      have e : ofB (((bitsOf s).drop at_).take m) = n := by rw [HV.out]; simp [ofB]
      rw [e]
      go_wp2_with fail
      go_ret
      exact ⟨rfl, rfl⟩

end Go.Proofs.Ytnjcelilljniaaa

/-
  rice.Reader: Rice where a number stands, End.
-/
namespace Go.Proofs.Ytnjcelilljniaaa
open Go.RowKit

theorem bitLen_is {y j : Nat} (h1 : 2 ^ j ≤ y) (h2 : y < 2 ^ (j + 1)) (hj : j ≤ 63) : Lib.bitLen y = j + 1 := by
  have h64 : y < 2 ^ 64 := Nat.lt_of_lt_of_le h2 (Nat.pow_le_pow_right (by decide) (by omega))
  rw [Lib.bitLen_shift j y h1 h64]
  have e : y / 2 ^ j = 1 := by
    rw [Nat.pow_succ] at h2
    exact (Nat.div_eq_iff (Nat.two_pow_pos j)).2 ⟨by omega, by omega⟩
  rw [e]; rfl
theorem ofB_ones (q : Nat) : ofB (List.replicate q true) = 2 ^ q - 1 := by
  have h := ofB_toB (2 ^ q - 1) q
  rw [toB_ones] at h
  rw [h, Nat.mod_eq_of_lt (by have := Nat.two_pow_pos q; omega)]
/-- How many ones stand ahead: of fewer than 24. -/
theorem lead_few {q head : Nat} (r : List Bool) (hr : q + 1 + r.length = head) (hh : head ≤ 24) :
    Lib.bitLen (18446744073709551615 - ofB (List.replicate q true ++ (false :: r)) * 2 ^ (64 - head)) = 64 - q := by
  have hz := ofB_lt r
  have e1 : ofB (List.replicate q true ++ (false :: r)) = (2 ^ q - 1) * 2 ^ (r.length + 1) + ofB r := by
    rw [ofB_app, ofB_ones, List.length_cons]; simp [ofB]
  have hp := Nat.two_pow_pos q
  have e2 : (2 ^ q - 1) * 2 ^ (r.length + 1) * 2 ^ (64 - head) = 18446744073709551616 - 2 ^ (64 - q) := by
    rw [Nat.mul_assoc, ← Nat.pow_add, show r.length + 1 + (64 - head) = 64 - q by omega, Nat.sub_mul, ← Nat.pow_add, show q + (64 - q) = 64 by omega, Nat.one_mul]
  have e3 : ofB r * 2 ^ (64 - head) < 2 ^ (63 - q) := by
    have h := Nat.mul_lt_mul_of_pos_right hz (Nat.two_pow_pos (64 - head))
    rw [← Nat.pow_add, show r.length + (64 - head) = 63 - q by omega] at h
    exact h
  have e4 : 2 ^ (64 - q) = 2 ^ (63 - q) * 2 := by rw [show 64 - q = 63 - q + 1 by omega, Nat.pow_succ]
  have e5 : 2 ^ (64 - q) ≤ 18446744073709551616 := pow_le64 (by omega)
  rw [e1, Nat.add_mul, e2]
  have h := bitLen_is (y := 18446744073709551615 - (18446744073709551616 - 2 ^ (64 - q) + ofB r * 2 ^ (64 - head))) (j := 63 - q) (by omega) (by rw [Nat.pow_succ]; omega) (by omega)
  rw [h]; omega
theorem lead_many : Lib.bitLen (18446744073709551615 - ofB (List.replicate 24 true) * 2 ^ (64 - 24)) = 40 := by decide +kernel

theorem Rd.drewN {b : Nat} {s : Bytes} {p : Nat} {w : World} (h : Rd b s p w) (d : Nat) : Rd b s p (w.drewN d) := h

theorem compl_val (x : Nat) (hx : x < 18446744073709551616) : bits .xor .u64 IntKind.u64.max (IntKind.u64.wrap (x : Int)) = ((18446744073709551615 - x : Nat) : Int) := by
  rw [show IntKind.u64.max = ((18446744073709551615 : Nat) : Int) by rfl, IntKind.wrap_u64, show ((x : Int) % 18446744073709551616) = (x : Int) by omega, u64_xor_nat _ _ (by omega) hx, Nat.xor_comm, xor_ones64 x hx]
theorem lz_any (X head q : Nat) {w : World} (h : Lib.bitLen (18446744073709551615 - X * 2 ^ (64 - head)) = 64 - q) (hX : X < 2 ^ head) (h1 : q + 1 ≤ head) (h2 : head ≤ 24) :
    Calls Try.prog 97 #[.int .u64 (bits .xor .u64 IntKind.u64.max (IntKind.u64.wrap ((X : Int) * 2 ^ (64 - head))))] w fun e w' => e = .returned (.int .i64 q) ∧ w = w' := by
  have hlt : X * 2 ^ (64 - head) < 18446744073709551616 := by
    have h := Nat.mul_lt_mul_of_pos_right hX (Nat.two_pow_pos (64 - head))
    rw [← Nat.pow_add, show head + (64 - head) = 64 by omega] at h
    exact h
  rw [show ((X : Int) * 2 ^ (64 - head)) = ((X * 2 ^ (64 - head) : Nat) : Int) by simp, compl_val _ hlt]
  refine (leadingZeros64_any _ w (by omega) (by omega)).mono ?_
  rintro e w' ⟨rfl, rfl⟩
  refine ⟨?_, rfl⟩
  rw [Int.toNat_natCast, h]
  rw [show ((64 : Int) - ((64 - q : Nat) : Int)) = (q : Int) by omega]
theorem lz_any24 {w : World} :
    Calls Try.prog 97 #[.int .u64 (bits .xor .u64 IntKind.u64.max (IntKind.u64.wrap (((ofB (List.replicate 24 true) : Nat) : Int) * 1099511627776)))] w fun e w' => e = .returned (.int .i64 24) ∧ w = w' := by
  have e : ofB (List.replicate 24 true) = 16777215 := by decide +kernel
  have l := lead_many
  rw [e] at l ⊢
  rw [show (((16777215 : Nat) : Int) * 1099511627776) = ((16777215 * 2 ^ (64 - 24) : Nat) : Int) by decide, compl_val _ (by decide)]
  refine (leadingZeros64_any _ w (by omega) (by omega)).mono ?_
  rintro e w' ⟨rfl, rfl⟩
  refine ⟨?_, rfl⟩
  rw [Int.toNat_natCast, l]
  rfl
theorem or_q (n k q : Nat) (h : q = n / 2 ^ k) (hn : n < 18446744073709551616) :
    bits .or .u64 ((n % 2 ^ k : Nat) : Int) (IntKind.u64.wrap ((q : Int) * 2 ^ k)) = (n : Int) := by
  have hp := Nat.two_pow_pos k
  have e : q * 2 ^ k + n % 2 ^ k = n := by rw [h, Nat.mul_comm]; exact Nat.div_add_mod n (2 ^ k)
  have hq : q ≤ n := by rw [h]; exact Nat.div_le_self _ _
  have h2 : IntKind.u64.wrap ((q : Int) * 2 ^ k) = ((q * 2 ^ k : Nat) : Int) := by
    rw [show ((q : Int) * 2 ^ k) = ((q * 2 ^ k : Nat) : Int) by simp, IntKind.wrap_u64]; omega
  rw [h2, u64_or_nat _ _ (by omega) (by omega), or_more _ _ _ (Nat.mod_lt _ hp), Nat.add_comm, e]

theorem riceC_pos (n k : Nat) : 0 < riceC n k := by unfold riceC; generalize n / 2 ^ k = q; split <;> omega

set_option maxHeartbeats 2000000 in
set_option maxRecDepth 100000 in
theorem riceGet_any (b : Nat) (s : Bytes) (p n k : Nat) (rest : List Bool) (w : World) (h : Rd b s p w) (hb : (bitsOf s).drop p = riceB n k ++ rest) (hn : n < 18446744073709551616) (hk : k ≤ 40) (hs : s.length ≤ 1000000000) :
    Calls Try.prog 88 #[.pointer (some ⟨b, 0, none⟩), .int .i64 k] w fun e w' => e = .returned (.tuple #[.int .u64 n, .int .i64 0]) ∧ ∃ q, w' = (w.drewN q).setCell ⟨b, 1, none⟩ (.int .i64 (p + riceC n k : Nat)) := by
  have hlen : riceC n k + rest.length = 8 * s.length - p := by
    have e := congrArg List.length hb
    rw [List.length_drop, bitsOf_len, List.length_append, riceB_len] at e
    omega
  have hpos := riceC_pos n k
  have hp : p < 8 * s.length := by omega
  have c0 := h.c0
  have c1 := h.c1
  have f1 := Lib.frozen_of_heap h 1
  have H := Lib.hid h
  have HB := Lib.hid hb
  clear h hb
  by_cases hq : n / 2 ^ k < 24
  · have eR : riceC n k = n / 2 ^ k + 1 + k := by unfold riceC; rw [if_pos hq]
    have eB : riceB n k = List.replicate (n / 2 ^ k) true ++ (false :: toB n k) := by unfold riceB; rw [if_neg (by omega)]
    obtain ⟨q, eq⟩ : ∃ q, q = n / 2 ^ k := ⟨_, rfl⟩
    rw [← eq] at eR eB hq
    obtain ⟨head, hhead⟩ : ∃ head, head = min 24 (8 * s.length - p) := ⟨_, rfl⟩
    have hh : q + 1 ≤ head ∧ head ≤ 24 := by omega
    have ePeek : ((bitsOf s).drop p).take head = List.replicate q true ++ (false :: (toB n k ++ rest).take (head - (q + 1))) := by
      rw [HB.out, eB, List.append_assoc, List.cons_append, List.take_append, List.length_replicate, List.take_of_length_le (by simp; omega), show head - q = head - (q + 1) + 1 by omega, List.take_succ_cons]
    have eL := lead_few ((toB n k ++ rest).take (head - (q + 1))) (q := q) (head := head) (by rw [List.length_take, List.length_append, toB_len]; omega) hh.2
    rw [← ePeek] at eL
    have eN : ofB (((bitsOf s).drop (p + q + 1)).take k) = n % 2 ^ k := by
      rw [show p + q + 1 = p + (q + 1) by omega, ← List.drop_drop, HB.out, eB, List.append_assoc, List.cons_append, List.drop_append, List.length_replicate, List.drop_of_length_le (by simp), List.nil_append, show q + 1 - q = 1 by omega,
        List.drop_succ_cons, List.drop_zero, List.take_append, toB_len, Nat.sub_self, List.take_zero, List.append_nil, List.take_of_length_le (by rw [toB_len]; omega), ofB_toB]
    have hX := ofB_lt (((bitsOf s).drop p).take head)
    have eXl : (((bitsOf s).drop p).take head).length = head := by rw [List.length_take, List.length_drop, bitsOf_len]; omega
    rw [eXl] at hX
    have HPK := Lib.hid (fun w' h => peek_any b s p p head w' h (by omega) (by omega) hs)
    have HPN := Lib.hid (fun w' h => peek_any b s p (p + q + 1) k w' h (by omega) (by omega) hs)
    rw [eN] at HPN
    generalize ofB (((bitsOf s).drop p).take head) = X at *
    have HLZ := Lib.hid (fun w => lz_any X head q (w := w) eL hX hh.1 hh.2)
    have hmin : min (24 : Int) ((8 * s.length - p : Nat) : Int) = (head : Int) := by omega
    have hmin2 : min (q : Int) (head : Int) = (q : Int) := by omega
    have hhl : head ≤ 8 * s.length - p := by omega
    have HMIN := Lib.hid hmin
    have HEN := Lib.hid (or_q n k q eq hn)
    have h24 : ¬ (q : Int) = 24 := by omega
    have h24' : (q : Int) < 24 := by omega
    have hh0 : ¬ (head : Int) = 0 := by omega
    have hqh : (p : Int) + q + 1 + k ≤ 8 * s.length := by omega
    have hqh' : ¬ (8 * (s.length : Int) - ((p : Int) + q + 1) < k) := by omega
    have EQ := Lib.hid eq
    have HRC := Lib.hid (show p + q + 1 + k = p + riceC n k by omega)
    clear eL hmin ePeek eXl eN eB hhead eq hlen hpos eR
    go_enter Try.func88, Try.ntmps88
    go_wp2_with fail
    refine (left_any b s p _ H.out (by omega) hs).mono ?_
    rintro e w1 ⟨rfl, d, rfl⟩
    go_wp2_with fail
    rw [HMIN.out]
    have HD := H.out.drewN d
    refine (HPK.out _ HD).mono ?_
    rintro e w1 ⟨rfl, rfl⟩
    go_wp2_with fail
    refine (HLZ.out _).mono ?_
    rintro e w1 ⟨rfl, rfl⟩
    go_wp2_with fail
    refine (HPN.out _ HD).mono ?_
    rintro e w1 ⟨rfl, rfl⟩
    go_wp2_with fail
    go_ret2
    refine ⟨?_, d, ?_⟩
    · show Ending.returned (.tuple #[.int .u64 (bits .or .u64 ((n : Int) % 2 ^ k) (IntKind.u64.wrap ((q : Int) * 2 ^ k))), .int .i64 0]) = _
      have h := HEN.out
      rw [show ((n % 2 ^ k : Nat) : Int) = (n : Int) % 2 ^ k by simp] at h
      rw [h]
    · rw [← HRC.out]; rfl
  · have eR : riceC n k = 88 := by unfold riceC; rw [if_neg hq]
    have eB : riceB n k = List.replicate 24 true ++ toB n 64 := by unfold riceB; rw [if_pos (by omega)]
    have ePeek : ((bitsOf s).drop p).take 24 = List.replicate 24 true := by
      rw [HB.out, eB, List.append_assoc, List.take_append, List.length_replicate, List.take_of_length_le (by simp)]; simp
    have eN : ofB (((bitsOf s).drop (p + 24)).take 64) = n := by
      rw [← List.drop_drop, HB.out, eB, List.append_assoc, List.drop_append, List.length_replicate, List.drop_of_length_le (by simp), List.nil_append, Nat.sub_self, List.drop_zero, List.take_append, toB_len, Nat.sub_self, List.take_zero,
        List.append_nil, List.take_of_length_le (by rw [toB_len]; omega), ofB_toB, Nat.mod_eq_of_lt hn]
    have HPK := Lib.hid (fun w' h => peek_any b s p p 24 w' h (by omega) (by omega) hs)
    have HPN := Lib.hid (fun w' h => peek_any b s p (p + 24) 64 w' h (by omega) (by omega) hs)
    rw [eN] at HPN
    rw [ePeek] at HPK
    have HLZ := Lib.hid (fun w => lz_any24 (w := w))
    have hmin : min (24 : Int) ((8 * s.length - p : Nat) : Int) = ((24 : Nat) : Int) := by omega
    have HMIN := Lib.hid hmin
    have hq24 : ¬ (n : Int) / 2 ^ k < 24 := by
      rw [show (n : Int) / 2 ^ k = ((n / 2 ^ k : Nat) : Int) by simp]; omega
    have hqh' : ¬ (8 * (s.length : Int) - ((p : Int) + 24) < 64) := by omega
    have HRC := Lib.hid (show p + 24 + 64 = p + riceC n k by omega)
    clear hmin ePeek eN eB hlen hpos eR hq
    go_enter Try.func88, Try.ntmps88
    go_wp2_with fail
    refine (left_any b s p _ H.out (by omega) hs).mono ?_
    rintro e w1 ⟨rfl, d, rfl⟩
    go_wp2_with fail
    rw [HMIN.out]
    have HD := H.out.drewN d
    refine (HPK.out _ HD).mono ?_
    rintro e w1 ⟨rfl, rfl⟩
    go_wp2_with fail
    refine (HLZ.out _).mono ?_
    rintro e w1 ⟨rfl, rfl⟩
    go_wp2_with fail
    refine (HPN.out _ HD).mono ?_
    rintro e w1 ⟨rfl, rfl⟩
    go_wp2_with fail
    go_ret2
    refine ⟨rfl, d, ?_⟩
    rw [← HRC.out]; rfl

set_option maxHeartbeats 800000 in
set_option maxRecDepth 100000 in
theorem end_any (b : Nat) (s : Bytes) (p : Nat) (w : World) (h : Rd b s p w) (hp : p ≤ 8 * s.length) (h8 : 8 * s.length - p < 8) (hz : ofB ((bitsOf s).drop p) = 0) (hs : s.length ≤ 1000000000) :
    Calls Try.prog 89 #[.pointer (some ⟨b, 0, none⟩)] w fun e w' => e = .returned (.int .i64 0) ∧ ∃ q, w' = w.drewN q := by
  have c1 := h.c1
  have HPK := Lib.hid (fun w' h => peek_any b s p p (8 * s.length - p) w' h (by omega) (by omega) hs)
  rw [List.take_of_length_le (by rw [List.length_drop, bitsOf_len]; omega), hz] at HPK
  have H := Lib.hid h
  clear h hz
  have h8' : ¬ (8 : Int) ≤ ((8 * s.length - p : Nat) : Int) := by omega
  go_enter Try.func89, Try.ntmps89
  go_wp2_with fail
  refine (left_any b s p _ H.out hp hs).mono ?_
  rintro e w1 ⟨rfl, d, rfl⟩
  have HD := H.out.drewN d
  generalize 8 * s.length - p = m at *
  go_wp2_with fail
  refine (HPK.out _ HD).mono ?_
  rintro e w1 ⟨rfl, rfl⟩
  go_wp2_with fail
  go_ret
  exact ⟨rfl, d, rfl⟩

end Go.Proofs.Ytnjcelilljniaaa
