/-
  delta.Decode of what Encode says.
-/
import Derived.Test.YtnjcelilljniaaaTRest
namespace Go.Proofs.Ytnjcelilljniaaa
open Go.RowKit

theorem enc_any (vv : Value) (n st : Nat) (v : Int) (w : World) (hv : Samples w vv (smpL n st v)) (hn : n ≤ 90) (hst1 : 1 ≤ st) (hst : st ≤ 300) (hv0 : -9223372036854775808 ≤ v) (hv1 : v ≤ 9223372036854775807) :
    Calls Try.prog 4 #[vv] w fun e w' => e = .returned (.tuple #[.string (bs (encL n st v)), .int .i64 0]) ∧ Below w.heap.size w w' := by
  by_cases h : n < 2
  · exact enc_small vv n st v w hv h hst1 hst hv0 hv1
  · exact enc_big vv n st v w hv (by omega) hn hst1 hst hv0 hv1

noncomputable def tailE (n st : Nat) : Bytes := if n < 2 then [] else restL n st
theorem encL_parts (n st : Nat) (v : Int) (h : n ≠ 0) : encL n st v = uintL n ++ (uintL 0 ++ (uintL (foldN v) ++ tailE n st)) := by
  unfold encL tailE
  rw [if_neg h, List.append_assoc, List.append_assoc]
theorem drop_len {a b : Bytes} : (a ++ b).drop a.length = b := by simp
/-- Its bits, as they were written. -/
def WPacked (n st : Nat) : Prop := Packed (packB (bitsE (bestL (tsL st n)) (bestL (vsL st n)) (prsL st (n - 1)))) (bitsE (bestL (tsL st n)) (bestL (vsL st n)) (prsL st (n - 1)))
/-- Any bits can be filled up. -/
theorem packed_any (B : List Bool) : Packed (packB B) B := by
  have h : ∀ (k : Nat) (B : List Bool), B.length ≤ 8 * k → ∃ P, Packed P B := by
    intro k
    induction k with
    | zero =>
      intro B hB
      have : B = [] := List.eq_nil_of_length_eq_zero (by omega)
      subst this
      exact ⟨[], 0, by omega, rfl⟩
    | succ k ih =>
      intro B hB
      by_cases h8 : 8 < B.length
      · obtain ⟨P, pad, hp, e⟩ := ih (B.drop 8) (by rw [List.length_drop]; omega)
        refine ⟨UInt8.ofNat (ofB (B.take 8)) :: P, pad, hp, ?_⟩
        show toB (UInt8.ofNat (ofB (B.take 8))).toNat 8 ++ bitsOf P = _
        have hl : (B.take 8).length = 8 := by rw [List.length_take]; omega
        have hlt := ofB_lt (B.take 8)
        rw [hl] at hlt
        have ht := toB_ofB (B.take 8)
        rw [hl] at ht
        rw [UInt8.toNat_ofNat_of_lt' (by show _ < 256; omega), ht, e, ← List.append_assoc, List.take_append_drop]
      · by_cases h0 : B.length = 0
        · have : B = [] := List.eq_nil_of_length_eq_zero h0
          subst this
          exact ⟨[], 0, by omega, rfl⟩
        · obtain ⟨hp, _⟩ : Packed ([] ++ [UInt8.ofNat (ofB (B ++ List.replicate (8 - B.length) false))]) B ∧ True := by
            refine ⟨⟨8 - B.length, by omega, ?_⟩, trivial⟩
            have hl : (B ++ List.replicate (8 - B.length) false).length = 8 := by rw [List.length_append, List.length_replicate]; omega
            have hlt := ofB_lt (B ++ List.replicate (8 - B.length) false)
            rw [hl] at hlt
            have ht := toB_ofB (B ++ List.replicate (8 - B.length) false)
            rw [hl] at ht
            rw [List.nil_append, bitsOf_one, UInt8.toNat_ofNat_of_lt' (by show _ < 256; omega), ht]
          exact ⟨_, hp⟩
  obtain ⟨P, hP⟩ := h B.length B (by omega)
  rw [← hP.is]; exact hP
theorem encL_len (n st : Nat) (v : Int) (hn : n ≤ 90) (hst : st ≤ 300) (hv0 : -9223372036854775808 ≤ v) (hv1 : v ≤ 9223372036854775807) : (encL n st v).length ≤ 100000 := by
  have h1 := uintL_len10 (n := n) (by omega)
  have h2 := uintL_len10 (n := 0) (by omega)
  have h3 := uintL_len10 (foldN_lt hv0 hv1)
  by_cases h0 : n = 0
  · subst h0
    show (uintL 0).length ≤ _
    omega
  · rw [encL_parts n st v h0]
    simp only [List.length_append]
    have h4 : (tailE n st).length ≤ 90000 := by
      unfold tailE
      by_cases h5 : n < 2
      · rw [if_pos h5]; simp
      · rw [if_neg h5]
        unfold restL
        have h6 := packed_len (packed_any (bitsE (bestL (tsL st n)) (bestL (vsL st n)) (prsL st (n - 1))))
        have h7 := bitsE_le (bestL_le (tsL st n)) (bestL_le (vsL st n)) (prsL st (n - 1))
        rw [prsL_len] at h7
        rw [List.length_append]
        simp only [List.length_cons, List.length_nil]
        omega
    omega

theorem own_first (w : World) (st : Nat) (v : Int) : OwnR 25 2 encS (w.alloc (.cells #[.int .i64 0, .int .i64 v] 25)) w.heap.size (.slice (some ⟨w.heap.size, 0, none⟩) 1 1) (smpL 1 st v) := by
  have h := World.ownsRow_lit w #[.int .i64 0, .int .i64 v] 1 (base := w.heap.size) (e := 25) (size := 2) (Nat.le_refl _) (by decide) rfl
  have e : smpL 1 st v = [(0, v)] := by simp [smpL]
  rw [e]
  exact h

set_option maxHeartbeats 2000000 in
set_option maxRecDepth 100000 in
theorem decode_any (n st : Nat) (v : Int) (w : World) (hn : n ≤ 90) (hst1 : 1 ≤ st) (hst : st ≤ 300) (hv0 : -9223372036854775808 ≤ v) (hv1 : v ≤ 9223372036854775807) :
    Calls Try.prog 56 #[.string (bs (encL n st v))] w fun e w' => ∃ u, e = .returned (.tuple #[u, .int .i64 0]) ∧ Samples w' u (smpL n st v) ∧ Below w.heap.size w w' := by
  have hSl := encL_len n st v hn hst hv0 hv1
  by_cases h0 : n = 0
  · subst h0
    have e0 : encL 0 st v = uintL 0 := rfl
    have e1 : uintL 0 = [0] := by rw [uintL_small (by decide)]; rfl
    rw [e0] at hSl ⊢
    have HG := Lib.hid (getUint_any (uintL 0) [] 0 0 w (by simp) (by omega) (by omega))
    have hl : (uintL 0).length = 1 := by rw [e1]; rfl
    clear e0 e1
    rw [Nat.zero_add] at HG
    generalize uintL 0 = S at *
    change Hid (Calls Try.prog 54 #[.string (bs S), .int .i64 0] w fun e w' => e = .returned (.tuple #[.int .u64 0, .int .i64 S.length, .int .i64 0]) ∧ w = w') at HG
    go_enter Try.func56, Try.ntmps56
    go_wp2_with fail
    refine HG.out.mono ?_
    rintro e w1 ⟨rfl, rfl⟩
    go_wp2_with fail
    go_ret2
    exact ⟨_, rfl, Samples.nil _, Below.refl _ _⟩
  · have HP := Lib.hid (encL_parts n st v h0)
    obtain ⟨S, hS⟩ : ∃ S, S = encL n st v := ⟨_, rfl⟩
    have HE := Lib.hid (fun u w' h => enc_any u n st v w' h hn hst1 hst hv0 hv1)
    rw [← hS] at HP hSl HE ⊢
    have hfl := foldN_lt hv0 hv1
    have HG1 := Lib.hid (fun w' => getUint_any S (uintL 0 ++ (uintL (foldN v) ++ tailE n st)) 0 n w' (by rw [List.drop_zero]; exact HP.out) (by omega) (by omega))
    have HG2 := Lib.hid (fun w' => getUint_any S (uintL (foldN v) ++ tailE n st) (uintL n).length 0 w' (by rw [HP.out, drop_len]) (by omega) (by omega))
    have HG3 := Lib.hid (fun w' => getInt_any S (tailE n st) ((uintL n).length + (uintL 0).length) v w' (by rw [HP.out, ← List.drop_drop, drop_len, drop_len]) hv0 hv1 (by omega))
    have hlen : S.length = (uintL n).length + (uintL 0).length + (uintL (foldN v)).length + (tailE n st).length := by rw [HP.out]; simp only [List.length_append]; omega
    have HD := Lib.hid (show S.drop ((uintL n).length + (uintL 0).length + (uintL (foldN v)).length) = tailE n st by rw [HP.out, ← List.drop_drop, ← List.drop_drop, drop_len, drop_len, drop_len])
    clear hS
    rw [Nat.zero_add] at HG1
    have hp1 : 1 ≤ (uintL n).length := uintL_pos n
    generalize (uintL n).length + (uintL 0).length + (uintL (foldN v)).length = p3 at *
    generalize (uintL n).length + (uintL 0).length = p2 at *
    generalize (uintL n).length = p1 at *
    change Hid (∀ w', Calls Try.prog 54 #[.string (bs S), .int .i64 0] w' fun e w'' => e = .returned (.tuple #[.int .u64 n, .int .i64 p1, .int .i64 0]) ∧ w' = w'') at HG1
    change Hid (∀ w', Calls Try.prog 54 #[.string (bs S), .int .i64 p1] w' fun e w'' => e = .returned (.tuple #[.int .u64 0, .int .i64 p2, .int .i64 0]) ∧ w' = w'') at HG2
    have hnz : ((n : Int) == 0) = false := by rw [beq_eq_false_iff_ne]; omega
    go_enter Try.func56, Try.ntmps56
    go_wp2_with fail
    refine (HG1.out _).mono ?_
    rintro e w1 ⟨rfl, rfl⟩
    go_wp2_with fail
    refine (HG2.out _).mono ?_
    rintro e w1 ⟨rfl, rfl⟩
    go_wp2_with fail
    refine (HG3.out _).mono ?_
    rintro e w1 ⟨rfl, rfl⟩
    have HO := Lib.hid (own_first w st v)
    have HA := Lib.hid (show Below w.heap.size w (w.alloc (.cells #[.int .i64 0, .int .i64 v] 25)) from (Below.refl _ _).alloc (Nat.le_refl _) _)
    by_cases h1 : n < 2
    · obtain rfl : n = 1 := by omega
      have ht0 : (tailE 1 st).length = 0 := rfl
      rw [ht0, Nat.add_zero] at hlen
      have hl2 : ((p3 : Int) == (S.length : Int)) = true := by rw [hlen]; simp
      clear ht0
      go_wp2_with fail
      refine (HE.out _ _ HO.out.samples).mono ?_
      rintro e w2 ⟨rfl, b2⟩
      have HS2 := Lib.hid (HO.out.samples.below b2)
      have HB2 := Lib.hid (HA.out.trans (b2.mono HA.out.size))
      clear b2
      go_wp2_with fail
      go_ret2
      exact ⟨_, rfl, HS2.out, HB2.out⟩
    · have hn2 : 2 ≤ n := by omega
      have hte : tailE n st = restL n st := by unfold tailE; rw [if_neg h1]
      rw [hte] at HD hlen
      have HRe := Lib.hid (rest_any w.heap.size 1 w.heap.size n st v _ HO.out HA.out.size hn2 hn hst1 hst hv0 hv1 (packed_any _))
      have HT := Lib.hid (show (S.drop p3).take (restL n st).length = restL n st by rw [HD.out, List.take_length])
      generalize restL n st = R at *
      go_wp2_with fail
      rw [HT.out]
      refine HRe.out.mono ?_
      rintro e w2 ⟨g, cp, rfl, ho2, b2⟩
      have HO2 := Lib.hid ho2
      have HB2 := Lib.hid (HA.out.trans b2)
      clear ho2 b2
      go_wp2_with fail
      refine (HE.out _ _ HO2.out.samples).mono ?_
      rintro e w3 ⟨rfl, b3⟩
      have HS3 := Lib.hid (HO2.out.samples.below b3)
      have HB3 := Lib.hid (HB2.out.trans (b3.mono HB2.out.size))
      clear b3
      go_wp2_with fail
      go_ret2
      exact ⟨_, rfl, HS3.out, HB3.out⟩

end Go.Proofs.Ytnjcelilljniaaa
