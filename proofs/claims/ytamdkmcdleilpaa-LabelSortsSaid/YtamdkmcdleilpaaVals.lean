/-
  Values: utf8.RuneLen, label.Value; the reference's wide, Value.
-/
import Derived.Test.YtamdkmcdleilpaaPlainVal
import Derived.BigQuiet
namespace Go.Proofs.Ytamdkmcdleilpaa
open Go.RowKit

theorem dec_le (l : Bytes) : (dec l).1 ≤ 1114111 := by
  by_cases h : (byteAt l 0).toNat < 128
  · rw [dec_low h]; show (byteAt l 0).toNat ≤ _; omega
  · exact (dec_high h).2.1

set_option maxRecDepth 100000 in
set_option maxHeartbeats 1000000 in
theorem runeLen_any (r : Nat) (hr : r ≤ 1114111) (w : World) :
    Calls Try.prog 53 #[.int .i32 r] w fun e w' => e = .returned (.int .i64 (runeLen r)) ∧ w = w' := by
  by_cases h1 : r ≤ 127
  · have HE := Lib.hid (runeLen_1 (c := r) (by omega))
    go_enter Try.func53, Try.ntmps53
    go_wp2_with fail
    go_ret
    exact ⟨by rw [HE.out]; rfl, rfl⟩
  · by_cases h2 : r ≤ 2047
    · have HE := Lib.hid (runeLen_2 (c := r) (by omega) (by omega))
      go_enter Try.func53, Try.ntmps53
      go_wp2_with fail
      go_ret
      exact ⟨by rw [HE.out]; rfl, rfl⟩
    · by_cases h3 : 55296 ≤ r ∧ r ≤ 57343
      · have HE := Lib.hid (show runeLen r = -1 by unfold runeLen; rw [if_neg (by omega), if_neg (by omega), if_pos h3])
        obtain ⟨h3, h4⟩ := h3
        go_enter Try.func53, Try.ntmps53
        go_wp2_with fail
        go_ret
        exact ⟨by rw [HE.out]; rfl, rfl⟩
      · have h34 : r < 55296 ∨ 57343 < r := by omega
        by_cases h5 : r ≤ 65535
        · have HE := Lib.hid (runeLen_3 (c := r) (by omega) (by omega) (by omega))
          clear h3
          rcases h34 with h34 | h34 <;>
          ( go_enter Try.func53, Try.ntmps53
            go_wp2_with fail
            go_ret
            exact ⟨by rw [HE.out]; rfl, rfl⟩)
        · have HE := Lib.hid (runeLen_4 (c := r) (by omega) (by omega))
          clear h3
          have h34 : 57343 < r := by omega
          go_enter Try.func53, Try.ntmps53
          go_wp2_with fail
          go_ret
          exact ⟨by rw [HE.out]; rfl, rfl⟩

set_option maxRecDepth 100000 in
set_option maxHeartbeats 1000000 in
theorem value_any (l : Bytes) (w : World) :
    Calls Try.prog 26 #[.string (bs l)] w fun e w' => e = .returned (.bool (valueB l)) ∧ Below w.heap.size w w' := by
  by_cases h1 : 32 < l.length
  · have HE := Lib.hid (value_no h1)
    go_enter Try.func26, Try.ntmps26
    go_wp2_with fail
    go_ret
    exact ⟨by rw [HE.out]; rfl, Below.refl _ _⟩
  · have HV := Lib.hid (value_is (l := l) (by omega))
    have HW := Lib.hid (wide_ge l.length l (Nat.le_refl _))
    go_enter Try.func26, Try.ntmps26
    go_wp2_with fail
    go_loopw [3, 5] (fun t r wr => ∃ (k : Nat) (z : Int), k ≤ l.length ∧ 0 ≤ z ∧ t = .int .i64 z ∧ wr = w.iter (bs l) k ∧ z + wideN l.length (l.drop k) = wideN l.length l)
      (fun t r wr => l.length - wr.iterPos w.heap.size)
    case atStart => exact ⟨0, 0, Nat.zero_le _, by omega, rfl, rfl, by rw [List.drop_zero]; omega⟩
    case round =>
      obtain ⟨k, z, hk, z0, rfl, rfl, hz⟩ := hrel
      obtain ⟨v1, v2, -⟩ := wide_ge l.length (l.drop k) (by rw [List.length_drop]; omega)
      have hW := HW.out.2.1
      have z1 : z ≤ 128 := by omega
      by_cases hlt : k < l.length
      · have hst := wide_step hlt
        have hnx : ∀ ty, _ := fun ty => next_bs (P := Try.prog) w l k hlt ty
        obtain ⟨d1, d2⟩ := dec_wide (l.drop k)
        obtain ⟨e1, e2⟩ := dec_len (l := l.drop k) (by intro h'; have := congrArg List.length h'; rw [List.length_drop] at this; simp at this; omega)
        rw [List.length_drop] at e1
        have HZ := Lib.hid hz
        have HS := Lib.hid hst
        clear hz hst v1 v2 hW
        have hr : (dec (l.drop k)).1 ≤ 1114111 := dec_le _
        generalize (dec (l.drop k)).1 = r at *
        generalize (dec (l.drop k)).2 = n at *
        go_wp2_with fail
        refine (runeLen_any r hr _).mono ?_
        rintro e w1 ⟨rfl, rfl⟩
        go_wp2_with fail
        go_roundw
        case rel => exact ⟨k + n, z + runeLen r, by omega, by omega, by go_num, rfl, by have := HZ.out; have := HS.out; omega⟩
        case measure => simp; omega
      · have hnx : ∀ ty, _ := fun ty => next_end (P := Try.prog) w l k hlt ty
        have hl : l.drop k = [] := List.drop_eq_nil_of_le (by omega)
        have h0 : wideN l.length ([] : Bytes) = 0 := by cases l.length <;> simp [wideN]
        rw [hl, h0] at hz
        have HE := Lib.hid (show valueB l = (z == (l.length : Int)) by
          rw [HV.out]
          cases hd : (z == (l.length : Int)) with
          | true => rw [beq_iff_eq] at hd; exact decide_eq_true (by omega)
          | false => rw [beq_eq_false_iff_ne] at hd; exact decide_eq_false (by omega))
        clear hz h0 hl v1 v2 hW
        go_wp2_with fail
        go_ret
        exact ⟨by rw [HE.out]; rfl, (Below.refl _ _).alloc (Nat.le_refl _) _⟩

end Go.Proofs.Ytamdkmcdleilpaa
