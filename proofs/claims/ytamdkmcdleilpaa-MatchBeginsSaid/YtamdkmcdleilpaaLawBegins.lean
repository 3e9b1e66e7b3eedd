/-
  MatchBegins: what begins with two texts, one behind the other, begins with the first.
-/
import Derived.Test.YtamdkmcdleilpaaRefOne
namespace Go.Proofs.Ytamdkmcdleilpaa
open Go.RowKit

set_option maxRecDepth 100000 in
set_option maxHeartbeats 2000000 in
theorem begins_yyy (n x y : Bytes) (a : Option Addr) (cap : Nat) (ls : List Lab) (w : World) (hn : n.length ≤ 1024) (hx : x.length ≤ 1024) (hy : y.length ≤ 1024) (HS : Hid (St w w [fun w => Labels w (.slice a ls.length cap) ls]))
    (HL : Hid (isPre (x ++ y) (getL ls n) = true)) (HH : Hid (isPre x (getL ls n) = true)) (HE : Hid ((getL ls n == (x ++ y)) = true)) :
    Calls Try.prog 4 #[.string (bs n), .string (bs x), .string (bs y), .slice a ls.length cap] w fun e w' => e = .returned (.bool true) ∧ Below w.heap.size w w' := by
  have hxy : (x ++ y).length ≤ 2048 := by rw [List.length_append]; omega
  have hsum : ¬ x.length + y.length > 9223372036854775807 := by omega
  go_enter Try.func4, Try.ntmps4
  go_wp2_with fail
  refine (large_any _ ls _ (HS.out.get 0 rfl)).mono ?_
  rintro e w1 ⟨bb, rfl, hsm, hb⟩
  have HS1 := Lib.hid (HS.out.step hb)
  clear hb
  cases bb with
  | true =>
    clear hsm
    go_wp2_with fail
    go_ret
    exact ⟨rfl, HS1.out.bel⟩
  | false =>
    have hsm' := hsm rfl
    have hgl := getL_len ls n
    clear hsm
    go_wp2_with fail
    refine (is_b (c := true) (one_2 n (x ++ y) (.slice none 0 0) _ ls _ (HS1.out.get 0 rfl) (by omega) (by omega)) HL.out).mono ?_
    rintro e w2 ⟨rfl, hb⟩
    have HS2 := Lib.hid (HS1.out.step hb)
    clear hb
    go_wp2_with fail
    refine (is_b (c := true) (one_2 n x (.slice none 0 0) _ ls _ (HS2.out.get 0 rfl) (by omega) (by omega)) HH.out).mono ?_
    rintro e w3 ⟨rfl, hb⟩
    have HS3 := Lib.hid (HS2.out.step hb)
    clear hb
    go_wp2_with fail
    refine (is_b (c := true) (one_0 n (x ++ y) (.slice none 0 0) _ ls _ (HS3.out.get 0 rfl)) HE.out).mono ?_
    rintro e w4 ⟨rfl, hb⟩
    have HS4 := Lib.hid (HS3.out.step hb)
    clear hb
    go_wp2_with fail
    refine (is_b (c := true) (one_2 n [] (.slice none 0 0) _ ls _ (HS4.out.get 0 rfl) (by simp) (by omega)) (isPre_nil _)).mono ?_
    rintro e w5 ⟨rfl, hb⟩
    have HS5 := Lib.hid (HS4.out.step hb)
    clear hb
    go_wp2_with fail
    refine (is_b (c := true) (refOne_2 n (x ++ y) (.slice none 0 0) _ ls _ (HS5.out.get 0 rfl) (by omega) (by omega)) HL.out).mono ?_
    rintro e w6 ⟨rfl, hb⟩
    have HS6 := Lib.hid (HS5.out.step hb)
    clear hb
    go_wp2_with fail
    go_ret
    exact ⟨rfl, HS6.out.bel⟩

set_option maxRecDepth 100000 in
set_option maxHeartbeats 2000000 in
theorem begins_yyn (n x y : Bytes) (a : Option Addr) (cap : Nat) (ls : List Lab) (w : World) (hn : n.length ≤ 1024) (hx : x.length ≤ 1024) (hy : y.length ≤ 1024) (HS : Hid (St w w [fun w => Labels w (.slice a ls.length cap) ls]))
    (HL : Hid (isPre (x ++ y) (getL ls n) = true)) (HH : Hid (isPre x (getL ls n) = true)) (HE : Hid ((getL ls n == (x ++ y)) = false)) :
    Calls Try.prog 4 #[.string (bs n), .string (bs x), .string (bs y), .slice a ls.length cap] w fun e w' => e = .returned (.bool true) ∧ Below w.heap.size w w' := by
  have hxy : (x ++ y).length ≤ 2048 := by rw [List.length_append]; omega
  have hsum : ¬ x.length + y.length > 9223372036854775807 := by omega
  go_enter Try.func4, Try.ntmps4
  go_wp2_with fail
  refine (large_any _ ls _ (HS.out.get 0 rfl)).mono ?_
  rintro e w1 ⟨bb, rfl, hsm, hb⟩
  have HS1 := Lib.hid (HS.out.step hb)
  clear hb
  cases bb with
  | true =>
    clear hsm
    go_wp2_with fail
    go_ret
    exact ⟨rfl, HS1.out.bel⟩
  | false =>
    have hsm' := hsm rfl
    have hgl := getL_len ls n
    clear hsm
    go_wp2_with fail
    refine (is_b (c := true) (one_2 n (x ++ y) (.slice none 0 0) _ ls _ (HS1.out.get 0 rfl) (by omega) (by omega)) HL.out).mono ?_
    rintro e w2 ⟨rfl, hb⟩
    have HS2 := Lib.hid (HS1.out.step hb)
    clear hb
    go_wp2_with fail
    refine (is_b (c := true) (one_2 n x (.slice none 0 0) _ ls _ (HS2.out.get 0 rfl) (by omega) (by omega)) HH.out).mono ?_
    rintro e w3 ⟨rfl, hb⟩
    have HS3 := Lib.hid (HS2.out.step hb)
    clear hb
    go_wp2_with fail
    refine (is_b (c := false) (one_0 n (x ++ y) (.slice none 0 0) _ ls _ (HS3.out.get 0 rfl)) HE.out).mono ?_
    rintro e w4 ⟨rfl, hb⟩
    have HS4 := Lib.hid (HS3.out.step hb)
    clear hb
    go_wp2_with fail
    refine (is_b (c := true) (one_2 n [] (.slice none 0 0) _ ls _ (HS4.out.get 0 rfl) (by simp) (by omega)) (isPre_nil _)).mono ?_
    rintro e w5 ⟨rfl, hb⟩
    have HS5 := Lib.hid (HS4.out.step hb)
    clear hb
    go_wp2_with fail
    refine (is_b (c := true) (refOne_2 n (x ++ y) (.slice none 0 0) _ ls _ (HS5.out.get 0 rfl) (by omega) (by omega)) HL.out).mono ?_
    rintro e w6 ⟨rfl, hb⟩
    have HS6 := Lib.hid (HS5.out.step hb)
    clear hb
    go_wp2_with fail
    go_ret
    exact ⟨rfl, HS6.out.bel⟩

set_option maxRecDepth 100000 in
set_option maxHeartbeats 2000000 in
theorem begins_nyn (n x y : Bytes) (a : Option Addr) (cap : Nat) (ls : List Lab) (w : World) (hn : n.length ≤ 1024) (hx : x.length ≤ 1024) (hy : y.length ≤ 1024) (HS : Hid (St w w [fun w => Labels w (.slice a ls.length cap) ls]))
    (HL : Hid (isPre (x ++ y) (getL ls n) = false)) (HH : Hid (isPre x (getL ls n) = true)) (HE : Hid ((getL ls n == (x ++ y)) = false)) :
    Calls Try.prog 4 #[.string (bs n), .string (bs x), .string (bs y), .slice a ls.length cap] w fun e w' => e = .returned (.bool true) ∧ Below w.heap.size w w' := by
  have hxy : (x ++ y).length ≤ 2048 := by rw [List.length_append]; omega
  have hsum : ¬ x.length + y.length > 9223372036854775807 := by omega
  go_enter Try.func4, Try.ntmps4
  go_wp2_with fail
  refine (large_any _ ls _ (HS.out.get 0 rfl)).mono ?_
  rintro e w1 ⟨bb, rfl, hsm, hb⟩
  have HS1 := Lib.hid (HS.out.step hb)
  clear hb
  cases bb with
  | true =>
    clear hsm
    go_wp2_with fail
    go_ret
    exact ⟨rfl, HS1.out.bel⟩
  | false =>
    have hsm' := hsm rfl
    have hgl := getL_len ls n
    clear hsm
    go_wp2_with fail
    refine (is_b (c := false) (one_2 n (x ++ y) (.slice none 0 0) _ ls _ (HS1.out.get 0 rfl) (by omega) (by omega)) HL.out).mono ?_
    rintro e w2 ⟨rfl, hb⟩
    have HS2 := Lib.hid (HS1.out.step hb)
    clear hb
    go_wp2_with fail
    refine (is_b (c := true) (one_2 n x (.slice none 0 0) _ ls _ (HS2.out.get 0 rfl) (by omega) (by omega)) HH.out).mono ?_
    rintro e w3 ⟨rfl, hb⟩
    have HS3 := Lib.hid (HS2.out.step hb)
    clear hb
    go_wp2_with fail
    refine (is_b (c := false) (one_0 n (x ++ y) (.slice none 0 0) _ ls _ (HS3.out.get 0 rfl)) HE.out).mono ?_
    rintro e w4 ⟨rfl, hb⟩
    have HS4 := Lib.hid (HS3.out.step hb)
    clear hb
    go_wp2_with fail
    refine (is_b (c := true) (one_2 n [] (.slice none 0 0) _ ls _ (HS4.out.get 0 rfl) (by simp) (by omega)) (isPre_nil _)).mono ?_
    rintro e w5 ⟨rfl, hb⟩
    have HS5 := Lib.hid (HS4.out.step hb)
    clear hb
    go_wp2_with fail
    refine (is_b (c := false) (refOne_2 n (x ++ y) (.slice none 0 0) _ ls _ (HS5.out.get 0 rfl) (by omega) (by omega)) HL.out).mono ?_
    rintro e w6 ⟨rfl, hb⟩
    have HS6 := Lib.hid (HS5.out.step hb)
    clear hb
    go_wp2_with fail
    go_ret
    exact ⟨rfl, HS6.out.bel⟩

set_option maxRecDepth 100000 in
set_option maxHeartbeats 2000000 in
theorem begins_nnn (n x y : Bytes) (a : Option Addr) (cap : Nat) (ls : List Lab) (w : World) (hn : n.length ≤ 1024) (hx : x.length ≤ 1024) (hy : y.length ≤ 1024) (HS : Hid (St w w [fun w => Labels w (.slice a ls.length cap) ls]))
    (HL : Hid (isPre (x ++ y) (getL ls n) = false)) (HH : Hid (isPre x (getL ls n) = false)) (HE : Hid ((getL ls n == (x ++ y)) = false)) :
    Calls Try.prog 4 #[.string (bs n), .string (bs x), .string (bs y), .slice a ls.length cap] w fun e w' => e = .returned (.bool true) ∧ Below w.heap.size w w' := by
  have hxy : (x ++ y).length ≤ 2048 := by rw [List.length_append]; omega
  have hsum : ¬ x.length + y.length > 9223372036854775807 := by omega
  go_enter Try.func4, Try.ntmps4
  go_wp2_with fail
  refine (large_any _ ls _ (HS.out.get 0 rfl)).mono ?_
  rintro e w1 ⟨bb, rfl, hsm, hb⟩
  have HS1 := Lib.hid (HS.out.step hb)
  clear hb
  cases bb with
  | true =>
    clear hsm
    go_wp2_with fail
    go_ret
    exact ⟨rfl, HS1.out.bel⟩
  | false =>
    have hsm' := hsm rfl
    have hgl := getL_len ls n
    clear hsm
    go_wp2_with fail
    refine (is_b (c := false) (one_2 n (x ++ y) (.slice none 0 0) _ ls _ (HS1.out.get 0 rfl) (by omega) (by omega)) HL.out).mono ?_
    rintro e w2 ⟨rfl, hb⟩
    have HS2 := Lib.hid (HS1.out.step hb)
    clear hb
    go_wp2_with fail
    refine (is_b (c := false) (one_2 n x (.slice none 0 0) _ ls _ (HS2.out.get 0 rfl) (by omega) (by omega)) HH.out).mono ?_
    rintro e w3 ⟨rfl, hb⟩
    have HS3 := Lib.hid (HS2.out.step hb)
    clear hb
    go_wp2_with fail
    refine (is_b (c := false) (one_0 n (x ++ y) (.slice none 0 0) _ ls _ (HS3.out.get 0 rfl)) HE.out).mono ?_
    rintro e w4 ⟨rfl, hb⟩
    have HS4 := Lib.hid (HS3.out.step hb)
    clear hb
    go_wp2_with fail
    refine (is_b (c := true) (one_2 n [] (.slice none 0 0) _ ls _ (HS4.out.get 0 rfl) (by simp) (by omega)) (isPre_nil _)).mono ?_
    rintro e w5 ⟨rfl, hb⟩
    have HS5 := Lib.hid (HS4.out.step hb)
    clear hb
    go_wp2_with fail
    refine (is_b (c := false) (refOne_2 n (x ++ y) (.slice none 0 0) _ ls _ (HS5.out.get 0 rfl) (by omega) (by omega)) HL.out).mono ?_
    rintro e w6 ⟨rfl, hb⟩
    have HS6 := Lib.hid (HS5.out.step hb)
    clear hb
    go_wp2_with fail
    go_ret
    exact ⟨rfl, HS6.out.bel⟩

theorem begins_walk (n x y : Bytes) (v : Value) (ls : List Lab) (w : World) (hv : Labels w v ls) :
    Calls Try.prog 4 #[.string (bs n), .string (bs x), .string (bs y), v] w fun e w' => e = .returned (.bool true) ∧ Below w.heap.size w w' := by
  have HS := Lib.hid ((St.start w).add (fun w => Labels w v ls) (fun w' hb => hv.below hb))
  obtain ⟨a, cap, rfl, -⟩ := hv
  by_cases hn : n.length ≤ 1024
  · by_cases hx : x.length ≤ 1024
    · by_cases hy : y.length ≤ 1024
      · cases h1 : isPre (x ++ y) (getL ls n) with
        | true =>
          have h2 := isPre_app h1
          cases h3 : (getL ls n == (x ++ y)) with
          | true => exact begins_yyy n x y a cap ls w hn hx hy HS (Lib.hid h1) (Lib.hid h2) (Lib.hid h3)
          | false => exact begins_yyn n x y a cap ls w hn hx hy HS (Lib.hid h1) (Lib.hid h2) (Lib.hid h3)
        | false =>
          have h3 : (getL ls n == (x ++ y)) = false := by
            cases h : (getL ls n == (x ++ y)) with
            | true => rw [isPre_eq h] at h1; cases h1
            | false => rfl
          cases h2 : isPre x (getL ls n) with
          | true => exact begins_nyn n x y a cap ls w hn hx hy HS (Lib.hid h1) (Lib.hid h2) (Lib.hid h3)
          | false => exact begins_nnn n x y a cap ls w hn hx hy HS (Lib.hid h1) (Lib.hid h2) (Lib.hid h3)
      · go_enter Try.func4, Try.ntmps4
        go_wp2_with fail
        go_ret
        exact ⟨rfl, Below.refl _ _⟩
    · go_enter Try.func4, Try.ntmps4
      go_wp2_with fail
      go_ret
      exact ⟨rfl, Below.refl _ _⟩
  · go_enter Try.func4, Try.ntmps4
    go_wp2_with fail
    go_ret
    exact ⟨rfl, Below.refl _ _⟩

end Go.Proofs.Ytamdkmcdleilpaa
