/-
  MatchApart: of one name and value, any labels are matched by = or by !=; what = matches ^= matches, too, and a set of that one value.
-/
import Derived.Test.YtamdkmcdleilpaaLarge
namespace Go.Proofs.Ytamdkmcdleilpaa
open Go.RowKit

theorem is_b {P : Program} {f : Nat} {args : Array Value} {w : World} {b c : Bool} {Q : World → Prop} (h : Calls P f args w fun e w' => e = .returned (.bool b) ∧ Q w') (e : b = c) :
    Calls P f args w fun e w' => e = .returned (.bool c) ∧ Q w' := e ▸ h
theorem same_w {P : Program} {f : Nat} {args : Array Value} {w : World} {v : Value} (h : Calls P f args w fun e w' => e = .returned v ∧ w = w') :
    Calls P f args w fun e w' => e = .returned v ∧ Below w.heap.size w w' := h.mono fun _ _ ⟨he, hw⟩ => ⟨he, hw ▸ Below.refl _ _⟩
theorem isPre_self (x : Bytes) : isPre x x = true := by simp [isPre]
theorem isPre_nil (x : Bytes) : isPre [] x = true := by simp [isPre]
theorem hasS_one (x y : Bytes) : hasS [x] y = (y == x) := by simp [hasS]
theorem getL_len (ls : List Lab) (n : Bytes) : (getL ls n).length ≤ wt ls := by
  induction ls with
  | nil => simp [getL]
  | cons x r ih =>
    simp only [getL]
    have e : wt (x :: r) = (x.1.length + x.2.length) + wt r := by simp [wt]
    split <;> omega
theorem strs_lit (w : World) (x : Bytes) : Strs (w.alloc (.cells #[.string (bs x)] 9)) (.slice (some ⟨w.heap.size, 0, none⟩) 1 1) [x] := by
  refine ⟨_, 1, rfl, Nat.le_refl _, by omega, fun _ => ⟨w.heap.size, 0, rfl, by simp, fun i hi => ?_⟩⟩
  have : i = 0 := by simpa using hi
  subst this
  rw [World.cell?_alloc_at _ _ _ _ rfl]; rfl
theorem isPre_app {a b g : Bytes} (h : isPre (a ++ b) g = true) : isPre a g = true := by
  unfold isPre at *
  rw [beq_iff_eq] at *
  have h2 := congrArg (List.take a.length) h
  rw [List.take_take, List.take_append_of_le_length (Nat.le_refl _), List.take_length] at h2
  rwa [Nat.min_eq_left (by simp)] at h2
theorem isPre_eq {a g : Bytes} (h : (g == a) = true) : isPre a g = true := by
  rw [beq_iff_eq] at h; rw [h]; exact isPre_self a

set_option maxRecDepth 100000 in
set_option maxHeartbeats 2000000 in
theorem apart_y (n x : Bytes) (a : Option Addr) (cap : Nat) (ls : List Lab) (w : World) (hn : n.length ≤ 1024) (hx : x.length ≤ 1024) (HS : Hid (St w w [fun w => Labels w (.slice a ls.length cap) ls])) (HE : Hid ((getL ls n == x) = true)) :
    Calls Try.prog 3 #[.string (bs n), .string (bs x), .slice a ls.length cap] w fun e w' => e = .returned (.bool true) ∧ Below w.heap.size w w' := by
  go_enter Try.func3, Try.ntmps3
  go_wp2_with fail
  refine (large_any _ ls _ (HS.out.get 0 rfl)).mono ?_
  rintro e w1 ⟨bb, rfl, hsm, hb⟩
  have HS1 := Lib.hid (HS.out.step hb)
  clear hb
  cases bb with
  | true =>
    clear hsm
    go_wp2_with fail
    go_ret
    exact ⟨rfl, HS1.out.bel⟩
  | false =>
    have hsm' := hsm rfl
    have hgl := getL_len ls n
    clear hsm
    go_wp2_with fail
    refine (is_b (c := true) (one_0 n x (.slice none 0 0) _ ls _ (HS1.out.get 0 rfl)) (HE.out)).mono ?_
    rintro e w2 ⟨rfl, hb⟩
    have HS2 := Lib.hid (HS1.out.step hb)
    clear hb
    go_wp2_with fail
    refine (is_b (c := false) (one_1 n x (.slice none 0 0) _ ls _ (HS2.out.get 0 rfl)) (by rw [HE.out]; rfl)).mono ?_
    rintro e w3 ⟨rfl, hb⟩
    have HS3 := Lib.hid (HS2.out.step hb)
    clear hb
    go_wp2_with fail
    refine (is_b (one_2 n x (.slice none 0 0) _ ls _ (HS3.out.get 0 rfl) (by omega) (by omega)) (isPre_eq HE.out)).mono ?_
    rintro e w4 ⟨rfl, hb⟩
    have HS4 := Lib.hid (HS3.out.step hb)
    clear hb
    go_wp2_with fail
    have HS5 := Lib.hid ((HS4.out.alloc (.cells #[.string (bs x)] 9)).add (fun w => Strs w _ [x]) (fun w' hb => (strs_lit _ x).below hb))
    refine (is_b (c := true) (one_3 n [] _ _ ls _ (HS5.out.get 1 rfl) [x] (HS5.out.get 0 rfl)) (by rw [hasS_one]; exact HE.out)).mono ?_
    rintro e w6 ⟨rfl, hb⟩
    have HS6 := Lib.hid (HS5.out.step hb)
    clear hb
    go_wp2_with fail
    refine (is_b (c := true) (one_2 n [] (.slice none 0 0) _ ls _ (HS6.out.get 1 rfl) (by simp) (by omega)) (isPre_nil _)).mono ?_
    rintro e w7 ⟨rfl, hb⟩
    have HS7 := Lib.hid (HS6.out.step hb)
    clear hb
    go_wp2_with fail
    refine (same_w (refGet_any _ ls n _ (HS7.out.get 1 rfl))).mono ?_
    rintro e w8 ⟨rfl, hb⟩
    have HS8 := Lib.hid (HS7.out.step hb)
    clear hb
    have hge : (getL ls n == x) = true := HE.out
    go_wp2_with fail
    refine (one_bad 4 n x (.slice none 0 0) _ _ (by omega)).mono ?_
    rintro e w9 ⟨rfl, hb⟩
    have HS9 := Lib.hid (HS8.out.step hb)
    clear hb
    go_wp2_with fail
    go_ret
    exact ⟨rfl, HS9.out.bel⟩

set_option maxRecDepth 100000 in
set_option maxHeartbeats 2000000 in
theorem apart_n (n x : Bytes) (a : Option Addr) (cap : Nat) (ls : List Lab) (w : World) (hn : n.length ≤ 1024) (hx : x.length ≤ 1024) (HS : Hid (St w w [fun w => Labels w (.slice a ls.length cap) ls])) (HE : Hid ((getL ls n == x) = false)) :
    Calls Try.prog 3 #[.string (bs n), .string (bs x), .slice a ls.length cap] w fun e w' => e = .returned (.bool true) ∧ Below w.heap.size w w' := by
  go_enter Try.func3, Try.ntmps3
  go_wp2_with fail
  refine (large_any _ ls _ (HS.out.get 0 rfl)).mono ?_
  rintro e w1 ⟨bb, rfl, hsm, hb⟩
  have HS1 := Lib.hid (HS.out.step hb)
  clear hb
  cases bb with
  | true =>
    clear hsm
    go_wp2_with fail
    go_ret
    exact ⟨rfl, HS1.out.bel⟩
  | false =>
    have hsm' := hsm rfl
    have hgl := getL_len ls n
    clear hsm
    go_wp2_with fail
    refine (is_b (c := false) (one_0 n x (.slice none 0 0) _ ls _ (HS1.out.get 0 rfl)) (HE.out)).mono ?_
    rintro e w2 ⟨rfl, hb⟩
    have HS2 := Lib.hid (HS1.out.step hb)
    clear hb
    go_wp2_with fail
    refine (is_b (c := true) (one_1 n x (.slice none 0 0) _ ls _ (HS2.out.get 0 rfl)) (by rw [HE.out]; rfl)).mono ?_
    rintro e w3 ⟨rfl, hb⟩
    have HS3 := Lib.hid (HS2.out.step hb)
    clear hb
    generalize hcc : isPre x (getL ls n) = cc
    have HCC := Lib.hid hcc
    clear hcc
    go_wp2_with fail
    refine (is_b (one_2 n x (.slice none 0 0) _ ls _ (HS3.out.get 0 rfl) (by omega) (by omega)) HCC.out).mono ?_
    rintro e w4 ⟨rfl, hb⟩
    have HS4 := Lib.hid (HS3.out.step hb)
    clear hb
    go_wp2_with fail
    have HS5 := Lib.hid ((HS4.out.alloc (.cells #[.string (bs x)] 9)).add (fun w => Strs w _ [x]) (fun w' hb => (strs_lit _ x).below hb))
    refine (is_b (c := false) (one_3 n [] _ _ ls _ (HS5.out.get 1 rfl) [x] (HS5.out.get 0 rfl)) (by rw [hasS_one]; exact HE.out)).mono ?_
    rintro e w6 ⟨rfl, hb⟩
    have HS6 := Lib.hid (HS5.out.step hb)
    clear hb
    go_wp2_with fail
    refine (is_b (c := true) (one_2 n [] (.slice none 0 0) _ ls _ (HS6.out.get 1 rfl) (by simp) (by omega)) (isPre_nil _)).mono ?_
    rintro e w7 ⟨rfl, hb⟩
    have HS7 := Lib.hid (HS6.out.step hb)
    clear hb
    go_wp2_with fail
    refine (same_w (refGet_any _ ls n _ (HS7.out.get 1 rfl))).mono ?_
    rintro e w8 ⟨rfl, hb⟩
    have HS8 := Lib.hid (HS7.out.step hb)
    clear hb
    have hge : (getL ls n == x) = false := HE.out
    go_wp2_with fail
    refine (one_bad 4 n x (.slice none 0 0) _ _ (by omega)).mono ?_
    rintro e w9 ⟨rfl, hb⟩
    have HS9 := Lib.hid (HS8.out.step hb)
    clear hb
    go_wp2_with fail
    go_ret
    exact ⟨rfl, HS9.out.bel⟩

theorem apart_walk (n x : Bytes) (v : Value) (ls : List Lab) (w : World) (hv : Labels w v ls) :
    Calls Try.prog 3 #[.string (bs n), .string (bs x), v] w fun e w' => e = .returned (.bool true) ∧ Below w.heap.size w w' := by
  have HS := Lib.hid ((St.start w).add (fun w => Labels w v ls) (fun w' hb => hv.below hb))
  obtain ⟨a, cap, rfl, -⟩ := hv
  by_cases hn : n.length ≤ 1024
  · by_cases hx : x.length ≤ 1024
    · cases h : (getL ls n == x) with
      | true => exact apart_y n x a cap ls w hn hx HS (Lib.hid h)
      | false => exact apart_n n x a cap ls w hn hx HS (Lib.hid h)
    · go_enter Try.func3, Try.ntmps3
      go_wp2_with fail
      go_ret
      exact ⟨rfl, Below.refl _ _⟩
  · go_enter Try.func3, Try.ntmps3
    go_wp2_with fail
    go_ret
    exact ⟨rfl, Below.refl _ _⟩

end Go.Proofs.Ytamdkmcdleilpaa
