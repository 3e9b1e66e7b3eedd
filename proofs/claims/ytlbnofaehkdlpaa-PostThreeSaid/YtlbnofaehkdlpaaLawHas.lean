/-
  PostHas: what And, Or, Not have is what sets say, of any integer.
-/
import Derived.Test.YtlbnofaehkdlpaaLawTells
namespace Go.Proofs.Ytlbnofaehkdlpaa
open Go.RowKit

theorem has_is {xs : List Int} {m : Int} {b : Bool} (hx : Rising xs) (hl : xs.length ≤ 1000000000000) (h : hasB xs m = b) (v : Value) (w : World) (hv : Ints w v xs) :
    Calls Try.prog 20 #[v, .int .i64 m] w fun e w' => e = .returned (.bool b) ∧ Below w.heap.size w w' := by
  have := reads0 (has_any v xs m w hv hx hl)
  rwa [h] at this
theorem refHas_is {xs : List Int} {m : Int} {b : Bool} (h : hasB xs m = b) (v : Value) (w : World) (hv : Ints w v xs) :
    Calls Try.prog 21 #[v, .int .i64 m] w fun e w' => e = .returned (.bool b) ∧ Below w.heap.size w w' := by
  have := reads0 (refHas_any v xs m w hv)
  rwa [h] at this
theorem has_and {xs ys r : List Int} {m : Int} {p q : Bool} (h : ∀ m, m ∈ r ↔ m ∈ xs ∧ m ∈ ys) (hp : hasB xs m = p) (hq : hasB ys m = q) : hasB r m = (p && q) := by
  subst hp; subst hq; simp [hasB, h]
theorem has_or {xs ys r : List Int} {m : Int} {p q : Bool} (h : ∀ m, m ∈ r ↔ m ∈ xs ∨ m ∈ ys) (hp : hasB xs m = p) (hq : hasB ys m = q) : hasB r m = (p || q) := by
  subst hp; subst hq; simp [hasB, h]
theorem has_not {xs ys r : List Int} {m : Int} {p q : Bool} (h : ∀ m, m ∈ r ↔ m ∈ xs ∧ m ∉ ys) (hp : hasB xs m = p) (hq : hasB ys m = q) : hasB r m = (p && !q) := by
  subst hp; subst hq; simp [hasB, h]
theorem ints_lit (w : World) (n : Int) : Ints (w.alloc (.cells #[.int .i64 n] 3)) (.slice (some ⟨w.heap.size, 0, none⟩) 1 1) [n] := by
  refine ⟨_, 1, rfl, Nat.le_refl _, by omega, fun _ => ⟨w.heap.size, 0, rfl, by simp, fun i hi => ?_⟩⟩
  have : i = 0 := by simpa using hi
  subst this
  rw [World.cell?_alloc_at _ _ _ _ rfl]; rfl
theorem St.swap {w0 w : World} {p q : World → Prop} (h : St w0 w [p, q]) : St w0 w [q, p] :=
  ⟨h.bel, fun r hr => h.stay r (by simp only [List.mem_cons, List.not_mem_nil, or_false] at hr ⊢; exact hr.symm)⟩
theorem has_one (n : Int) : hasB [n] n = true := by simp [hasB]
theorem rising_one (n : Int) : Rising [n] := List.pairwise_singleton _ _

set_option maxRecDepth 100000 in
set_option maxHeartbeats 2000000 in
theorem has_walk_yy (a0 a1 : Option Addr) (c0 c1 n0 n1 : Nat) (X0 X1 : List Int) (m : Int) (w : World) (hn0 : n0 ≤ 4096) (hn1 : n1 ≤ 4096) (I0 I1 : World → Prop) (HS : Hid (St w w [I0, I1]))
    (HR0 : Hid (∀ w, I0 w → Calls Try.prog 8 #[.slice a0 n0 c0] w fun e w' => ∃ v', e = .returned v' ∧ Own w' w.heap.size v' X0 ∧ Below w.heap.size w w'))
    (HX0 : Hid (Rising X0)) (lx0 : X0.length ≤ 200)
    (HR1 : Hid (∀ w, I1 w → Calls Try.prog 8 #[.slice a1 n1 c1] w fun e w' => ∃ v', e = .returned v' ∧ Own w' w.heap.size v' X1 ∧ Below w.heap.size w w'))
    (HX1 : Hid (Rising X1)) (lx1 : X1.length ≤ 200)
    (HP : Hid (hasB X0 m = true)) (HQ : Hid (hasB X1 m = true)) :
    Calls Try.prog 6 #[.slice a0 n0 c0, .slice a1 n1 c1, .int .i64 m] w fun e w' => e = .returned (.bool true) ∧ Below w.heap.size w w' := by
  go_enter Try.func6, Try.ntmps6
  go_wp2_with fail
  refine (HR0.out _ (HS.out.get 0 rfl)).mono ?_
  rintro e w1 ⟨x, rfl, hown, hb⟩
  have HS1 := Lib.hid ((HS.out.step hb).add (fun w => Ints w x X0) (fun w' hb => hown.ints.below hb))
  clear hb hown
  go_wp2_with fail
  refine (HR1.out _ (HS1.out.get 2 rfl)).mono ?_
  rintro e w2 ⟨y, rfl, hown, hb⟩
  have HS2 := Lib.hid ((HS1.out.step hb).add (fun w => Ints w y X1) (fun w' hb => hown.ints.below hb))
  clear hb hown
  go_wp2_with fail
  refine (has_is HX0.out (by omega) HP.out x _ (HS2.out.get 1 rfl)).mono ?_
  rintro e w3 ⟨rfl, hb⟩
  have HS3 := Lib.hid (HS2.out.step hb)
  clear hb
  go_wp2_with fail
  refine (has_is HX1.out (by omega) HQ.out y _ (HS3.out.get 0 rfl)).mono ?_
  rintro e w4 ⟨rfl, hb⟩
  have HS4 := Lib.hid (HS3.out.step hb)
  clear hb
  go_wp2_with fail
  have HS5 := Lib.hid ((HS4.out.alloc (.cells #[.int .i64 m] 3)).add (fun w => Ints w _ [m]) (fun w' hb => (ints_lit _ m).below hb))
  refine (refHas_is HP.out x _ (HS5.out.get 2 rfl)).mono ?_
  rintro e w6 ⟨rfl, hb⟩
  have HS6 := Lib.hid (HS5.out.step hb)
  clear hb
  go_wp2_with fail
  refine (refHas_is HQ.out y _ (HS6.out.get 1 rfl)).mono ?_
  rintro e w7 ⟨rfl, hb⟩
  have HS7 := Lib.hid (HS6.out.step hb)
  clear hb
  go_wp2_with fail
  refine (and_any _ _ X0 X1 _ (HS7.out.get 2 rfl) (HS7.out.get 1 rfl) HX0.out HX1.out (by omega)).mono ?_
  rintro e w8 ⟨v0r, r0, rfl, hown, hb, hr0, hl0, hm0⟩
  have HS8 := Lib.hid ((HS7.out.step hb).add (fun w => Ints w v0r r0) (fun w' hb => hown.ints.below hb))
  have HC0 := Lib.hid (fun v w h => has_is (b := true) hr0 (by omega) (has_and hm0 HP.out HQ.out) v w h)
  clear hb hown hr0 hm0
  go_wp2_with fail
  refine (HC0.out _ _ (HS8.out.get 0 rfl)).mono ?_
  rintro e w9 ⟨rfl, hb⟩
  have HS9 := Lib.hid (HS8.out.step hb)
  clear hb
  go_wp2_with fail
  refine (or_any _ _ X0 X1 _ (HS9.out.get 3 rfl) (HS9.out.get 2 rfl) HX0.out HX1.out (by omega)).mono ?_
  rintro e w10 ⟨v1r, r1, rfl, hown, hb, hr1, hl1, hm1⟩
  have HS10 := Lib.hid ((HS9.out.step hb).add (fun w => Ints w v1r r1) (fun w' hb => hown.ints.below hb))
  have HC1 := Lib.hid (fun v w h => has_is (b := true) hr1 (by omega) (has_or hm1 HP.out HQ.out) v w h)
  clear hb hown hr1 hm1
  go_wp2_with fail
  refine (HC1.out _ _ (HS10.out.get 0 rfl)).mono ?_
  rintro e w11 ⟨rfl, hb⟩
  have HS11 := Lib.hid (HS10.out.step hb)
  clear hb
  go_wp2_with fail
  refine (not_any _ _ X0 X1 _ (HS11.out.get 4 rfl) (HS11.out.get 3 rfl) HX0.out HX1.out (by omega)).mono ?_
  rintro e w12 ⟨v2r, r2, rfl, hown, hb, hr2, hl2, hm2⟩
  have HS12 := Lib.hid ((HS11.out.step hb).add (fun w => Ints w v2r r2) (fun w' hb => hown.ints.below hb))
  have HC2 := Lib.hid (fun v w h => has_is (b := false) hr2 (by omega) (has_not hm2 HP.out HQ.out) v w h)
  clear hb hown hr2 hm2
  go_wp2_with fail
  refine (HC2.out _ _ (HS12.out.get 0 rfl)).mono ?_
  rintro e w13 ⟨rfl, hb⟩
  have HS13 := Lib.hid (HS12.out.step hb)
  clear hb
  go_wp2_with fail
  refine (has_is (rising_one m) (by simp) (has_one m) _ _ (HS13.out.get 3 rfl)).mono ?_
  rintro e w14 ⟨rfl, hb⟩
  have HS14 := Lib.hid (HS13.out.step hb)
  clear hb
  go_wp2_with fail
  go_ret
  exact ⟨rfl, HS14.out.bel⟩

set_option maxRecDepth 100000 in
set_option maxHeartbeats 2000000 in
theorem has_walk_yn (a0 a1 : Option Addr) (c0 c1 n0 n1 : Nat) (X0 X1 : List Int) (m : Int) (w : World) (hn0 : n0 ≤ 4096) (hn1 : n1 ≤ 4096) (I0 I1 : World → Prop) (HS : Hid (St w w [I0, I1]))
    (HR0 : Hid (∀ w, I0 w → Calls Try.prog 8 #[.slice a0 n0 c0] w fun e w' => ∃ v', e = .returned v' ∧ Own w' w.heap.size v' X0 ∧ Below w.heap.size w w'))
    (HX0 : Hid (Rising X0)) (lx0 : X0.length ≤ 200)
    (HR1 : Hid (∀ w, I1 w → Calls Try.prog 8 #[.slice a1 n1 c1] w fun e w' => ∃ v', e = .returned v' ∧ Own w' w.heap.size v' X1 ∧ Below w.heap.size w w'))
    (HX1 : Hid (Rising X1)) (lx1 : X1.length ≤ 200)
    (HP : Hid (hasB X0 m = true)) (HQ : Hid (hasB X1 m = false)) :
    Calls Try.prog 6 #[.slice a0 n0 c0, .slice a1 n1 c1, .int .i64 m] w fun e w' => e = .returned (.bool true) ∧ Below w.heap.size w w' := by
  go_enter Try.func6, Try.ntmps6
  go_wp2_with fail
  refine (HR0.out _ (HS.out.get 0 rfl)).mono ?_
  rintro e w1 ⟨x, rfl, hown, hb⟩
  have HS1 := Lib.hid ((HS.out.step hb).add (fun w => Ints w x X0) (fun w' hb => hown.ints.below hb))
  clear hb hown
  go_wp2_with fail
  refine (HR1.out _ (HS1.out.get 2 rfl)).mono ?_
  rintro e w2 ⟨y, rfl, hown, hb⟩
  have HS2 := Lib.hid ((HS1.out.step hb).add (fun w => Ints w y X1) (fun w' hb => hown.ints.below hb))
  clear hb hown
  go_wp2_with fail
  refine (has_is HX0.out (by omega) HP.out x _ (HS2.out.get 1 rfl)).mono ?_
  rintro e w3 ⟨rfl, hb⟩
  have HS3 := Lib.hid (HS2.out.step hb)
  clear hb
  go_wp2_with fail
  refine (has_is HX1.out (by omega) HQ.out y _ (HS3.out.get 0 rfl)).mono ?_
  rintro e w4 ⟨rfl, hb⟩
  have HS4 := Lib.hid (HS3.out.step hb)
  clear hb
  go_wp2_with fail
  have HS5 := Lib.hid ((HS4.out.alloc (.cells #[.int .i64 m] 3)).add (fun w => Ints w _ [m]) (fun w' hb => (ints_lit _ m).below hb))
  refine (refHas_is HP.out x _ (HS5.out.get 2 rfl)).mono ?_
  rintro e w6 ⟨rfl, hb⟩
  have HS6 := Lib.hid (HS5.out.step hb)
  clear hb
  go_wp2_with fail
  refine (refHas_is HQ.out y _ (HS6.out.get 1 rfl)).mono ?_
  rintro e w7 ⟨rfl, hb⟩
  have HS7 := Lib.hid (HS6.out.step hb)
  clear hb
  go_wp2_with fail
  refine (and_any _ _ X0 X1 _ (HS7.out.get 2 rfl) (HS7.out.get 1 rfl) HX0.out HX1.out (by omega)).mono ?_
  rintro e w8 ⟨v0r, r0, rfl, hown, hb, hr0, hl0, hm0⟩
  have HS8 := Lib.hid ((HS7.out.step hb).add (fun w => Ints w v0r r0) (fun w' hb => hown.ints.below hb))
  have HC0 := Lib.hid (fun v w h => has_is (b := false) hr0 (by omega) (has_and hm0 HP.out HQ.out) v w h)
  clear hb hown hr0 hm0
  go_wp2_with fail
  refine (HC0.out _ _ (HS8.out.get 0 rfl)).mono ?_
  rintro e w9 ⟨rfl, hb⟩
  have HS9 := Lib.hid (HS8.out.step hb)
  clear hb
  go_wp2_with fail
  refine (or_any _ _ X0 X1 _ (HS9.out.get 3 rfl) (HS9.out.get 2 rfl) HX0.out HX1.out (by omega)).mono ?_
  rintro e w10 ⟨v1r, r1, rfl, hown, hb, hr1, hl1, hm1⟩
  have HS10 := Lib.hid ((HS9.out.step hb).add (fun w => Ints w v1r r1) (fun w' hb => hown.ints.below hb))
  have HC1 := Lib.hid (fun v w h => has_is (b := true) hr1 (by omega) (has_or hm1 HP.out HQ.out) v w h)
  clear hb hown hr1 hm1
  go_wp2_with fail
  refine (HC1.out _ _ (HS10.out.get 0 rfl)).mono ?_
  rintro e w11 ⟨rfl, hb⟩
  have HS11 := Lib.hid (HS10.out.step hb)
  clear hb
  go_wp2_with fail
  refine (not_any _ _ X0 X1 _ (HS11.out.get 4 rfl) (HS11.out.get 3 rfl) HX0.out HX1.out (by omega)).mono ?_
  rintro e w12 ⟨v2r, r2, rfl, hown, hb, hr2, hl2, hm2⟩
  have HS12 := Lib.hid ((HS11.out.step hb).add (fun w => Ints w v2r r2) (fun w' hb => hown.ints.below hb))
  have HC2 := Lib.hid (fun v w h => has_is (b := true) hr2 (by omega) (has_not hm2 HP.out HQ.out) v w h)
  clear hb hown hr2 hm2
  go_wp2_with fail
  refine (HC2.out _ _ (HS12.out.get 0 rfl)).mono ?_
  rintro e w13 ⟨rfl, hb⟩
  have HS13 := Lib.hid (HS12.out.step hb)
  clear hb
  go_wp2_with fail
  refine (has_is (rising_one m) (by simp) (has_one m) _ _ (HS13.out.get 3 rfl)).mono ?_
  rintro e w14 ⟨rfl, hb⟩
  have HS14 := Lib.hid (HS13.out.step hb)
  clear hb
  go_wp2_with fail
  go_ret
  exact ⟨rfl, HS14.out.bel⟩

set_option maxRecDepth 100000 in
set_option maxHeartbeats 2000000 in
theorem has_walk_ny (a0 a1 : Option Addr) (c0 c1 n0 n1 : Nat) (X0 X1 : List Int) (m : Int) (w : World) (hn0 : n0 ≤ 4096) (hn1 : n1 ≤ 4096) (I0 I1 : World → Prop) (HS : Hid (St w w [I0, I1]))
    (HR0 : Hid (∀ w, I0 w → Calls Try.prog 8 #[.slice a0 n0 c0] w fun e w' => ∃ v', e = .returned v' ∧ Own w' w.heap.size v' X0 ∧ Below w.heap.size w w'))
    (HX0 : Hid (Rising X0)) (lx0 : X0.length ≤ 200)
    (HR1 : Hid (∀ w, I1 w → Calls Try.prog 8 #[.slice a1 n1 c1] w fun e w' => ∃ v', e = .returned v' ∧ Own w' w.heap.size v' X1 ∧ Below w.heap.size w w'))
    (HX1 : Hid (Rising X1)) (lx1 : X1.length ≤ 200)
    (HP : Hid (hasB X0 m = false)) (HQ : Hid (hasB X1 m = true)) :
    Calls Try.prog 6 #[.slice a0 n0 c0, .slice a1 n1 c1, .int .i64 m] w fun e w' => e = .returned (.bool true) ∧ Below w.heap.size w w' := by
  go_enter Try.func6, Try.ntmps6
  go_wp2_with fail
  refine (HR0.out _ (HS.out.get 0 rfl)).mono ?_
  rintro e w1 ⟨x, rfl, hown, hb⟩
  have HS1 := Lib.hid ((HS.out.step hb).add (fun w => Ints w x X0) (fun w' hb => hown.ints.below hb))
  clear hb hown
  go_wp2_with fail
  refine (HR1.out _ (HS1.out.get 2 rfl)).mono ?_
  rintro e w2 ⟨y, rfl, hown, hb⟩
  have HS2 := Lib.hid ((HS1.out.step hb).add (fun w => Ints w y X1) (fun w' hb => hown.ints.below hb))
  clear hb hown
  go_wp2_with fail
  refine (has_is HX0.out (by omega) HP.out x _ (HS2.out.get 1 rfl)).mono ?_
  rintro e w3 ⟨rfl, hb⟩
  have HS3 := Lib.hid (HS2.out.step hb)
  clear hb
  go_wp2_with fail
  refine (has_is HX1.out (by omega) HQ.out y _ (HS3.out.get 0 rfl)).mono ?_
  rintro e w4 ⟨rfl, hb⟩
  have HS4 := Lib.hid (HS3.out.step hb)
  clear hb
  go_wp2_with fail
  have HS5 := Lib.hid ((HS4.out.alloc (.cells #[.int .i64 m] 3)).add (fun w => Ints w _ [m]) (fun w' hb => (ints_lit _ m).below hb))
  refine (refHas_is HP.out x _ (HS5.out.get 2 rfl)).mono ?_
  rintro e w6 ⟨rfl, hb⟩
  have HS6 := Lib.hid (HS5.out.step hb)
  clear hb
  go_wp2_with fail
  refine (refHas_is HQ.out y _ (HS6.out.get 1 rfl)).mono ?_
  rintro e w7 ⟨rfl, hb⟩
  have HS7 := Lib.hid (HS6.out.step hb)
  clear hb
  go_wp2_with fail
  refine (and_any _ _ X0 X1 _ (HS7.out.get 2 rfl) (HS7.out.get 1 rfl) HX0.out HX1.out (by omega)).mono ?_
  rintro e w8 ⟨v0r, r0, rfl, hown, hb, hr0, hl0, hm0⟩
  have HS8 := Lib.hid ((HS7.out.step hb).add (fun w => Ints w v0r r0) (fun w' hb => hown.ints.below hb))
  have HC0 := Lib.hid (fun v w h => has_is (b := false) hr0 (by omega) (has_and hm0 HP.out HQ.out) v w h)
  clear hb hown hr0 hm0
  go_wp2_with fail
  refine (HC0.out _ _ (HS8.out.get 0 rfl)).mono ?_
  rintro e w9 ⟨rfl, hb⟩
  have HS9 := Lib.hid (HS8.out.step hb)
  clear hb
  go_wp2_with fail
  refine (or_any _ _ X0 X1 _ (HS9.out.get 3 rfl) (HS9.out.get 2 rfl) HX0.out HX1.out (by omega)).mono ?_
  rintro e w10 ⟨v1r, r1, rfl, hown, hb, hr1, hl1, hm1⟩
  have HS10 := Lib.hid ((HS9.out.step hb).add (fun w => Ints w v1r r1) (fun w' hb => hown.ints.below hb))
  have HC1 := Lib.hid (fun v w h => has_is (b := true) hr1 (by omega) (has_or hm1 HP.out HQ.out) v w h)
  clear hb hown hr1 hm1
  go_wp2_with fail
  refine (HC1.out _ _ (HS10.out.get 0 rfl)).mono ?_
  rintro e w11 ⟨rfl, hb⟩
  have HS11 := Lib.hid (HS10.out.step hb)
  clear hb
  go_wp2_with fail
  refine (not_any _ _ X0 X1 _ (HS11.out.get 4 rfl) (HS11.out.get 3 rfl) HX0.out HX1.out (by omega)).mono ?_
  rintro e w12 ⟨v2r, r2, rfl, hown, hb, hr2, hl2, hm2⟩
  have HS12 := Lib.hid ((HS11.out.step hb).add (fun w => Ints w v2r r2) (fun w' hb => hown.ints.below hb))
  have HC2 := Lib.hid (fun v w h => has_is (b := false) hr2 (by omega) (has_not hm2 HP.out HQ.out) v w h)
  clear hb hown hr2 hm2
  go_wp2_with fail
  refine (HC2.out _ _ (HS12.out.get 0 rfl)).mono ?_
  rintro e w13 ⟨rfl, hb⟩
  have HS13 := Lib.hid (HS12.out.step hb)
  clear hb
  go_wp2_with fail
  refine (has_is (rising_one m) (by simp) (has_one m) _ _ (HS13.out.get 3 rfl)).mono ?_
  rintro e w14 ⟨rfl, hb⟩
  have HS14 := Lib.hid (HS13.out.step hb)
  clear hb
  go_wp2_with fail
  go_ret
  exact ⟨rfl, HS14.out.bel⟩

set_option maxRecDepth 100000 in
set_option maxHeartbeats 2000000 in
theorem has_walk_nn (a0 a1 : Option Addr) (c0 c1 n0 n1 : Nat) (X0 X1 : List Int) (m : Int) (w : World) (hn0 : n0 ≤ 4096) (hn1 : n1 ≤ 4096) (I0 I1 : World → Prop) (HS : Hid (St w w [I0, I1]))
    (HR0 : Hid (∀ w, I0 w → Calls Try.prog 8 #[.slice a0 n0 c0] w fun e w' => ∃ v', e = .returned v' ∧ Own w' w.heap.size v' X0 ∧ Below w.heap.size w w'))
    (HX0 : Hid (Rising X0)) (lx0 : X0.length ≤ 200)
    (HR1 : Hid (∀ w, I1 w → Calls Try.prog 8 #[.slice a1 n1 c1] w fun e w' => ∃ v', e = .returned v' ∧ Own w' w.heap.size v' X1 ∧ Below w.heap.size w w'))
    (HX1 : Hid (Rising X1)) (lx1 : X1.length ≤ 200)
    (HP : Hid (hasB X0 m = false)) (HQ : Hid (hasB X1 m = false)) :
    Calls Try.prog 6 #[.slice a0 n0 c0, .slice a1 n1 c1, .int .i64 m] w fun e w' => e = .returned (.bool true) ∧ Below w.heap.size w w' := by
  go_enter Try.func6, Try.ntmps6
  go_wp2_with fail
  refine (HR0.out _ (HS.out.get 0 rfl)).mono ?_
  rintro e w1 ⟨x, rfl, hown, hb⟩
  have HS1 := Lib.hid ((HS.out.step hb).add (fun w => Ints w x X0) (fun w' hb => hown.ints.below hb))
  clear hb hown
  go_wp2_with fail
  refine (HR1.out _ (HS1.out.get 2 rfl)).mono ?_
  rintro e w2 ⟨y, rfl, hown, hb⟩
  have HS2 := Lib.hid ((HS1.out.step hb).add (fun w => Ints w y X1) (fun w' hb => hown.ints.below hb))
  clear hb hown
  go_wp2_with fail
  refine (has_is HX0.out (by omega) HP.out x _ (HS2.out.get 1 rfl)).mono ?_
  rintro e w3 ⟨rfl, hb⟩
  have HS3 := Lib.hid (HS2.out.step hb)
  clear hb
  go_wp2_with fail
  refine (has_is HX1.out (by omega) HQ.out y _ (HS3.out.get 0 rfl)).mono ?_
  rintro e w4 ⟨rfl, hb⟩
  have HS4 := Lib.hid (HS3.out.step hb)
  clear hb
  go_wp2_with fail
  have HS5 := Lib.hid ((HS4.out.alloc (.cells #[.int .i64 m] 3)).add (fun w => Ints w _ [m]) (fun w' hb => (ints_lit _ m).below hb))
  refine (refHas_is HP.out x _ (HS5.out.get 2 rfl)).mono ?_
  rintro e w6 ⟨rfl, hb⟩
  have HS6 := Lib.hid (HS5.out.step hb)
  clear hb
  go_wp2_with fail
  refine (refHas_is HQ.out y _ (HS6.out.get 1 rfl)).mono ?_
  rintro e w7 ⟨rfl, hb⟩
  have HS7 := Lib.hid (HS6.out.step hb)
  clear hb
  go_wp2_with fail
  refine (and_any _ _ X0 X1 _ (HS7.out.get 2 rfl) (HS7.out.get 1 rfl) HX0.out HX1.out (by omega)).mono ?_
  rintro e w8 ⟨v0r, r0, rfl, hown, hb, hr0, hl0, hm0⟩
  have HS8 := Lib.hid ((HS7.out.step hb).add (fun w => Ints w v0r r0) (fun w' hb => hown.ints.below hb))
  have HC0 := Lib.hid (fun v w h => has_is (b := false) hr0 (by omega) (has_and hm0 HP.out HQ.out) v w h)
  clear hb hown hr0 hm0
  go_wp2_with fail
  refine (HC0.out _ _ (HS8.out.get 0 rfl)).mono ?_
  rintro e w9 ⟨rfl, hb⟩
  have HS9 := Lib.hid (HS8.out.step hb)
  clear hb
  go_wp2_with fail
  refine (or_any _ _ X0 X1 _ (HS9.out.get 3 rfl) (HS9.out.get 2 rfl) HX0.out HX1.out (by omega)).mono ?_
  rintro e w10 ⟨v1r, r1, rfl, hown, hb, hr1, hl1, hm1⟩
  have HS10 := Lib.hid ((HS9.out.step hb).add (fun w => Ints w v1r r1) (fun w' hb => hown.ints.below hb))
  have HC1 := Lib.hid (fun v w h => has_is (b := false) hr1 (by omega) (has_or hm1 HP.out HQ.out) v w h)
  clear hb hown hr1 hm1
  go_wp2_with fail
  refine (HC1.out _ _ (HS10.out.get 0 rfl)).mono ?_
  rintro e w11 ⟨rfl, hb⟩
  have HS11 := Lib.hid (HS10.out.step hb)
  clear hb
  go_wp2_with fail
  refine (not_any _ _ X0 X1 _ (HS11.out.get 4 rfl) (HS11.out.get 3 rfl) HX0.out HX1.out (by omega)).mono ?_
  rintro e w12 ⟨v2r, r2, rfl, hown, hb, hr2, hl2, hm2⟩
  have HS12 := Lib.hid ((HS11.out.step hb).add (fun w => Ints w v2r r2) (fun w' hb => hown.ints.below hb))
  have HC2 := Lib.hid (fun v w h => has_is (b := false) hr2 (by omega) (has_not hm2 HP.out HQ.out) v w h)
  clear hb hown hr2 hm2
  go_wp2_with fail
  refine (HC2.out _ _ (HS12.out.get 0 rfl)).mono ?_
  rintro e w13 ⟨rfl, hb⟩
  have HS13 := Lib.hid (HS12.out.step hb)
  clear hb
  go_wp2_with fail
  refine (has_is (rising_one m) (by simp) (has_one m) _ _ (HS13.out.get 3 rfl)).mono ?_
  rintro e w14 ⟨rfl, hb⟩
  have HS14 := Lib.hid (HS13.out.step hb)
  clear hb
  go_wp2_with fail
  go_ret
  exact ⟨rfl, HS14.out.bel⟩

set_option maxRecDepth 100000 in
set_option maxHeartbeats 2000000 in
theorem has_walk (v0 v1 : Value) (xs0 xs1 : List Int) (m : Int) (w : World) (h0 : Ints w v0 xs0) (h1 : Ints w v1 xs1) :
    Calls Try.prog 6 #[v0, v1, .int .i64 m] w fun e w' => e = .returned (.bool true) ∧ Below w.heap.size w w' := by
  have HS := Lib.hid (((St.start w).add (fun w => Ints w v0 xs0) (fun w' hb => h0.below hb)).add (fun w => Ints w v1 xs1) (fun w' hb => h1.below hb))
  obtain ⟨a0, c0, rfl, p0, q0, -⟩ := h0
  obtain ⟨a1, c1, rfl, p1, q1, -⟩ := h1
  by_cases hl : xs0.length ≤ 4096
  · by_cases hl2 : xs1.length ≤ 4096
    · obtain ⟨X0, hX0, lx0, hc0⟩ := rising_some xs0
      have HX0 := Lib.hid hX0
      have HR0 := Lib.hid hc0
      clear hX0 hc0
      obtain ⟨X1, hX1, lx1, hc1⟩ := rising_some xs1
      have HX1 := Lib.hid hX1
      have HR1 := Lib.hid hc1
      clear hX1 hc1
      cases hp : hasB X0 m <;> cases hq : hasB X1 m
      · exact has_walk_nn _ _ _ _ _ _ X0 X1 m w hl hl2 _ _ (Lib.hid (HS.out.swap)) (Lib.hid (fun w h => HR0.out _ w h)) HX0 lx0 (Lib.hid (fun w h => HR1.out _ w h)) HX1 lx1 (Lib.hid hp) (Lib.hid hq)
      · exact has_walk_ny _ _ _ _ _ _ X0 X1 m w hl hl2 _ _ (Lib.hid (HS.out.swap)) (Lib.hid (fun w h => HR0.out _ w h)) HX0 lx0 (Lib.hid (fun w h => HR1.out _ w h)) HX1 lx1 (Lib.hid hp) (Lib.hid hq)
      · exact has_walk_yn _ _ _ _ _ _ X0 X1 m w hl hl2 _ _ (Lib.hid (HS.out.swap)) (Lib.hid (fun w h => HR0.out _ w h)) HX0 lx0 (Lib.hid (fun w h => HR1.out _ w h)) HX1 lx1 (Lib.hid hp) (Lib.hid hq)
      · exact has_walk_yy _ _ _ _ _ _ X0 X1 m w hl hl2 _ _ (Lib.hid (HS.out.swap)) (Lib.hid (fun w h => HR0.out _ w h)) HX0 lx0 (Lib.hid (fun w h => HR1.out _ w h)) HX1 lx1 (Lib.hid hp) (Lib.hid hq)
    · go_enter Try.func6, Try.ntmps6
      go_wp2_with fail
      go_ret
      exact ⟨rfl, Below.refl _ _⟩
  · go_enter Try.func6, Try.ntmps6
    go_wp2_with fail
    go_ret
    exact ⟨rfl, Below.refl _ _⟩
end Go.Proofs.Ytlbnofaehkdlpaa
