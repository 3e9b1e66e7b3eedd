/-
  PostTells: And, Or, Not of lists that rise are the document's, and rise; whether any list rises, too.
-/
import Derived.Test.YtlbnofaehkdlpaaOpen6
import Derived.Test.YtlbnofaehkdlpaaRising6
import Derived.Test.YtlbnofaehkdlpaaPost6
import Derived.Test.YtlbnofaehkdlpaaRef6
namespace Go.Proofs.Ytlbnofaehkdlpaa
open Go.RowKit

theorem filter_rising {l : List Int} (f : Int → Bool) (h : Rising l) : Rising (l.filter f) := List.Pairwise.filter f h
theorem and_eq {xs ys r : List Int} (hx : Rising xs) (hr : Rising r) (h : ∀ m, m ∈ r ↔ m ∈ xs ∧ m ∈ ys) : r = xs.filter (hasB ys) :=
  rising_ext hr (filter_rising _ hx) fun n => by rw [h, List.mem_filter]; simp [hasB]
theorem not_eq {xs ys r : List Int} (hx : Rising xs) (hr : Rising r) (h : ∀ m, m ∈ r ↔ m ∈ xs ∧ m ∉ ys) : r = xs.filter (fun x => !hasB ys x) :=
  rising_ext hr (filter_rising _ hx) fun n => by rw [h, List.mem_filter]; simp [hasB]
theorem or_eq {xs ys r : List Int} (hx : Rising xs) (hy : Rising ys) (hr : Rising r) (h : ∀ m, m ∈ r ↔ m ∈ xs ∨ m ∈ ys) : r = mgo xs ys := by
  obtain ⟨h1, _, h3⟩ := mg_told (fun _ _ => true) xs ys hx hy
  exact rising_ext hr h1 fun n => by rw [h]; unfold mgo; rw [h3]; simp

/-- A call that only reads. -/
theorem reads {f : Nat} {args : Array Value} {w : World} {v : Value} (h : Calls Try.prog f args w fun e w' => e = .returned v ∧ ∃ n, w' = w.drewN n) :
    Calls Try.prog f args w fun e w' => e = .returned v ∧ Below w.heap.size w w' :=
  h.mono fun e w' ⟨he, n, hw⟩ => ⟨he, by rw [hw]; exact below_drewN (Below.refl _ _) n⟩
theorem reads0 {f : Nat} {args : Array Value} {w : World} {v : Value} (h : Calls Try.prog f args w fun e w' => e = .returned v ∧ w = w') :
    Calls Try.prog f args w fun e w' => e = .returned v ∧ Below w.heap.size w w' :=
  h.mono fun e w' ⟨he, hw⟩ => ⟨he, by rw [← hw]; exact Below.refl _ _⟩

theorem same_yes {xs ys : List Int} (h : xs = ys) (v u : Value) (w : World) (h1 : Ints w v xs) (h2 : Ints w u ys) :
    Calls Try.prog 14 #[v, u] w fun e w' => e = .returned (.bool true) ∧ Below w.heap.size w w' := by
  have e : sameB xs ys = true := decide_eq_true h
  have := reads (same_any v u xs ys w h1 h2)
  rw [e] at this
  exact this

set_option maxRecDepth 100000 in
set_option maxHeartbeats 1000000 in
theorem tells_walk (v0 v1 : Value) (xs ys : List Int) (w : World) (h0 : Ints w v0 xs) (h1 : Ints w v1 ys) :
    Calls Try.prog 3 #[v0, v1] w fun e w' => e = .returned (.bool true) ∧ Below w.heap.size w w' := by
  have HS := Lib.hid (((St.start w).add (fun w => Ints w v1 ys) (fun w' hb => h1.below hb)).add (fun w => Ints w v0 xs) (fun w' hb => h0.below hb))
  obtain ⟨a0, c0, rfl, p1, p2, p3⟩ := h0
  obtain ⟨a1, c1, rfl, q1, q2, q3⟩ := h1
  clear p3 q3
  by_cases hl : xs.length ≤ 4096
  · by_cases hl2 : ys.length ≤ 4096
    · obtain ⟨X, hX, lx, hcX⟩ := rising_some xs
      obtain ⟨Y, hY, ly, hcY⟩ := rising_some ys
      have HXR := Lib.hid hX
      have HYR := Lib.hid hY
      have HR1 := Lib.hid hcX
      have HR2 := Lib.hid hcY
      clear hX hY hcX hcY
      go_enter Try.func3, Try.ntmps3
      go_wp2_with fail
      refine (HR1.out _ _ (HS.out.get 0 rfl)).mono ?_
      rintro e w1 ⟨x, rfl, hown, hb⟩
      have HS1 := Lib.hid ((HS.out.step hb).add (fun w => Ints w x X) (fun w' hb => hown.ints.below hb))
      clear hown hb
      go_wp2_with fail
      refine (HR2.out _ _ (HS1.out.get 2 rfl)).mono ?_
      rintro e w2 ⟨y, rfl, hown, hb⟩
      have HS2 := Lib.hid ((HS1.out.step hb).add (fun w => Ints w y Y) (fun w' hb => hown.ints.below hb))
      clear hown hb
      go_wp2_with fail
      refine (and_any x y X Y _ (HS2.out.get 1 rfl) (HS2.out.get 0 rfl) HXR.out HYR.out (by omega)).mono ?_
      rintro e w3 ⟨v3, r3, rfl, hown, hb, hr3, hl3, hm3⟩
      have HS3 := Lib.hid ((HS2.out.step hb).add (fun w => Ints w v3 r3) (fun w' hb => hown.ints.below hb))
      have HQ3 := Lib.hid (fun u w h1 h2 => same_yes (and_eq HXR.out hr3 hm3) v3 u w h1 h2)
      have HC3 := Lib.hid (fun w h => (risesB_of hr3) ▸ reads (postRises_any v3 r3 w h))
      clear hown hb hr3 hm3
      go_wp2_with fail
      refine (or_any x y X Y _ (HS3.out.get 2 rfl) (HS3.out.get 1 rfl) HXR.out HYR.out (by omega)).mono ?_
      rintro e w4 ⟨v4, r4, rfl, hown, hb, hr4, hl4, hm4⟩
      have HS4 := Lib.hid ((HS3.out.step hb).add (fun w => Ints w v4 r4) (fun w' hb => hown.ints.below hb))
      have HQ4 := Lib.hid (fun u w h1 h2 => same_yes (or_eq HXR.out HYR.out hr4 hm4) v4 u w h1 h2)
      have HC4 := Lib.hid (fun w h => (risesB_of hr4) ▸ reads (postRises_any v4 r4 w h))
      clear hown hb hr4 hm4
      go_wp2_with fail
      refine (not_any x y X Y _ (HS4.out.get 3 rfl) (HS4.out.get 2 rfl) HXR.out HYR.out (by omega)).mono ?_
      rintro e w5 ⟨v5, r5, rfl, hown, hb, hr5, hl5, hm5⟩
      have HS5 := Lib.hid ((HS4.out.step hb).add (fun w => Ints w v5 r5) (fun w' hb => hown.ints.below hb))
      have HQ5 := Lib.hid (fun u w h1 h2 => same_yes (not_eq HXR.out hr5 hm5) v5 u w h1 h2)
      have HC5 := Lib.hid (fun w h => (risesB_of hr5) ▸ reads (postRises_any v5 r5 w h))
      clear hown hb hr5 hm5
      -- [r5, r4, r3, Y, X, xs, ys]
      go_wp2_with fail
      refine (reads (postRises_any _ xs _ (HS5.out.get 5 rfl))).mono ?_
      rintro e w6 ⟨rfl, hb⟩
      have HS6 := Lib.hid (HS5.out.step hb)
      clear hb
      go_wp2_with fail
      refine (reads (refRises_any _ xs _ (HS6.out.get 5 rfl))).mono ?_
      rintro e w7 ⟨rfl, hb⟩
      have HS7 := Lib.hid (HS6.out.step hb)
      clear hb
      go_wp2_with fail
      refine (HC3.out _ (HS7.out.get 2 rfl)).mono ?_
      rintro e w8 ⟨rfl, hb⟩
      have HS8 := Lib.hid (HS7.out.step hb)
      clear hb
      go_wp2_with fail
      refine (HC4.out _ (HS8.out.get 1 rfl)).mono ?_
      rintro e w9 ⟨rfl, hb⟩
      have HS9 := Lib.hid (HS8.out.step hb)
      clear hb
      go_wp2_with fail
      refine (HC5.out _ (HS9.out.get 0 rfl)).mono ?_
      rintro e w10 ⟨rfl, hb⟩
      have HS10 := Lib.hid (HS9.out.step hb)
      clear hb
      go_wp2_with fail
      refine (refAnd_any x y X Y _ (HS10.out.get 4 rfl) (HS10.out.get 3 rfl) (by omega)).mono ?_
      rintro e w11 ⟨v11, rfl, hown, hb⟩
      have HS11 := Lib.hid ((HS10.out.step hb).add (fun w => Ints w v11 _) (fun w' hb => hown.ints.below hb))
      clear hown hb
      go_wp2_with fail
      refine (HQ3.out _ _ (HS11.out.get 3 rfl) (HS11.out.get 0 rfl)).mono ?_
      rintro e w12 ⟨rfl, hb⟩
      have HS12 := Lib.hid (HS11.out.step hb)
      clear hb
      go_wp2_with fail
      refine (refOr_any x y X Y _ (HS12.out.get 5 rfl) (HS12.out.get 4 rfl) (by omega)).mono ?_
      rintro e w13 ⟨v13, rfl, hown, hb⟩
      have HS13 := Lib.hid ((HS12.out.step hb).add (fun w => Ints w v13 _) (fun w' hb => hown.ints.below hb))
      clear hown hb
      go_wp2_with fail
      refine (HQ4.out _ _ (HS13.out.get 3 rfl) (HS13.out.get 0 rfl)).mono ?_
      rintro e w14 ⟨rfl, hb⟩
      have HS14 := Lib.hid (HS13.out.step hb)
      clear hb
      go_wp2_with fail
      refine (refNot_any x y X Y _ (HS14.out.get 6 rfl) (HS14.out.get 5 rfl) (by omega)).mono ?_
      rintro e w15 ⟨v15, rfl, hown, hb⟩
      have HS15 := Lib.hid ((HS14.out.step hb).add (fun w => Ints w v15 _) (fun w' hb => hown.ints.below hb))
      clear hown hb
      go_wp2_with fail
      refine (HQ5.out _ _ (HS15.out.get 3 rfl) (HS15.out.get 0 rfl)).mono ?_
      rintro e w16 ⟨rfl, hb⟩
      have HS16 := Lib.hid (HS15.out.step hb)
      clear hb
      go_wp2_with fail
      go_ret
      exact ⟨rfl, HS16.out.bel⟩
    · go_enter Try.func3, Try.ntmps3
      go_wp2_with fail
      go_ret
      exact ⟨rfl, Below.refl _ _⟩
  · go_enter Try.func3, Try.ntmps3
    go_wp2_with fail
    go_ret
    exact ⟨rfl, Below.refl _ _⟩
end Go.Proofs.Ytlbnofaehkdlpaa
