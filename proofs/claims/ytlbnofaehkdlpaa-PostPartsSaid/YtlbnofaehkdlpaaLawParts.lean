/-
  PostParts: And and Not of two lists are, together, the first one; both ways, Or is the same, and And.
-/
import Derived.Test.YtlbnofaehkdlpaaLawTells
namespace Go.Proofs.Ytlbnofaehkdlpaa
open Go.RowKit

theorem parts_len {xs r s : List Int} {f : Int → Bool} (h1 : r = xs.filter f) (h2 : s = xs.filter (fun x => !f x)) : r.length + s.length = xs.length := by
  subst h1; subst h2
  induction xs with
  | nil => rfl
  | cons x xs ih =>
    cases h : f x <;> simp [h] at * <;> omega
theorem none_nil {r : List Int} (h : ∀ m, ¬ m ∈ r) : r = [] := List.eq_nil_iff_forall_not_mem.2 h

set_option maxRecDepth 100000 in
set_option maxHeartbeats 2000000 in
theorem parts_walk (v0 v1 : Value) (xs0 xs1 : List Int) (w : World) (h0 : Ints w v0 xs0) (h1 : Ints w v1 xs1) :
    Calls Try.prog 4 #[v0, v1] w fun e w' => e = .returned (.bool true) ∧ Below w.heap.size w w' := by
  have HS := Lib.hid (((St.start w).add (fun w => Ints w v0 xs0) (fun w' hb => h0.below hb)).add (fun w => Ints w v1 xs1) (fun w' hb => h1.below hb))
  obtain ⟨a0, c0, rfl, p0, q0, -⟩ := h0
  obtain ⟨a1, c1, rfl, p1, q1, -⟩ := h1
  by_cases hl : xs0.length ≤ 4096
  · by_cases hl2 : xs1.length ≤ 4096
    · obtain ⟨X0, hX0, lx0, hc0⟩ := rising_some xs0
      have HX0 := Lib.hid hX0
      have HR0 := Lib.hid hc0
      clear hX0 hc0
      obtain ⟨X1, hX1, lx1, hc1⟩ := rising_some xs1
      have HX1 := Lib.hid hX1
      have HR1 := Lib.hid hc1
      clear hX1 hc1
      go_enter Try.func4, Try.ntmps4
      go_wp2_with fail
      refine (HR0.out _ _ (HS.out.get 1 rfl)).mono ?_
      rintro e w1 ⟨x, rfl, hown, hb⟩
      have HS1 := Lib.hid ((HS.out.step hb).add (fun w => Ints w x X0) (fun w' hb => hown.ints.below hb))
      obtain ⟨ax, cx, rfl, ox, px, -⟩ := hown.open_
      clear hb hown
      go_wp2_with fail
      refine (HR1.out _ _ (HS1.out.get 1 rfl)).mono ?_
      rintro e w2 ⟨y, rfl, hown, hb⟩
      have HS2 := Lib.hid ((HS1.out.step hb).add (fun w => Ints w y X1) (fun w' hb => hown.ints.below hb))
      clear hb hown
      go_wp2_with fail
      refine (and_any _ _ X0 X1 _ (HS2.out.get 1 rfl) (HS2.out.get 0 rfl) HX0.out HX1.out (by omega)).mono ?_
      rintro e w3 ⟨va, ra, rfl, hown, hb, hra, hla, hma⟩
      have HS3 := Lib.hid ((HS2.out.step hb).add (fun w => Ints w va ra) (fun w' hb => hown.ints.below hb))
      have Hra := Lib.hid hra
      have Hma := Lib.hid hma
      obtain ⟨aa, ca, rfl, oa, pa, -⟩ := hown.open_
      clear hb hown hra hma
      go_wp2_with fail
      refine (not_any _ _ X0 X1 _ (HS3.out.get 2 rfl) (HS3.out.get 1 rfl) HX0.out HX1.out (by omega)).mono ?_
      rintro e w4 ⟨vn, rn, rfl, hown, hb, hrn, hln, hmn⟩
      have HS4 := Lib.hid ((HS3.out.step hb).add (fun w => Ints w vn rn) (fun w' hb => hown.ints.below hb))
      have Hrn := Lib.hid hrn
      have Hmn := Lib.hid hmn
      obtain ⟨an, cn, rfl, on, pn, -⟩ := hown.open_
      clear hb hown hrn hmn
      have hsum : ((ra.length : Int) + (rn.length : Int) != (X0.length : Int)) = false := by
        have := parts_len (and_eq HX0.out Hra.out Hma.out) (not_eq HX0.out Hrn.out Hmn.out)
        rw [bne_eq_false_iff_eq]; omega
      have hlx := hsum
      go_wp2_with fail
      refine (or_any _ _ ra rn _ (HS4.out.get 1 rfl) (HS4.out.get 0 rfl) Hra.out Hrn.out (by omega)).mono ?_
      rintro e w5 ⟨vo, ro, rfl, hown, hb, hro, hlo, hmo⟩
      have HS5 := Lib.hid ((HS4.out.step hb).add (fun w => Ints w vo ro) (fun w' hb => hown.ints.below hb))
      have HQ := Lib.hid (same_yes (rising_ext hro HX0.out (fun m => by rw [hmo, Hma.out, Hmn.out]; exact ⟨fun h => h.elim (·.1) (·.1), fun h => (Classical.em (m ∈ X1)).elim (fun e => .inl ⟨h, e⟩) (fun e => .inr ⟨h, e⟩)⟩)) vo)
      clear hb hown hro hmo
      go_wp2_with fail
      refine (HQ.out _ _ (HS5.out.get 0 rfl) (HS5.out.get 4 rfl)).mono ?_
      rintro e w6 ⟨rfl, hb⟩
      have HS6 := Lib.hid (HS5.out.step hb)
      clear hb
      go_wp2_with fail
      refine (and_any _ _ ra rn _ (HS6.out.get 2 rfl) (HS6.out.get 1 rfl) Hra.out Hrn.out (by omega)).mono ?_
      rintro e w7 ⟨vz, rz, rfl, hown, hb, hrz, hlz, hmz⟩
      have HS7 := Lib.hid ((HS6.out.step hb).add (fun w => Ints w vz rz) (fun w' hb => hown.ints.below hb))
      obtain rfl := none_nil (r := rz) (fun m h => (Hmn.out m).1 ((hmz m).1 h).2 |>.2 ((Hma.out m).1 ((hmz m).1 h).1).2)
      obtain ⟨az, cz, rfl, -, -, -⟩ := hown.open_
      clear hb hown hrz hmz
      go_wp2_with fail
      refine (or_any _ _ X0 X1 _ (HS7.out.get 5 rfl) (HS7.out.get 4 rfl) HX0.out HX1.out (by omega)).mono ?_
      rintro e w8 ⟨v1o, r1o, rfl, hown, hb, hr1, hl1, hm1⟩
      have HS8 := Lib.hid ((HS7.out.step hb).add (fun w => Ints w v1o r1o) (fun w' hb => hown.ints.below hb))
      have Hr1 := Lib.hid hr1
      have Hm1 := Lib.hid hm1
      clear hb hown hr1 hm1
      go_wp2_with fail
      refine (or_any _ _ X1 X0 _ (HS8.out.get 5 rfl) (HS8.out.get 6 rfl) HX1.out HX0.out (by omega)).mono ?_
      rintro e w9 ⟨v2o, r2o, rfl, hown, hb, hr2, hl2', hm2⟩
      have HS9 := Lib.hid ((HS8.out.step hb).add (fun w => Ints w v2o r2o) (fun w' hb => hown.ints.below hb))
      have HQ2 := Lib.hid (same_yes (rising_ext Hr1.out hr2 (fun m => by rw [Hm1.out, hm2]; exact ⟨Or.symm, Or.symm⟩)) v1o v2o)
      clear hb hown hr2 hm2
      go_wp2_with fail
      refine (HQ2.out _ (HS9.out.get 1 rfl) (HS9.out.get 0 rfl)).mono ?_
      rintro e w10 ⟨rfl, hb⟩
      have HS10 := Lib.hid (HS9.out.step hb)
      clear hb
      go_wp2_with fail
      refine (and_any _ _ X1 X0 _ (HS10.out.get 6 rfl) (HS10.out.get 7 rfl) HX1.out HX0.out (by omega)).mono ?_
      rintro e w11 ⟨v3a, r3a, rfl, hown, hb, hr3, hl3, hm3⟩
      have HS11 := Lib.hid ((HS10.out.step hb).add (fun w => Ints w v3a r3a) (fun w' hb => hown.ints.below hb))
      have HQ3 := Lib.hid (same_yes (rising_ext Hra.out hr3 (fun m => by rw [Hma.out, hm3]; exact ⟨And.symm, And.symm⟩)))
      clear hb hown hr3 hm3
      go_wp2_with fail
      refine (HQ3.out _ _ _ (HS11.out.get 6 rfl) (HS11.out.get 0 rfl)).mono ?_
      rintro e w12 ⟨rfl, hb⟩
      have HS12 := Lib.hid (HS11.out.step hb)
      clear hb
      go_wp2_with fail
      refine (or_any _ _ X0 X1 _ (HS12.out.get 8 rfl) (HS12.out.get 7 rfl) HX0.out HX1.out (by omega)).mono ?_
      rintro e w13 ⟨v4o, r4o, rfl, hown, hb, hr4, hl4, hm4⟩
      have HS13 := Lib.hid ((HS12.out.step hb).add (fun w => Ints w v4o r4o) (fun w' hb => hown.ints.below hb))
      have HQ4 := Lib.hid (same_yes (or_eq HX0.out HX1.out hr4 hm4) v4o)
      clear hb hown hr4 hm4
      go_wp2_with fail
      refine (refOr_any _ _ X0 X1 _ (HS13.out.get 9 rfl) (HS13.out.get 8 rfl) (by omega)).mono ?_
      rintro e w14 ⟨v5o, rfl, hown, hb⟩
      have HS14 := Lib.hid ((HS13.out.step hb).add (fun w => Ints w v5o _) (fun w' hb => hown.ints.below hb))
      clear hb hown
      go_wp2_with fail
      refine (HQ4.out _ _ (HS14.out.get 1 rfl) (HS14.out.get 0 rfl)).mono ?_
      rintro e w15 ⟨rfl, hb⟩
      have HS15 := Lib.hid (HS14.out.step hb)
      clear hb
      go_wp2_with fail
      refine ((risesB_of HX0.out) ▸ reads (postRises_any _ X0 _ (HS15.out.get 10 rfl))).mono ?_
      rintro e w16 ⟨rfl, hb⟩
      have HS16 := Lib.hid (HS15.out.step hb)
      clear hb
      go_wp2_with fail
      go_ret
      exact ⟨rfl, HS16.out.bel⟩
    · go_enter Try.func4, Try.ntmps4
      go_wp2_with fail
      go_ret
      exact ⟨rfl, Below.refl _ _⟩
  · go_enter Try.func4, Try.ntmps4
    go_wp2_with fail
    go_ret
    exact ⟨rfl, Below.refl _ _⟩
end Go.Proofs.Ytlbnofaehkdlpaa
