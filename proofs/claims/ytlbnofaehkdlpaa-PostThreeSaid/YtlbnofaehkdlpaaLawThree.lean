/-
  PostThree: And of one list and Or of two is Or of both Ands; Not of Or is both Nots.
-/
import Derived.Test.YtlbnofaehkdlpaaLawHas
namespace Go.Proofs.Ytlbnofaehkdlpaa
open Go.RowKit

set_option maxRecDepth 100000 in
set_option maxHeartbeats 2000000 in
theorem three_walk (v0 v1 v2 : Value) (xs0 xs1 xs2 : List Int) (w : World) (h0 : Ints w v0 xs0) (h1 : Ints w v1 xs1) (h2 : Ints w v2 xs2) :
    Calls Try.prog 7 #[v0, v1, v2] w fun e w' => e = .returned (.bool true) ∧ Below w.heap.size w w' := by
  have HS := Lib.hid ((((St.start w).add (fun w => Ints w v0 xs0) (fun w' hb => h0.below hb)).add (fun w => Ints w v1 xs1) (fun w' hb => h1.below hb)).add (fun w => Ints w v2 xs2) (fun w' hb => h2.below hb))
  obtain ⟨a0, c0, rfl, p0, q0, -⟩ := h0
  obtain ⟨a1, c1, rfl, p1, q1, -⟩ := h1
  obtain ⟨a2, c2, rfl, p2, q2, -⟩ := h2
  by_cases hl : xs0.length ≤ 4096
  · by_cases hl2 : xs1.length ≤ 4096
    · by_cases hl3 : xs2.length ≤ 4096
      · obtain ⟨X0, hX0, lx0, hc0⟩ := rising_some xs0
        have HX0 := Lib.hid hX0
        have HR0 := Lib.hid hc0
        clear hX0 hc0
        obtain ⟨X1, hX1, lx1, hc1⟩ := rising_some xs1
        have HX1 := Lib.hid hX1
        have HR1 := Lib.hid hc1
        clear hX1 hc1
        obtain ⟨X2, hX2, lx2, hc2⟩ := rising_some xs2
        have HX2 := Lib.hid hX2
        have HR2 := Lib.hid hc2
        clear hX2 hc2
        go_enter Try.func7, Try.ntmps7
        go_wp2_with fail
        refine (HR0.out _ _ (HS.out.get 2 rfl)).mono ?_
        rintro e w1 ⟨x, rfl, hown, hb⟩
        have HS1 := Lib.hid ((HS.out.step hb).add (fun w => Ints w x X0) (fun w' hb => hown.ints.below hb))
        clear hb hown
        go_wp2_with fail
        refine (HR1.out _ _ (HS1.out.get 2 rfl)).mono ?_
        rintro e w2 ⟨y, rfl, hown, hb⟩
        have HS2 := Lib.hid ((HS1.out.step hb).add (fun w => Ints w y X1) (fun w' hb => hown.ints.below hb))
        clear hb hown
        go_wp2_with fail
        refine (HR2.out _ _ (HS2.out.get 2 rfl)).mono ?_
        rintro e w3 ⟨z, rfl, hown, hb⟩
        have HS3 := Lib.hid ((HS2.out.step hb).add (fun w => Ints w z X2) (fun w' hb => hown.ints.below hb))
        clear hb hown
        go_wp2_with fail
        have HS4 := Lib.hid ((HS3.out.alloc (.cells #[.int .i64 4] 3)).add (fun w => Ints w _ [4]) (fun w' hb => (ints_lit _ 4).below hb))
        refine (or_any _ _ X1 X2 _ (HS4.out.get 2 rfl) (HS4.out.get 1 rfl) HX1.out HX2.out (by omega)).mono ?_
        rintro e w5 ⟨b1, rb1, rfl, hown, hb, hb1, lb1, mb1⟩
        have HS5 := Lib.hid ((HS4.out.step hb).add (fun w => Ints w b1 rb1) (fun w' hb => hown.ints.below hb))
        have Hb1 := Lib.hid hb1
        have Mb1 := Lib.hid mb1
        clear hb hown hb1 mb1
        go_wp2_with fail
        refine (and_any _ _ X0 rb1 _ (HS5.out.get 4 rfl) (HS5.out.get 0 rfl) HX0.out Hb1.out (by omega)).mono ?_
        rintro e w6 ⟨b2, rb2, rfl, hown, hb, hb2, lb2, mb2⟩
        have HS6 := Lib.hid ((HS5.out.step hb).add (fun w => Ints w b2 rb2) (fun w' hb => hown.ints.below hb))
        have Hb2 := Lib.hid hb2
        have Mb2 := Lib.hid mb2
        clear hb hown hb2 mb2
        go_wp2_with fail
        refine (and_any _ _ X0 X1 _ (HS6.out.get 5 rfl) (HS6.out.get 4 rfl) HX0.out HX1.out (by omega)).mono ?_
        rintro e w7 ⟨b3, rb3, rfl, hown, hb, hb3, lb3, mb3⟩
        have HS7 := Lib.hid ((HS6.out.step hb).add (fun w => Ints w b3 rb3) (fun w' hb => hown.ints.below hb))
        have Hb3 := Lib.hid hb3
        have Mb3 := Lib.hid mb3
        clear hb hown hb3 mb3
        go_wp2_with fail
        refine (and_any _ _ X0 X2 _ (HS7.out.get 6 rfl) (HS7.out.get 4 rfl) HX0.out HX2.out (by omega)).mono ?_
        rintro e w8 ⟨b4, rb4, rfl, hown, hb, hb4, lb4, mb4⟩
        have HS8 := Lib.hid ((HS7.out.step hb).add (fun w => Ints w b4 rb4) (fun w' hb => hown.ints.below hb))
        have Hb4 := Lib.hid hb4
        have Mb4 := Lib.hid mb4
        clear hb hown hb4 mb4
        go_wp2_with fail
        refine (or_any _ _ rb3 rb4 _ (HS8.out.get 1 rfl) (HS8.out.get 0 rfl) Hb3.out Hb4.out (by omega)).mono ?_
        rintro e w9 ⟨b5, rb5, rfl, hown, hb, hb5, lb5, mb5⟩
        have HS9 := Lib.hid ((HS8.out.step hb).add (fun w => Ints w b5 rb5) (fun w' hb => hown.ints.below hb))
        have Hb5 := Lib.hid hb5
        have Mb5 := Lib.hid mb5
        clear hb hown hb5 mb5
        have HQ := Lib.hid (same_yes (rising_ext Hb2.out Hb5.out (fun m => by rw [Mb2.out, Mb5.out, Mb1.out, Mb3.out, Mb4.out]; grind)))
        go_wp2_with fail
        refine (HQ.out _ _ _ (HS9.out.get 3 rfl) (HS9.out.get 0 rfl)).mono ?_
        rintro e w10 ⟨rfl, hb⟩
        have HS10 := Lib.hid (HS9.out.step hb)
        clear hb
        clear HQ
        go_wp2_with fail
        refine (has_is (rising_one 4) (by decide) (has_one 4) _ _ (HS10.out.get 5 rfl)).mono ?_
        rintro e w11 ⟨rfl, hb⟩
        have HS11 := Lib.hid (HS10.out.step hb)
        clear hb
        go_wp2_with fail
        refine (or_any _ _ X1 X2 _ (HS11.out.get 7 rfl) (HS11.out.get 6 rfl) HX1.out HX2.out (by omega)).mono ?_
        rintro e w12 ⟨d1, rd1, rfl, hown, hb, hd1, ld1, md1⟩
        have HS12 := Lib.hid ((HS11.out.step hb).add (fun w => Ints w d1 rd1) (fun w' hb => hown.ints.below hb))
        have Hd1 := Lib.hid hd1
        have Md1 := Lib.hid md1
        clear hb hown hd1 md1
        go_wp2_with fail
        refine (not_any _ _ X0 rd1 _ (HS12.out.get 9 rfl) (HS12.out.get 0 rfl) HX0.out Hd1.out (by omega)).mono ?_
        rintro e w13 ⟨d2, rd2, rfl, hown, hb, hd2, ld2, md2⟩
        have HS13 := Lib.hid ((HS12.out.step hb).add (fun w => Ints w d2 rd2) (fun w' hb => hown.ints.below hb))
        have Hd2 := Lib.hid hd2
        have Md2 := Lib.hid md2
        clear hb hown hd2 md2
        go_wp2_with fail
        refine (not_any _ _ X0 X1 _ (HS13.out.get 10 rfl) (HS13.out.get 9 rfl) HX0.out HX1.out (by omega)).mono ?_
        rintro e w14 ⟨d3, rd3, rfl, hown, hb, hd3, ld3, md3⟩
        have HS14 := Lib.hid ((HS13.out.step hb).add (fun w => Ints w d3 rd3) (fun w' hb => hown.ints.below hb))
        have Hd3 := Lib.hid hd3
        have Md3 := Lib.hid md3
        clear hb hown hd3 md3
        go_wp2_with fail
        refine (not_any _ _ rd3 X2 _ (HS14.out.get 0 rfl) (HS14.out.get 9 rfl) Hd3.out HX2.out (by omega)).mono ?_
        rintro e w15 ⟨d4, rd4, rfl, hown, hb, hd4, ld4, md4⟩
        have HS15 := Lib.hid ((HS14.out.step hb).add (fun w => Ints w d4 rd4) (fun w' hb => hown.ints.below hb))
        have Hd4 := Lib.hid hd4
        have Md4 := Lib.hid md4
        clear hb hown hd4 md4
        have HQ := Lib.hid (same_yes (rising_ext Hd2.out Hd4.out (fun m => by rw [Md2.out, Md4.out, Md1.out, Md3.out]; grind)))
        go_wp2_with fail
        refine (HQ.out _ _ _ (HS15.out.get 2 rfl) (HS15.out.get 0 rfl)).mono ?_
        rintro e w16 ⟨rfl, hb⟩
        have HS16 := Lib.hid (HS15.out.step hb)
        clear hb
        clear HQ
        go_wp2_with fail
        refine (and_any _ _ X1 X2 _ (HS16.out.get 11 rfl) (HS16.out.get 10 rfl) HX1.out HX2.out (by omega)).mono ?_
        rintro e w17 ⟨e1, re1, rfl, hown, hb, he1, le1, me1⟩
        have HS17 := Lib.hid ((HS16.out.step hb).add (fun w => Ints w e1 re1) (fun w' hb => hown.ints.below hb))
        have He1 := Lib.hid he1
        have Me1 := Lib.hid me1
        clear hb hown he1 me1
        go_wp2_with fail
        refine (or_any _ _ X0 re1 _ (HS17.out.get 13 rfl) (HS17.out.get 0 rfl) HX0.out He1.out (by omega)).mono ?_
        rintro e w18 ⟨e2, re2, rfl, hown, hb, he2, le2, me2⟩
        have HS18 := Lib.hid ((HS17.out.step hb).add (fun w => Ints w e2 re2) (fun w' hb => hown.ints.below hb))
        have He2 := Lib.hid he2
        have Me2 := Lib.hid me2
        clear hb hown he2 me2
        go_wp2_with fail
        refine (or_any _ _ X0 X1 _ (HS18.out.get 14 rfl) (HS18.out.get 13 rfl) HX0.out HX1.out (by omega)).mono ?_
        rintro e w19 ⟨e3, re3, rfl, hown, hb, he3, le3, me3⟩
        have HS19 := Lib.hid ((HS18.out.step hb).add (fun w => Ints w e3 re3) (fun w' hb => hown.ints.below hb))
        have He3 := Lib.hid he3
        have Me3 := Lib.hid me3
        clear hb hown he3 me3
        go_wp2_with fail
        refine (or_any _ _ X0 X2 _ (HS19.out.get 15 rfl) (HS19.out.get 13 rfl) HX0.out HX2.out (by omega)).mono ?_
        rintro e w20 ⟨e4, re4, rfl, hown, hb, he4, le4, me4⟩
        have HS20 := Lib.hid ((HS19.out.step hb).add (fun w => Ints w e4 re4) (fun w' hb => hown.ints.below hb))
        have He4 := Lib.hid he4
        have Me4 := Lib.hid me4
        clear hb hown he4 me4
        go_wp2_with fail
        refine (and_any _ _ re3 re4 _ (HS20.out.get 1 rfl) (HS20.out.get 0 rfl) He3.out He4.out (by omega)).mono ?_
        rintro e w21 ⟨e5, re5, rfl, hown, hb, he5, le5, me5⟩
        have HS21 := Lib.hid ((HS20.out.step hb).add (fun w => Ints w e5 re5) (fun w' hb => hown.ints.below hb))
        have He5 := Lib.hid he5
        have Me5 := Lib.hid me5
        clear hb hown he5 me5
        have HQ := Lib.hid (same_yes (rising_ext He2.out He5.out (fun m => by rw [Me2.out, Me5.out, Me1.out, Me3.out, Me4.out]; grind)))
        go_wp2_with fail
        refine (HQ.out _ _ _ (HS21.out.get 3 rfl) (HS21.out.get 0 rfl)).mono ?_
        rintro e w22 ⟨rfl, hb⟩
        have HS22 := Lib.hid (HS21.out.step hb)
        clear hb
        clear HQ
        go_wp2_with fail
        go_ret
        exact ⟨rfl, HS22.out.bel⟩
      · go_enter Try.func7, Try.ntmps7
        go_wp2_with fail
        go_ret
        exact ⟨rfl, Below.refl _ _⟩
    · go_enter Try.func7, Try.ntmps7
      go_wp2_with fail
      go_ret
      exact ⟨rfl, Below.refl _ _⟩
  · go_enter Try.func7, Try.ntmps7
    go_wp2_with fail
    go_ret
    exact ⟨rfl, Below.refl _ _⟩
end Go.Proofs.Ytlbnofaehkdlpaa
